/- -/
import Derived.Test.YtpjojkomdndamaaGreatDoorLC
import Derived.Test.YtpjojkomdndamaaGreatDoorMx1
import Derived.Test.YtpjojkomdndamaaGreatDoorMxSo
set_option maxRecDepth 100000
set_option maxHeartbeats 4000000
set_option linter.unusedVariables false
namespace Go.Pw
open Go.Proofs
theorem QbS {w0 w : World} {s : PHeap} {H : List Res} {f : (List Int)} {b c : Nat} {r : (List Int)} (hm : Kd f = some r) (hS : St w0 s (H) w) (h : At s b c (QM (Qa .i64)) f) :
  Calls Tryz.prog 32 #[Value.func (.func 54) #[] #[Value.pointer (some ⟨b, c, none⟩)]] w fun e w' => ∃ v, e = .returned v ∧ ((fun (u : (List Int)) => ∃ (d : PHeap) (g : Value), PHeap.le s d ∧ St w0 d (H) w' ∧ v = g ∧ SliceRep (Qa .i64) d g u) r) := by
 unfold Kd at hm
 refine Qw Tryz.func32 Z Z (Zc (Zd (O Z Z (Zo (v := Vn) Z Z (Zb (V (Zc (Zd (O Z Z (Zm (v := Value.func (.func 54) #[] #[Vp (some ⟨b, c, none⟩)]) Z Z ?_))))))))))
 obtain ⟨y, o, hm⟩ := Zg hm
 refine O Z Z (Tc Z Z Z (Zi Z Qk) (QiQ o hS h).r ?_)
 rintro a ac ⟨aa, _, l, i, rfl⟩
 refine O Z Z (Zo (v := a) Z Z (Zb (V (Zc (Zd (O Z Z (Zm (v := a) Z Z ?_)))))))
 obtain ⟨z, p, hm⟩ := Zg hm
 refine O Z Z (Tc Z Z Z (Zi Z Qk) (QcK p i).r ?_)
 rintro _ ad ⟨ab, m, j, rfl⟩
 refine Zb (V (Zc (Zd (O Z Z (Zm (v := a) Z Z (O Z Z (Zo (v := a) Z Z (Zb (V (Q0 ?_))))))))))
 have x := Zu hm
 subst r
 refine ⟨_, QW Z, ?_⟩
 obtain ⟨t, n, k, q⟩ := j.freezeArr
 exact ⟨t, a, (Zt (Zt l m) n), k, Z, q⟩
theorem Z3 : JL Tryz.prog 3 = some (U 0) := by kernel_rfl
theorem Qbl {w0 w : World} {s : PHeap} {H : List Res} {h : Int} {r : (List Int)} (hm : Kz h = some r) (hS : St w0 s (H) w) :
  Calls Tryz.prog 35 #[U h] w fun e w' => ∃ v, e = .returned v ∧ ((fun (aq : (List Int)) => ∃ (j : PHeap) (t : Value), PHeap.le s j ∧ St w0 j (H) w' ∧ v = t ∧ SliceRep (Qa .i64) j t aq) r) := by
 unfold Kz at hm
 refine Qw Tryz.func35 Z Z (Zc (Zd (O Z Z (Zo (v := Vn) Z Z (Zb (V (Zc (Zd (O Z Z (Zm (v := U h) Z Z ?_))))))))))
 obtain ⟨ad, aj, hm⟩ := Zg hm
 refine O Z Z (Kr (E := (Qa .i64)) hS JG Z3 Z Z Z Z aj ?_)
 intro a a1 d
 refine O Z Z (Zo (v := a) Z Z (Zb (V (Zc (Zc (Zd (O Z Z (Zm (v := a) Z Z (O Z Z (QP (d) JG Z Z (O Z Z (Zm (v := U 0) Z Z (Zb (V ?_))))))))))))))
 obtain ⟨g, u, hm⟩ := Zg hm
 refine Qo (JZ (fun k' s' f' w' => (fun (g : (List Int)) => ∃ (q : PHeap) , PHeap.le s q ∧ St w0 q (Res.arr (Qa .i64) 3 a g :: H) w' ∧ f' 3 = a ∧ f' 8 = U ((ad.length : Int)) ∧ f' 9 = U (k' : Int)) s') u ?_ ?_ ?_)
 ·exact ⟨s, (Zv _), d, Z, Z, Z⟩
 ·intro c g am aw a2 ac x b
  obtain ⟨an, ae, n, o, p, l⟩ := x
  refine Zc (Zd (O Z Z (Zq Z l p (Zb (V (Zc (QL (Zx (decide_eq_true (by omega))) (Qq (V (Zc (Qo (Zc (Zd (O Z Z (Zm (v := U ((c : Int))) Z l (O Z Z (Zo (v := U ((c : Int))) Z Z (Zb (V (Zd (O Z Z (Zm (v := a) Z o (O Z Z (Zm (v := U ((c : Int))) Z Z (O Z Z (Zm (v := U ((c : Int))) Z Z ?_))))))))))))))))))))))))))
  obtain ⟨a5, i, b⟩ := Zg b
  obtain ⟨ay, ar, m⟩ := n.arr_at i
  refine O Z Z (Qd JG Z m Z (Qg i).1 (Qg i).2.1 ?_)
  obtain ⟨az, ak, b⟩ := Zg b
  refine O Z Z (QQ n m A3 Z Z Z Z (Qv.2 Z) ak ?_)
  intro a3 z
  refine Zb (Qz (V (Zd (O Z Z (Exec.add Z l Z (O Z Z (Zm (v := U (IntKind.i64.wrap ((c : Int) + 1))) Z Z (Zb (V ?_)))))))))
  have au := Zu b
  subst am
  exact ⟨an, ae, z, o, p, (Eq.trans Z (QF ac d.arr_le))⟩
 intro ax a4 y
 obtain ⟨a0, af, aa, ah, ai, ap⟩ := y
 refine Zc (Zd (O Z Z (Zq Z ap ai (Zb (V (Zc (QB (Zx (decide_eq_false (by omega))) (QJ (Qn (Qn (Q9 (V (Zc (Zd (O Z Z (Zm (v := a) Z ah (O Z Z (Zo (v := a) Z Z (Zb (V (Q0 ?_)))))))))))))))))))))
 have av := Zu hm
 subst r
 refine ⟨_, QW Z, ?_⟩
 obtain ⟨ao, ag, ab, al⟩ := aa.freezeArr
 exact ⟨ao, a, (Zt af ag), ab, Z, al⟩
theorem Y9 {w0 w : World} {s : PHeap} {H : List Res} {n : (List Int)} {ab : (List Int)} {b : Value} {c : Value} {r : Bool} (hm : Jv n ab = some r) (hS : St w0 s (H) w) (j : SliceRep (Qa .i64) s b n) (p : SliceRep (Qa .i64) s c ab) :
  Calls Tryz.prog 34 #[b, c] w fun e w' => ∃ v, e = .returned v ∧ ((fun (a8 : Bool) => ∃ (ac : PHeap) , PHeap.le s ac ∧ St w0 ac (H) w' ∧ v = Value.bool (a8)) r) := by
 unfold Jv at hm
 refine Qw Tryz.func34 Z Z (Zc (Zd (O Z Z (Zo (v := Vb false) Z Z (Zb (V (Zc (Zc (Zd (O Z Z (Zm (v := b) Z Z (O Z Z (Zr JG Z Z j (O Z Z (Zm (v := c) Z Z (O Z Z (Zr JG Z Z p (O Z Z (Exec.neq Z Z Z (Zb (V ?_)))))))))))))))))))))
 rcases Qf hm with ⟨d, hm⟩ | ⟨d, hm⟩
 ·refine Qr Z d (Zc (Zd (O Z Z (Zo (v := Vb false) Z Z (Zb (V (Q0 (Qi ?_))))))))
  have aB := Zu hm
  subst r
  refine ⟨_, QW Z, ?_⟩
  exact ⟨s, (Zv _), hS, Z⟩
 refine Qs Z d ?_
 replace d := Zk d
 refine Qq (V (Zc (Zc (Zd (O Z Z (Zm (v := b) Z Z (O Z Z (Zr JG Z Z j (O Z Z (Zm (v := U 0) Z Z (Zb (V ?_))))))))))))
 obtain ⟨q, ai, au, aq, ao⟩ := QN hm
 refine QK (M := fun f' w' => ∃ s', (q = .next s' ∨ q = .brk s') ∧ (fun (_ : Unit) => ∃ (ad : PHeap) , PHeap.le s ad ∧ St w0 ad (H) w' ∧ f' 0 = b ∧ f' 1 = c ∧ f' 12 = U ((n.length : Int))) s') ?_ ?_
 ·refine Qo (JI (fun k' s' f' w' => (fun (_ : Unit) => ∃ (ae : PHeap) , PHeap.le s ae ∧ St w0 ae (H) w' ∧ f' 0 = b ∧ f' 1 = c ∧ f' 12 = U ((n.length : Int)) ∧ f' 13 = U (k' : Int)) s') ai ?_ ?_ ?_)
  ·exact ⟨s, (Zv _), hS, Z, Z, Z, Z⟩
  ·intro i aQ t aI aV ap aj a av
   obtain ⟨af, m, l, x, y, z, o⟩ := aj
   refine Zc (Zd (O Z Z (Zq Z o z (Zb (V (Zc (QL (Zx (decide_eq_true (by omega))) (Qq (V (Zc (Qo (Zc (Zd (O Z Z (Zm (v := U ((i : Int))) Z o (O Z Z (Zo (v := U ((i : Int))) Z Z (Zb (V (Zc (KT (n0 := 9) (qs 0 9 .done) Yc (by kernel_rfl) (by kernel_rfl) (Qm Z Z (Zm (v := b) Z x ⟨Z, ?_⟩)))))))))))))))))))))))
   refine Qm Z Z (Zm (v := U ((i : Int))) Z Z ⟨Z, ?_⟩)
   obtain ⟨aY, a1, a⟩ := Zg a
   refine Qm Z Z (QT JG Z Z Z (j.mono m) a1 ?_)
   intro a9 aL ag aC
   refine ⟨Z, ?_⟩
   refine Qm Z Z (Zw (E := (Qa .i64)) l.drew A3 Z Z Z ag ?_)
   intro aT a2
   obtain rfl := Qv.1 a2
   refine ⟨Z, ?_⟩
   refine Qm Z Z (Zm (v := c) Z y ⟨Z, ?_⟩)
   refine Qm Z Z (Zm (v := U ((i : Int))) Z Z ⟨Z, ?_⟩)
   obtain ⟨aZ, a3, a⟩ := Zg a
   refine Qm Z Z (QT JG Z Z Z (p.mono m) a3 ?_)
   intro aA aM ah aD
   refine ⟨Z, ?_⟩
   refine Qm Z Z (Zw (E := (Qa .i64)) l.drew A3 Z Z Z ah ?_)
   intro aU a4
   obtain rfl := Qv.1 a4
   refine ⟨Z, ?_⟩
   refine Qm Z Z (Exec.neq Z Z Z ⟨Z, ?_⟩)
   refine QG (Zb (V ?_))
   rcases Qf a with ⟨g, a⟩ | ⟨g, a⟩
   ·refine Qr Z g (Zc (Zd (O Z Z (Zo (v := Vb false) Z Z (Zb (V (Q0 (QC (Qi (Qi (QC (Qi (Qi ?_)))))))))))))
    have aE := Zu a
    subst t
    have ar := au _ (av (by intro _ h; cases h))
    have aF := Zu ar
    subst r
    refine ⟨_, QW Z, ?_⟩
    exact ⟨af, m, l.drew, Z⟩
   refine Qs Z g ?_
   replace g := Zk g
   refine Qq (Qz (V (Zd (O Z Z (Exec.add Z o Z (O Z Z (Zm (v := U (IntKind.i64.wrap ((i : Int) + 1))) Z Z (Zb (V ?_)))))))))
   have aG := Zu a
   subst t
   refine ⟨_, Z, ?_⟩; exact ⟨af, m, l.drew, x, y, z, (Eq.trans Z (QF ap (SliceRep.le j)))⟩
  intro aR aJ aW ak aw
  obtain ⟨a5, ax, am, az, a0, aa, a7⟩ := ak
  refine Zc (Zd (O Z Z (Zq Z a7 aa (Zb (V (Zc (QB (Zx (decide_eq_false (by omega))) (QJ (Qn (Qn (Q9 (V ?_))))))))))))
  refine ⟨_, .inl aw, ?_⟩; exact ⟨a5, ax, am, az, a0, aa⟩
 rintro aK aX ⟨aS, u, al⟩
 have hm := u.elim (aq _) (ao _)
 clear u
 obtain ⟨a6, ay, an, aN, aO, aP⟩ := al
 refine (V (Zc (Zd (O Z Z (Zo (v := Vb true) Z Z (Zb (V (Q0 ?_))))))))
 have aH := Zu hm
 subst r
 refine ⟨_, QW Z, ?_⟩
 exact ⟨a6, ay, an, Z⟩
theorem Ji {w0 w : World} {s : PHeap} {H : List Res} {b : (List Int)} {c : Value} {r : (List Int)} (hm : QA b = some r) (hS : St w0 s (H) w) (d : SliceRep (Qa .i64) s c b) :
  Calls Tryz.prog 36 #[c] w fun e w' => ∃ v, e = .returned v ∧ ((fun (u : (List Int)) => ∃ (g : PHeap) (h : Value), PHeap.le s g ∧ St w0 g (Res.arr (Qa .i64) 3 h u :: H) w' ∧ v = h) r) := by
 unfold QA at hm
 refine Qw Tryz.func36 Z Z (Zc (Zd (O Z Z (Zo (v := Vn) Z Z (Zb (V (Zc (Zc (Zd (O Z Z (Zm (v := c) Z Z ?_)))))))))))
 obtain ⟨j, ab, y, k, p⟩ := d.nilShape
 refine O Z Z (QbQ Tryz.underlying22 Z k Z (Zb (V ?_)))
 by_cases a : j.isNone = true
 ·have q := p a
  replace hm := (show (some []) = ((app 8 [] b).bind fun f => some f) from by simp [q, app]).trans hm
  refine QL ((Zx a)) (Zc (Zd (O Z Z (Zo (v := Vn) Z Z (Zb (V (Q0 (Qi ?_))))))))
  have z := Zu hm
  subst r
  refine ⟨_, QW Z, ?_⟩
  have l := hS.nilArr (Qa .i64) 3
  exact ⟨s, Vn, (Zv _), l, Z⟩
 replace a := Zk a
 refine QB ((Zx a)) (Qq (V (Zc (Zd (O Z Z (Exec.buildSlice (Te := 3) (cs := []) hS Z Qu (fun _ => by kernel_rfl) ?_))))))
 intro x ac m
 refine O Z Z (Zm (v := c) Z Z ?_)
 have n := St.boxArr (E := (Qa .i64)) (xs := []) m rfl (by simp [maxLen])
 obtain ⟨f, t, hm⟩ := Zg hm
 refine O Z Z (Qfy (E := (Qa .i64)) (ys := b) n JG Z3 Z (by decide) Z Z Z d t ?_)
 intro i ad o
 refine O Z Z (Zo (v := i) Z Z (Zb (V (Q0 ?_))))
 have aa := Zu hm
 subst r
 refine ⟨_, QW Z, ?_⟩
 exact ⟨s, i, (Zv _), o, Z⟩
theorem Z38 : JL Tryz.prog 38 = some (Value.agg #[U 0, U 0, Value.slice none 0 0, Value.slice none 0 0, Value.slice none 0 0]) := by kernel_rfl
theorem QeA {w0 w : World} {s : PHeap} {H : List Res} {ai : Task} {ag : (List Int)} {n : Value} {o : Value} {p : Value} {q : Value} {g : Value} {r : (Option Int)} (hm : KW ai ag = some r) (hS : St w0 s (H) w) (am : SliceRep (Qa .i64) s n ai.Vars) (a4 : SliceRep (Qa .i64) s o ai.Init) (a5 : SliceRep encFact s p ai.Goal) (a6 : SliceRep encOp s q ai.Ops) (aj : SliceRep (Qa .i64) s g ag) :
  Calls Tryz.prog 75 #[Value.agg #[n, o, p, q], g] w fun e w' => ∃ v, e = .returned v ∧ ((fun (bf : (Option Int)) => ∃ (ay : PHeap) , PHeap.le s ay ∧ St w0 ay (H) w' ∧ v = QD 50 (bf)) r) := by
 unfold KW at hm
 refine Qw Tryz.func75 Z Z (Zc (Zd (O Z Z (Exec.box (cs := [n, o, p, q]) hS Z Z Z ?_))))
 intro y b7 ap
 refine O Z Z (Zo (v := QD 50 (none)) Z Z (Zb (V (Zc (Zc (Zd (O Z Z (Ql (ds := [n, o, p, q]) (ap) A26 Z Z Z ?_))))))))
 obtain ⟨al, aX, hm⟩ := Zg hm
 refine O Z Z (Tc Z Z Z (Zi Z Qk) (Qdm aX ap am a4 a5 a6).r ?_)
 rintro _ b8 ⟨ak, j, aq, rfl⟩
 refine O Z Z (Zo (v := QD 50 (al)) Z Z (Zb (V (Zc (Zd (O Z Z (Zm (v := QD 50 (al)) Z Z (O Z Z (Jj (T := 50) Tryz.underlying32 Z Z Z (Zb (V ?_)))))))))))
 rcases Qf hm with ⟨z, hm⟩ | ⟨z, hm⟩
 ·refine Qr Z z (Zc (Zd (O Z Z (Zm (v := QD 50 (al)) Z Z (O Z Z (Zo (v := QD 50 (al)) Z Z (Zb (V (Q0 (Qi ?_))))))))))
  have bi := Zu hm
  subst r
  refine ⟨_, QW Z, ?_⟩
  exact ⟨ak, j, aq.drop, Z⟩
 refine Qs Z z ?_
 replace z := Zk z
 refine Qq (V (Zc (Zc (Zd (O Z Z (Zm (v := g) Z Z (O Z Z (Zr JG Z Z (aj.mono j) (O Z Z (Zm (v := U 0) Z Z (Zb (V ?_))))))))))))
 obtain ⟨an, a9, aK, aI, aG⟩ := QN hm
 refine QK (M := fun f' w' => ∃ s', (an = .next s' ∨ an = .brk s') ∧ (fun (_ : Unit) => ∃ (az : PHeap) , PHeap.le ak az ∧ St w0 az (Res.box y 26 [n, o, p, q] :: H) w' ∧ f' 1 = g ∧ f' 2 = Vq y ∧ f' 13 = g ∧ f' 14 = U ((ag.length : Int))) s') ?_ ?_
 ·refine Qo (JI (fun k' s' f' w' => (fun (_ : Unit) => ∃ (a0 : PHeap) , PHeap.le ak a0 ∧ St w0 a0 (Res.box y 26 [n, o, p, q] :: H) w' ∧ f' 1 = g ∧ f' 2 = Vq y ∧ f' 13 = g ∧ f' 14 = U ((ag.length : Int)) ∧ f' 15 = U (k' : Int)) s') a9 ?_ ?_ ?_)
  ·exact ⟨ak, (Zv _), aq, Z, Z, Z, Z, Z⟩
  ·intro m b2 ao br b9 aH aA i aL
   obtain ⟨ah, ab, l, ac, ad, ae, af, t⟩ := aA
   refine Zc (Zd (O Z Z (Zq Z t af (Zb (V (Zc (QL (Zx (decide_eq_true (by omega))) (Qq (V (Zc (Qo (Zc (Zd (O Z Z (Zm (v := U ((m : Int))) Z t ?_)))))))))))))))
   obtain ⟨u, aY, i⟩ := Zg i
   refine O Z Z (Qy JG Z ae t (aj.mono (Zt j ab)) aY ?_)
   intro bg bv a7
   refine O Z Z (Zw (E := (Qa .i64)) l A3 Z Z Z a7 ?_)
   intro b5 aZ
   obtain rfl := Qv.1 aZ
   refine O Z Z (Zo (v := U ((m : Int))) Z Z (O Z Z (Zo (v := U u) Z Z (Zb (V (Zc ?_))))))
   obtain ⟨x, a, i⟩ := Zg i
   refine QK (M := fun f' w' => (fun (x : Bool) => ∃ (a1 : PHeap) , PHeap.le ah a1 ∧ St w0 a1 (Res.box y 26 [n, o, p, q] :: H) w' ∧ f' 1 = g ∧ f' 2 = Vq y ∧ f' 13 = g ∧ f' 14 = U ((ag.length : Int)) ∧ f' 15 = U ((m : Int)) ∧ f' 41 = Vb x) x) ?_ ?_
   ·refine Zd (O Z Z (Zm (v := U u) Z Z (O Z Z (Zq Z Z Z (O Z Z (Zm (v := Vb (decide (u < 0))) Z Z ?_))))))
    rcases Qf a with ⟨d, a⟩ | ⟨d, a⟩
    ·refine Qx 19 (by rw [d]; rfl) ?_
     refine Zb (V ?_)
     have bj := Zu a
     subst x
     exact ⟨ah, (Zv _), l, ac, ad, ae, af, t, Z⟩
    replace d := Zk d
    refine Qj Z (Zf Z (Zx d)) Z (Zm (v := U u) Z Z (Qj Z (Zf Z (Zx d)) Z (Zp Yu Z ad Z (Qj Z (Zf Z (Zx d)) Z (Zn (l) A22 Z Z Z (Qj Z (Zf Z (Zx d)) Z (Zr JG Z Z (am.mono (Zt j ab)) (Qj Z (Zf Z (Zx d)) Z (Exec.geq Z Z Z ?_)))))))))
    refine Qx 2 (by rw [d]; rfl) ?_
    rcases Qf a with ⟨c, a⟩ | ⟨c, a⟩
    ·refine Qx 12 (by rw [c]; rfl) ?_
     refine Zb (V ?_)
     have bk := Zu a
     subst x
     exact ⟨ah, (Zv _), l, ac, ad, ae, af, t, Z⟩
    replace c := Zk c
    refine Qj Z (Zf Z (Zx c)) Z (Zm (v := U ((m : Int))) Z Z (Qj Z (Zf Z (Zx c)) Z (Exec.gtr Z Z Z (Qj Z (Zf Z (Zx c)) Z (Zm (v := Vb (decide (0 < (m : Int)))) Z Z ?_)))))
    rcases Qf a with ⟨b, a⟩ | ⟨b, a⟩
    ·refine Qj Z (Zf Z (Zx b)) Z (Zm (v := g) Z ac (Qj Z (Zf Z (Zx b)) Z (Zm (v := U ((m : Int))) Z Z (Qj Z (Zf Z (Zx b)) Z (Exec.sub Z Z Z ?_)))))
     obtain ⟨a3, ba, a⟩ := Zg a
     refine Qj Z (Zf Z (Zx b)) Z (Qy JG Z Z Z (aj.mono (Zt j ab)) ba ?_)
     intro bh bw a8
     refine Qj Z (Zf Z (Zx b)) Z (Zw (E := (Qa .i64)) l A3 Z Z Z a8 ?_)
     intro b6 bb
     obtain rfl := Qv.1 bb
     refine Qj Z (Zf Z (Zx b)) Z (Zm (v := U u) Z Z (Qj Z (Zf Z (Zx b)) Z (Exec.geq Z Z Z (Qj Z (Zf Z (Zx c)) Z (Zs (v := Vb (decide (u ≤ a3))) Z (Zx b) Z (O Z Z (Q8 (v := Vb (decide (u ≤ a3))) Z (Zx c) Z (Zb (V ?_)))))))))
     have bl := Zu a
     subst x
     exact ⟨ah, (Zv _), l, ac, ad, ae, af, t, Z⟩
    replace b := Zk b
    refine Qx 7 (by rw [b]; rfl) ?_
    refine Qj Z (Zf Z (Zx c)) Z (Q8 (v := Vb false) Z Z Z (O Z Z (Q8 (v := Vb false) Z (Zx c) Z (Zb (V ?_)))))
    have bm := Zu a
    subst x
    exact ⟨ah, (Zv _), l, ac, ad, ae, af, t, Z⟩
   intro bs bA aC
   obtain ⟨a2, av, ar, aP, aQ, aR, aS, aT, aw⟩ := aC
   refine (V ?_)
   rcases Qf i with ⟨aa, i⟩ | ⟨aa, i⟩
   ·refine Qr aw aa (Zc (Zd (O Z Z (Exec.makeInterface C50 Z Z (O Z Z (Zo (v := QD 50 (some 2)) Z Z (Zb (V (Q0 (QC (Qi (Qi (QC (Qi (Qi ?_)))))))))))))))
    have bn := Zu i
    subst ao
    have aJ := aK _ (aL (by intro _ h; cases h))
    have bo := Zu aJ
    subst r
    refine ⟨_, QW Z, ?_⟩
    exact ⟨a2, (Zt (Zt j ab) av), ar.drop, Z⟩
   refine Qs aw aa ?_
   replace aa := Zk aa
   refine Qq (Qz (V (Zd (O Z Z (Exec.add Z aT Z (O Z Z (Zm (v := U (IntKind.i64.wrap ((m : Int) + 1))) Z Z (Zb (V ?_)))))))))
   have bp := Zu i
   subst ao
   refine ⟨_, Z, ?_⟩; exact ⟨a2, (Zt ab av), ar, aP, aQ, aR, aS, (Eq.trans Z (QF aH (SliceRep.le (aj.mono j))))⟩
  intro b3 bt bB aB aM
  obtain ⟨bc, aN, aE, aU, aV, aW, ax, be⟩ := aB
  refine Zc (Zd (O Z Z (Zq Z be ax (Zb (V (Zc (QB (Zx (decide_eq_false (by omega))) (QJ (Qn (Qn (Q9 (V ?_))))))))))))
  refine ⟨_, .inl aM, ?_⟩; exact ⟨bc, aN, aE, aU, aV, aW, ax⟩
 rintro bu bC ⟨b4, au, aD⟩
 have hm := au.elim (aI _) (aG _)
 clear au
 obtain ⟨bd, aO, aF, bx, bz, b0, b1⟩ := aD
 refine (V (Zc (Zd (O Z Z (Zo (v := QD 50 (none)) Z Z (Zb (V (Q0 ?_))))))))
 have bq := Zu hm
 subst r
 refine ⟨_, QW Z, ?_⟩
 exact ⟨bd, (Zt j aO), aF.drop, Z⟩
theorem KS : JU Tryz.prog 38 = some (true, 5) := by kernel_rfl
theorem QaB {w0 w : World} {s : PHeap} {H : List Res} {g : Task} {t : (List Int)} {i : Value} {j : Value} {l : Value} {m : Value} {n : Value} {r : Int × Bool} (hm : Kf g t = some r) (hS : St w0 s (H) w) (al : SliceRep (Qa .i64) s i g.Vars) (aL : SliceRep (Qa .i64) s j g.Init) (aM : SliceRep encFact s l g.Goal) (aN : SliceRep encOp s m g.Ops) (u : SliceRep (Qa .i64) s n t) :
  Calls Tryz.prog 76 #[Value.agg #[i, j, l, m], n] w fun e w' => ∃ v, e = .returned v ∧ ((J2 fun (aJ : Int) (aK : Bool) => ∃ (af : PHeap) , PHeap.le s af ∧ St w0 af (H) w' ∧ v = Value.tuple #[U aJ, Value.bool (aK)]) r) := by
 unfold Kf at hm
 refine Qw Tryz.func76 Z Z (Zc (Zd (O Z Z (Exec.box (cs := [i, j, l, m]) hS Z Z Z ?_))))
 intro o be au
 refine O Z Z (Zo (v := U 0) Z Z (O Z Z (Zo (v := Vb false) Z Z (Zb (V (Zc (Zd (O Z Z (Zo (v := U 1) Z Z (Zb (V (Zc (Zc (Zd (O Z Z (Zm (v := n) Z Z (O Z Z (Zr JG Z Z u (O Z Z (Zm (v := U 0) Z Z (Zb (V ?_))))))))))))))))))))))
 obtain ⟨y, ao, a1, az, ax⟩ := QN hm
 refine QK (M := fun f' w' => ∃ s', (y = .next s' ∨ y = .brk s') ∧ (fun (q : Int) => ∃ (ag : PHeap) , PHeap.le s ag ∧ St w0 ag (Res.box o 26 [i, j, l, m] :: H) w' ∧ f' 2 = Vq o ∧ f' 6 = U q ∧ f' 9 = n ∧ f' 10 = U ((t.length : Int))) s') ?_ ?_
 ·refine Qo (JI (fun k' s' f' w' => (fun (b : Int) => ∃ (ah : PHeap) , PHeap.le s ah ∧ St w0 ah (Res.box o 26 [i, j, l, m] :: H) w' ∧ f' 2 = Vq o ∧ f' 6 = U b ∧ f' 9 = n ∧ f' 10 = U ((t.length : Int)) ∧ f' 11 = U (k' : Int)) s') ao ?_ ?_ ?_)
  ·exact ⟨s, (Zv _), au, Z, Z, Z, Z, Z⟩
  ·intro a4 b z aU bf ay ap a a2
   obtain ⟨ai, p, c, ab, a7, ac, ad, x⟩ := ap
   refine Zc (Zd (O Z Z (Zq Z x ad (Zb (V (Zc (QL (Zx (decide_eq_true (by omega))) (Qq (V (Zc (Qo (Zc (Zd ?_)))))))))))))
   obtain ⟨aj, aC, a⟩ := Zg a
   refine O Z Z (Qy JG Z ac x (u.mono p) aC ?_)
   intro aO aX am
   refine O Z Z (Zw (E := (Qa .i64)) c A3 Z Z Z am ?_)
   intro bc aD
   obtain rfl := Qv.1 aD
   refine O Z Z (Zo (v := U aj) Z Z (Zb (V (Zc (Zd (O Z Z (Zm (v := U b) Z a7 (O Z Z (Zp Yu Z ab Z (O Z Z (Zn (c) A22 Z Z Z (O Z Z (Zm (v := U aj) Z Z ?_)))))))))))))
   obtain ⟨ak, aE, a⟩ := Zg a
   refine O Z Z (Qy JG Z Z Z (al.mono p) aE ?_)
   intro aP aY an
   refine O Z Z (Zw (E := (Qa .i64)) c A3 Z Z Z an ?_)
   intro bd aF
   obtain rfl := Qv.1 aF
   refine O Z Z (Exec.mul Z Z Z (O Z Z (Zo (v := U (IntKind.i64.wrap (b * ak))) Z Z (Zb (V (Zc (Zd (O Z Z (Zm (v := U (IntKind.i64.wrap (b * ak))) Z Z (O Z Z (Exec.gtr Z Z Z (Zb (V ?_)))))))))))))
   rcases Qf a with ⟨d, a⟩ | ⟨d, a⟩
   ·refine Qr Z d (Zc (Zd (O Z Z (Zo (v := U 0) Z Z (O Z Z (Zo (v := Vb false) Z Z (Zb (V (Q0 (QC (Qi (Qi (QC (Qi (Qi ?_)))))))))))))))
    have aQ := Zu a
    subst z
    have a0 := a1 _ (a2 (by intro _ h; cases h))
    have aR := Zu a0
    subst r
    refine ⟨_, QbU Z, ?_⟩
    exact ⟨ai, p, c.drop, (Yp Z Z)⟩
   refine Qs Z d ?_
   replace d := Zk d
   refine Qq (Qz (V (Zd (O Z Z (Exec.add Z x Z (O Z Z (Zm (v := U (IntKind.i64.wrap ((a4 : Int) + 1))) Z Z (Zb (V ?_)))))))))
   have aS := Zu a
   subst z
   refine ⟨_, Z, ?_⟩; exact ⟨ai, p, c, ab, Z, ac, ad, (Eq.trans Z (QF ay (SliceRep.le u)))⟩
  intro b aV bg aq a3
  obtain ⟨aG, a5, av, a8, a9, aA, ae, aI⟩ := aq
  refine Zc (Zd (O Z Z (Zq Z aI ae (Zb (V (Zc (QB (Zx (decide_eq_false (by omega))) (QJ (Qn (Qn (Q9 (V ?_))))))))))))
  refine ⟨_, .inl a3, ?_⟩; exact ⟨aG, a5, av, a8, a9, aA, ae⟩
 rintro aW bh ⟨q, aa, ar⟩
 have hm := aa.elim (az _) (ax _)
 clear aa
 obtain ⟨aH, a6, aw, aZ, aB, ba, bb⟩ := ar
 refine (V (Zc (Zd (O Z Z (Zm (v := U q) Z aB (O Z Z (Zo (v := U q) Z Z (O Z Z (Zo (v := Vb true) Z Z (Zb (V (Q0 ?_))))))))))))
 have aT := Zu hm
 subst r
 refine ⟨_, QbU Z, ?_⟩
 exact ⟨aH, a6, aw.drop, (Yp Z Z)⟩
theorem QbM {w0 w : World} {s : PHeap} {H : List Res} {d : Task} {p : (List Int)} {ad : (List Int)} {h : Value} {i : Value} {j : Value} {l : Value} {m : Value} {n : Value} {r : Int} (hm : JO d p ad = some r) (hS : St w0 s (H) w) (ae : SliceRep (Qa .i64) s h d.Vars) (a9 : SliceRep (Qa .i64) s i d.Init) (aA : SliceRep encFact s j d.Goal) (aB : SliceRep encOp s l d.Ops) (o : SliceRep (Qa .i64) s m p) (af : SliceRep (Qa .i64) s n ad) :
  Calls Tryz.prog 77 #[Value.agg #[h, i, j, l], m, n] w fun e w' => ∃ v, e = .returned v ∧ ((fun (a8 : Int) => ∃ (ab : PHeap) , PHeap.le s ab ∧ St w0 ab (H) w' ∧ v = U a8) r) := by
 unfold JO at hm
 refine Qw Tryz.func77 Z Z (Zc (Zd (O Z Z (Exec.box (cs := [h, i, j, l]) hS Z Z Z ?_))))
 intro u aU am
 refine O Z Z (Zo (v := U 0) Z Z (Zb (V (Zc (Zd (O Z Z (Zo (v := U 0) Z Z (Zb (V (Zc (Zc (Zd (O Z Z (Zm (v := m) Z Z (O Z Z (Zr JG Z Z o (O Z Z (Zm (v := U 0) Z Z (Zb (V ?_))))))))))))))))))))
 obtain ⟨b, aj, hm⟩ := Zg hm
 refine Qo (JZ (fun k' s' f' w' => (fun (b : Int) => ∃ (ac : PHeap) , PHeap.le s ac ∧ St w0 ac (Res.box u 26 [h, i, j, l] :: H) w' ∧ f' 2 = n ∧ f' 3 = Vq u ∧ f' 7 = U b ∧ f' 10 = m ∧ f' 11 = U ((p.length : Int)) ∧ f' 12 = U (k' : Int)) s') aj ?_ ?_ ?_)
 ·exact ⟨s, (Zv _), am, Z, Z, Z, Z, Z, Z⟩
 ·intro ap b a2 aJ aV ao ak a
  obtain ⟨a3, g, c, x, y, ar, z, aa, q⟩ := ak
  refine Zc (Zd (O Z Z (Zq Z q aa (Zb (V (Zc (QL (Zx (decide_eq_true (by omega))) (Qq (V (Zc (Qo (Zc (Zd ?_)))))))))))))
  obtain ⟨t, aw, a⟩ := Zg a
  refine O Z Z (Qy JG Z z q (o.mono g) aw ?_)
  intro aC aL ag
  refine O Z Z (Zw (E := (Qa .i64)) c A3 Z Z Z ag ?_)
  intro aR ax
  obtain rfl := Qv.1 ax
  refine O Z Z (Zo (v := U t) Z Z (Zb (V (KT (n0 := 12) (qs 0 12 .done) Yc (by kernel_rfl) (by kernel_rfl) (Qm Z Z (Zm (v := U b) Z ar ⟨Z, ?_⟩))))))
  refine Qm Z Z (Zp Yu Z y Z ⟨Z, ?_⟩)
  refine Qm Z Z (Zn (c.drew) A22 Z Z Z ⟨Z, ?_⟩)
  refine Qm Z Z (Zm (v := U t) Z Z ⟨Z, ?_⟩)
  obtain ⟨a5, ay, a⟩ := Zg a
  refine Qm Z Z (QT JG Z Z Z (ae.mono g) ay ?_)
  intro aD aM ah aF
  refine ⟨Z, ?_⟩
  refine Qm Z Z (Zw (E := (Qa .i64)) c.drew A3 Z Z Z ah ?_)
  intro aS az
  obtain rfl := Qv.1 az
  refine ⟨Z, ?_⟩
  refine Qm Z Z (Exec.mul Z Z Z ⟨Z, ?_⟩)
  refine Qm Z Z (Zm (v := n) Z x ⟨Z, ?_⟩)
  refine Qm Z Z (Zm (v := U t) Z Z ⟨Z, ?_⟩)
  obtain ⟨a6, a0, a⟩ := Zg a
  refine Qm Z Z (QT JG Z Z Z (af.mono g) a0 ?_)
  intro aE aN ai aG
  refine ⟨Z, ?_⟩
  refine Qm Z Z (Zw (E := (Qa .i64)) c.drew A3 Z Z Z ai ?_)
  intro aT a1
  obtain rfl := Qv.1 a1
  refine ⟨Z, ?_⟩
  refine Qm Z Z (Exec.add Z Z Z ⟨Z, ?_⟩)
  refine QG (O Z Z (Zo (v := U (IntKind.i64.wrap ((IntKind.i64.wrap (b * a5)) + a6))) Z Z (Zb (Qz (V (Zd (O Z Z (Exec.add Z q Z (O Z Z (Zm (v := U (IntKind.i64.wrap ((ap : Int) + 1))) Z Z (Zb (V ?_))))))))))))
  have aH := Zu a
  subst a2
  exact ⟨a3, g, c.drew, x, y, Z, z, aa, (Eq.trans Z (QF ao (SliceRep.le o)))⟩
 intro aK aW al
 obtain ⟨a4, aq, an, aO, aP, au, aQ, av, a7⟩ := al
 refine Zc (Zd (O Z Z (Zq Z a7 av (Zb (V (Zc (QB (Zx (decide_eq_false (by omega))) (QJ (Qn (Qn (Q9 (V (Zc (Zd (O Z Z (Zm (v := U b) Z au (O Z Z (Zo (v := U b) Z Z (Zb (V (Q0 ?_)))))))))))))))))))))
 have aI := Zu hm
 subst r
 refine ⟨_, QW Z, ?_⟩
 exact ⟨a4, aq, an.drop, Z⟩
theorem S44 : Je Tryz.prog 44 = some (22, 1, 24) := by kernel_rfl
theorem Z22 : JL Tryz.prog 22 = some (Value.slice none 0 0) := by kernel_rfl
theorem QaZ : Jt Tryz.prog 38 2 = some 2 := by kernel_rfl
theorem Qb7 {w0 w : World} {s : PHeap} {H : List Res} {i : (List Int)} {g : Int} {c : Value} {r : Int} (hm : JR i g = some r) (hS : St w0 s (H) w) (j : SliceRep (Qa .i64) s c i) :
  Calls Tryz.prog 106 #[c, U g] w fun e w' => ∃ v, e = .returned v ∧ ((fun (a2 : Int) => ∃ (z : PHeap) , PHeap.le s z ∧ St w0 z (H) w' ∧ v = U a2) r) := by
 unfold JR at hm
 refine Qw Tryz.func106 Z Z (Zc (Zd (O Z Z (Zo (v := U 0) Z Z (Zb (V (Zc (Zc (Zd (O Z Z (Zm (v := c) Z Z (O Z Z (Zr JG Z Z j (O Z Z (Zm (v := U 0) Z Z (Zb (V ?_)))))))))))))))))
 obtain ⟨o, ae, ao, am, ak⟩ := QN hm
 refine QK (M := fun f' w' => ∃ s', (o = .next s' ∨ o = .brk s') ∧ (fun (_ : Unit) => ∃ (aa : PHeap) , PHeap.le s aa ∧ St w0 aa (H) w' ∧ f' 0 = c ∧ f' 1 = U g ∧ f' 7 = U ((i.length : Int))) s') ?_ ?_
 ·refine Qo (JI (fun k' s' f' w' => (fun (_ : Unit) => ∃ (ab : PHeap) , PHeap.le s ab ∧ St w0 ab (H) w' ∧ f' 0 = c ∧ f' 1 = U g ∧ f' 7 = U ((i.length : Int)) ∧ f' 8 = U (k' : Int)) s') ae ?_ ?_ ?_)
  ·exact ⟨s, (Zv _), hS, Z, Z, Z, Z⟩
  ·intro b aF p a8 aJ al af a ap
   obtain ⟨ac, m, l, t, u, x, n⟩ := af
   refine Zc (Zd (O Z Z (Zq Z n x (Zb (V (Zc (QL (Zx (decide_eq_true (by omega))) (Qq (V (Zc (Qo (Zc (Zd (O Z Z (Zm (v := U ((b : Int))) Z n (O Z Z (Zo (v := U ((b : Int))) Z Z (Zb (V (Zc (Zd (O Z Z (Zm (v := U g) Z u (O Z Z (Zm (v := c) Z t (O Z Z (Zm (v := U ((b : Int))) Z Z ?_)))))))))))))))))))))))))))
   obtain ⟨aM, ax, a⟩ := Zg a
   refine O Z Z (Qy JG Z Z Z (j.mono m) ax ?_)
   intro a3 aB ad
   refine O Z Z (Zw (E := (Qa .i64)) l A3 Z Z Z ad ?_)
   intro aI ay
   obtain rfl := Qv.1 ay
   refine O Z Z (Exec.eql Z Z Z (Zb (V ?_)))
   rcases Qf a with ⟨d, a⟩ | ⟨d, a⟩
   ·refine Qr Z d (Zc (Zd (O Z Z (Zm (v := U ((b : Int))) Z Z (O Z Z (Zo (v := U ((b : Int))) Z Z (Zb (V (Q0 (QC (Qi (Qi (QC (Qi (Qi ?_)))))))))))))))
    have a4 := Zu a
    subst p
    have an := ao _ (ap (by intro _ h; cases h))
    have a5 := Zu an
    subst r
    refine ⟨_, QW Z, ?_⟩
    exact ⟨ac, m, l, Z⟩
   refine Qs Z d ?_
   replace d := Zk d
   refine Qq (Qz (V (Zd (O Z Z (Exec.add Z n Z (O Z Z (Zm (v := U (IntKind.i64.wrap ((b : Int) + 1))) Z Z (Zb (V ?_)))))))))
   have a6 := Zu a
   subst p
   refine ⟨_, Z, ?_⟩; exact ⟨ac, m, l, t, u, x, (Eq.trans Z (QF al (SliceRep.le j)))⟩
  intro aG a9 aK ag aq
  obtain ⟨az, ar, ai, av, aw, y, a1⟩ := ag
  refine Zc (Zd (O Z Z (Zq Z a1 y (Zb (V (Zc (QB (Zx (decide_eq_false (by omega))) (QJ (Qn (Qn (Q9 (V ?_))))))))))))
  refine ⟨_, .inl aq, ?_⟩; exact ⟨az, ar, ai, av, aw, y⟩
 rintro aA aL ⟨aH, q, ah⟩
 have hm := q.elim (am _) (ak _)
 clear q
 obtain ⟨a0, au, aj, aC, aD, aE⟩ := ah
 refine (V (Zc (Zd (O Z Z (Zo (v := U ((-1))) Z Z (Zb (V (Q0 ?_))))))))
 have a7 := Zu hm
 subst r
 refine ⟨_, QW Z, ?_⟩
 exact ⟨a0, au, aj, Z⟩
theorem J3 {w0 w : World} {s : PHeap} {H : List Res} {d : (List Int)} {a : Int} {b : Value} {r : Bool} (hm : QU d a = some r) (hS : St w0 s (H) w) (f : SliceRep (Qa .i64) s b d) :
  Calls Tryz.prog 80 #[b, U a] w fun e w' => ∃ v, e = .returned v ∧ ((fun (k : Bool) => ∃ (c : PHeap) , PHeap.le s c ∧ St w0 c (H) w' ∧ v = Value.bool (k)) r) := by
 unfold QU at hm
 refine Qw Tryz.func80 Z Z (Zc (Zd (O Z Z (Zo (v := Vb false) Z Z (Zb (V (Zc (Zd (O Z Z (Zm (v := b) Z Z (O Z Z (Zm (v := U a) Z Z ?_))))))))))))
 obtain ⟨l, i, hm⟩ := Zg hm
 refine O Z Z (Tc Z Z Z (Zi Z (Zi Z Qk)) (Qb7 i hS f).r ?_)
 rintro _ n ⟨j, h, g, rfl⟩
 refine O Z Z (Exec.geq Z Z Z (O Z Z (Zo (v := Vb (decide (0 ≤ l))) Z Z (Zb (V (Q0 ?_))))))
 have m := Zu hm
 subst r
 refine ⟨_, QW Z, ?_⟩
 exact ⟨j, h, g, Z⟩
theorem Qot : (Tryz.f128.name == "runtime.NumGoroutine") = false := by kernel_rfl
theorem Qed {w0 w : World} {s : PHeap} {H : List Res} {a : Fact} {b : Int} {d f : Nat} {r : Bool} (hm : Yn a b = some r) (hS : St w0 s (H) w) (h : At s d f (Qa .i64) b) :
  Calls Tryz.prog 128 #[Value.agg #[U (a.Var), U (a.Val)], Value.pointer (some ⟨d, f, none⟩)] w fun e w' => ∃ v, e = .returned v ∧ ((fun (j : Bool) => ∃ (g : PHeap) , PHeap.le s g ∧ St w0 g (H) w' ∧ v = Value.bool (j)) r) := by
 unfold Yn at hm
 refine Qw Tryz.func128 Z Z (Zc (Zd (O Z Z (Exec.box (cs := [U (a.Var), U (a.Val)]) hS Z Z Z ?_))))
 intro k n c
 refine O Z Z (Zo (v := Vb false) Z Z (Zb (V (Zc (Zd (O Z Z (Zp YS Z Z Z (O Z Z (Zn (c) A3 Z Z Z (O Z Z (Zw (E := (Qa .i64)) c A3 Z Z Z h ?_)))))))))))
 intro m i
 obtain rfl := Qv.1 i
 refine O Z Z (Exec.eql Z Z Z (O Z Z (Zo (v := Vb (decide (a.Var = b))) Z Z (Zb (V (Q0 ?_))))))
 have l := Zu hm
 subst r
 refine ⟨_, QW Z, ?_⟩
 exact ⟨s, (Zv _), c.drop, Z⟩
theorem QcP {w0 w : World} {s : PHeap} {H : List Res} {l : (List Fact)} {n : Int} {c : Value} {d i : Nat} {r : Int} (hm : K7 l n = some r) (hS : St w0 s (H) w) (m : SliceRep encFact s c l) (ah : At s d i (Qa .i64) n) :
  Calls Tryz.prog 148 #[c, Value.func (.func 128) #[] #[Value.pointer (some ⟨d, i, none⟩)]] w fun e w' => ∃ v, e = .returned v ∧ ((fun (a8 : Int) => ∃ (ad : PHeap) , PHeap.le s ad ∧ St w0 ad (H) w' ∧ v = U a8) r) := by
 unfold K7 at hm
 refine Qw Tryz.func148 Z Z (Zc (Zd (O Z Z (Zo (v := U 0) Z Z (Zb (V (Zc (Zc (Zd (O Z Z (Zm (v := c) Z Z (O Z Z (Zr S23 Z Z m (O Z Z (Zm (v := U 0) Z Z (Zb (V ?_)))))))))))))))))
 obtain ⟨p, aj, av, ar, ap⟩ := QN hm
 refine QK (M := fun f' w' => ∃ s', (p = .next s' ∨ p = .brk s') ∧ (fun (_ : Unit) => ∃ (ae : PHeap) , PHeap.le s ae ∧ St w0 ae (H) w' ∧ f' 0 = c ∧ f' 1 = Value.func (.func 128) #[] #[Vp (some ⟨d, i, none⟩)] ∧ f' 7 = U ((l.length : Int))) s') ?_ ?_
 ·refine Qo (JI (fun k' s' f' w' => (fun (_ : Unit) => ∃ (af : PHeap) , PHeap.le s af ∧ St w0 af (H) w' ∧ f' 0 = c ∧ f' 1 = Value.func (.func 128) #[] #[Vp (some ⟨d, i, none⟩)] ∧ f' 7 = U ((l.length : Int)) ∧ f' 8 = U (k' : Int)) s') aj ?_ ?_ ?_)
  ·exact ⟨s, (Zv _), hS, Z, Z, Z, Z⟩
  ·intro b aM q aE aQ aq ak a aw
   obtain ⟨aL, j, t, z, aa, ab, o⟩ := ak
   refine Zc (Zd (O Z Z (Zq Z o ab (Zb (V (Zc (QL (Zx (decide_eq_true (by omega))) (Qq (V (Zc (Qo (Zc (Zd (O Z Z (Zm (v := U ((b : Int))) Z o (O Z Z (Zo (v := U ((b : Int))) Z Z (Zb (V (Zc (Zd (O Z Z (Zm (v := Value.func (.func 128) #[] #[Vp (some ⟨d, i, none⟩)]) Z aa (O Z Z (Zm (v := c) Z z (O Z Z (Zm (v := U ((b : Int))) Z Z ?_)))))))))))))))))))))))))))
   obtain ⟨a6, a2, a⟩ := Zg a
   refine O Z Z (Qy S23 Z Z Z (m.mono j) a2 ?_)
   intro a9 aH ai
   refine O Z Z (Zw (E := encFact) t A90 Z Z Z ai ?_)
   intro aP a3
   obtain rfl := YB.1 a3
   refine O Z Z (QjE Z Z Tryz.func128 Z Qot (Zi Z Qk) Z ((Qed (QbN a6 n) t (ah.mono j)).mono ?_))
   rintro _ aR ⟨_, rfl, ⟨ag, y, u, rfl⟩⟩
   refine ⟨_, Z, ?_⟩
   refine Zb (V ?_)
   rcases Qf a with ⟨g, a⟩ | ⟨g, a⟩
   ·refine Qr Z g (Zc (Zd (O Z Z (Zm (v := U ((b : Int))) Z Z (O Z Z (Zo (v := U ((b : Int))) Z Z (Zb (V (Q0 (QC (Qi (Qi (QC (Qi (Qi ?_)))))))))))))))
    have aA := Zu a
    subst q
    have au := av _ (aw (by intro _ h; cases h))
    have aB := Zu au
    subst r
    refine ⟨_, QW Z, ?_⟩
    exact ⟨ag, (Zt j y), u, Z⟩
   refine Qs Z g ?_
   replace g := Zk g
   refine Qq (Qz (V (Zd (O Z Z (Exec.add Z o Z (O Z Z (Zm (v := U (IntKind.i64.wrap ((b : Int) + 1))) Z Z (Zb (V ?_)))))))))
   have aC := Zu a
   subst q
   refine ⟨_, Z, ?_⟩; exact ⟨ag, (Zt j y), u, z, aa, ab, (Eq.trans Z (QF aq (SliceRep.le m)))⟩
  intro aN aF aS al ax
  obtain ⟨a4, ay, an, a0, a1, ac, a7⟩ := al
  refine Zc (Zd (O Z Z (Zq Z a7 ac (Zb (V (Zc (QB (Zx (decide_eq_false (by omega))) (QJ (Qn (Qn (Q9 (V ?_))))))))))))
  refine ⟨_, .inl ax, ?_⟩; exact ⟨a4, ay, an, a0, a1, ac⟩
 rintro aG aT ⟨aO, x, am⟩
 have hm := x.elim (ar _) (ap _)
 clear x
 obtain ⟨a5, az, ao, aI, aJ, aK⟩ := am
 refine (V (Zc (Zd (O Z Z (Zo (v := U ((-1))) Z Z (Zb (V (Q0 ?_))))))))
 have aD := Zu hm
 subst r
 refine ⟨_, QW Z, ?_⟩
 exact ⟨a5, az, ao, Z⟩
theorem Qee {w0 w : World} {s : PHeap} {H : List Res} {g : (List Fact)} {d : Int} {c : Value} {a b : Nat} {r : Bool} (hm : YN g d = some r) (hS : St w0 s (H) w) (h : SliceRep encFact s c g) (i : At s a b (Qa .i64) d) :
  Calls Tryz.prog 127 #[c, Value.func (.func 128) #[] #[Value.pointer (some ⟨a, b, none⟩)]] w fun e w' => ∃ v, e = .returned v ∧ ((fun (n : Bool) => ∃ (f : PHeap) , PHeap.le s f ∧ St w0 f (H) w' ∧ v = Value.bool (n)) r) := by
 unfold YN at hm
 refine Qw Tryz.func127 Z Z (Zc (Zd (O Z Z (Zo (v := Vb false) Z Z (Zb (V (Zc (Zd (O Z Z (Zm (v := c) Z Z (O Z Z (Zm (v := Value.func (.func 128) #[] #[Vp (some ⟨a, b, none⟩)]) Z Z ?_))))))))))))
 obtain ⟨o, l, hm⟩ := Zg hm
 refine O Z Z (Tc Z Z Z (Zi Z (Zi Z Qk)) (QcP l hS h i).r ?_)
 rintro _ q ⟨m, k, j, rfl⟩
 refine O Z Z (Exec.geq Z Z Z (O Z Z (Zo (v := Vb (decide (0 ≤ o))) Z Z (Zb (V (Q0 ?_))))))
 have p := Zu hm
 subst r
 refine ⟨_, QW Z, ?_⟩
 exact ⟨m, k, j, Z⟩
theorem Qft {w0 w : World} {s : PHeap} {H : List Res} {c : (List Fact)} {a : Int} {b : Value} {r : Bool} (hm : Qab c a = some r) (hS : St w0 s (H) w) (g : SliceRep encFact s b c) :
  Calls Tryz.prog 104 #[b, U a] w fun e w' => ∃ v, e = .returned v ∧ ((fun (o : Bool) => ∃ (f : PHeap) , PHeap.le s f ∧ St w0 f (H) w' ∧ v = Value.bool (o)) r) := by
 unfold Qab at hm
 refine Qw Tryz.func104 Z Z (Zc (Zd (O Z Z (Exec.box (cs := [U a]) hS Z Z Z ?_))))
 intro q x h
 refine O Z Z (Zo (v := Vb false) Z Z (Zb (V (Zc (Zd (O Z Z (Zm (v := b) Z Z ?_)))))))
 obtain ⟨u, d, i, m⟩ := St.freezeVar (E := (Qa .i64)) (y := a) h rfl
 refine O Z Z (Exec.makeFunc Z (Zi Z Qk) ?_)
 obtain ⟨p, l, hm⟩ := Zg hm
 refine O Z Z (Tc Z Z Z (Zi Z (Zi Z Qk)) (Qee l i (g.mono d) m).r ?_)
 rintro _ z ⟨n, k, j, rfl⟩
 refine O Z Z (Zo (v := Vb p) Z Z (Zb (V (Q0 ?_))))
 have t := Zu hm
 subst r
 refine ⟨_, QW Z, ?_⟩
 exact ⟨n, (Zt d k), j, Z⟩
theorem Qbn {w0 w : World} {s : PHeap} {H : List Res} {c : (List Int)} {i : Int} {a : Value} {r : Int} (hm : KI c i = some r) (hS : St w0 s (Res.arr (Qa .i64) 3 a c :: H) w) :
  Calls Tryz.prog 106 #[a, U i] w fun e w' => ∃ v, e = .returned v ∧ ((fun (a1 : Int) => ∃ (aa : PHeap) , PHeap.le s aa ∧ St w0 aa (Res.arr (Qa .i64) 3 a c :: H) w' ∧ v = U a1) r) := by
 unfold KI at hm
 refine Qw Tryz.func106 Z Z (Zc (Zd (O Z Z (Zo (v := U 0) Z Z (Zb (V (Zc (Zc (Zd (O Z Z (Zm (v := a) Z Z (O Z Z (QP (hS) JG Z Z (O Z Z (Zm (v := U 0) Z Z (Zb (V ?_)))))))))))))))))
 obtain ⟨n, ae, ao, am, ak⟩ := QN hm
 refine QK (M := fun f' w' => ∃ s', (n = .next s' ∨ n = .brk s') ∧ (fun (_ : Unit) => ∃ (ab : PHeap) , PHeap.le s ab ∧ St w0 ab (Res.arr (Qa .i64) 3 a c :: H) w' ∧ f' 0 = a ∧ f' 1 = U i ∧ f' 7 = U ((c.length : Int))) s') ?_ ?_
 ·refine Qo (JI (fun k' s' f' w' => (fun (_ : Unit) => ∃ (ac : PHeap) , PHeap.le s ac ∧ St w0 ac (Res.arr (Qa .i64) 3 a c :: H) w' ∧ f' 0 = a ∧ f' 1 = U i ∧ f' 7 = U ((c.length : Int)) ∧ f' 8 = U (k' : Int)) s') ae ?_ ?_ ?_)
  ·exact ⟨s, (Zv _), hS, Z, Z, Z, Z⟩
  ·intro d aE o a7 aI al af b ap
   obtain ⟨ad, t, j, u, x, y, m⟩ := af
   refine Zc (Zd (O Z Z (Zq Z m y (Zb (V (Zc (QL (Zx (decide_eq_true (by omega))) (Qq (V (Zc (Qo (Zc (Zd (O Z Z (Zm (v := U ((d : Int))) Z m (O Z Z (Zo (v := U ((d : Int))) Z Z (Zb (V (Zc (Zd (O Z Z (Zm (v := U i) Z x (O Z Z (Zm (v := a) Z u (O Z Z (Zm (v := U ((d : Int))) Z Z ?_)))))))))))))))))))))))))))
   obtain ⟨aL, l, b⟩ := Zg b
   obtain ⟨aA, a2, p⟩ := j.arr_at l
   refine O Z Z (Qd JG Z p Z (Qg l).1 (Qg l).2.1 (O Z Z (Qt (F := (Qa .i64)) (j) p A3 Z Z Z l (Sub.refl _) ?_)))
   intro aH ax
   obtain rfl := Qv.1 ax
   refine O Z Z (Exec.eql Z Z Z (Zb (V ?_)))
   rcases Qf b with ⟨g, b⟩ | ⟨g, b⟩
   ·refine Qr Z g (Zc (Zd (O Z Z (Zm (v := U ((d : Int))) Z Z (O Z Z (Zo (v := U ((d : Int))) Z Z (Zb (V (Q0 (QC (Qi (Qi (QC (Qi (Qi ?_)))))))))))))))
    have a3 := Zu b
    subst o
    have an := ao _ (ap (by intro _ h; cases h))
    have a4 := Zu an
    subst r
    refine ⟨_, QW Z, ?_⟩
    exact ⟨ad, t, j, Z⟩
   refine Qs Z g ?_
   replace g := Zk g
   refine Qq (Qz (V (Zd (O Z Z (Exec.add Z m Z (O Z Z (Zm (v := U (IntKind.i64.wrap ((d : Int) + 1))) Z Z (Zb (V ?_)))))))))
   have a5 := Zu b
   subst o
   refine ⟨_, Z, ?_⟩; exact ⟨ad, t, j, u, x, y, (Eq.trans Z (QF al hS.arr_le))⟩
  intro aF a8 aJ ag aq
  obtain ⟨ay, ar, ai, av, aw, z, a0⟩ := ag
  refine Zc (Zd (O Z Z (Zq Z a0 z (Zb (V (Zc (QB (Zx (decide_eq_false (by omega))) (QJ (Qn (Qn (Q9 (V ?_))))))))))))
  refine ⟨_, .inl aq, ?_⟩; exact ⟨ay, ar, ai, av, aw, z⟩
 rintro a9 aK ⟨aG, q, ah⟩
 have hm := q.elim (am _) (ak _)
 clear q
 obtain ⟨az, au, aj, aB, aC, aD⟩ := ah
 refine (V (Zc (Zd (O Z Z (Zo (v := U ((-1))) Z Z (Zb (V (Q0 ?_))))))))
 have a6 := Zu hm
 subst r
 refine ⟨_, QW Z, ?_⟩
 exact ⟨az, au, aj, Z⟩
theorem QaE {w0 w : World} {s : PHeap} {H : List Res} {b : (List Int)} {c : Int} {a : Value} {r : Bool} (hm : JP b c = some r) (hS : St w0 s (Res.arr (Qa .i64) 3 a b :: H) w) :
  Calls Tryz.prog 80 #[a, U c] w fun e w' => ∃ v, e = .returned v ∧ ((fun (j : Bool) => ∃ (d : PHeap) , PHeap.le s d ∧ St w0 d (Res.arr (Qa .i64) 3 a b :: H) w' ∧ v = Value.bool (j)) r) := by
 unfold JP at hm
 refine Qw Tryz.func80 Z Z (Zc (Zd (O Z Z (Zo (v := Vb false) Z Z (Zb (V (Zc (Zd (O Z Z (Zm (v := a) Z Z (O Z Z (Zm (v := U c) Z Z ?_))))))))))))
 obtain ⟨k, h, hm⟩ := Zg hm
 refine O Z Z (Tc Z Z Z (Zi Z (Zi Z Qk)) (Qbn h hS).r ?_)
 rintro _ m ⟨i, g, f, rfl⟩
 refine O Z Z (Exec.geq Z Z Z (O Z Z (Zo (v := Vb (decide (0 ≤ k))) Z Z (Zb (V (Q0 ?_))))))
 have l := Zu hm
 subst r
 refine ⟨_, QW Z, ?_⟩
 exact ⟨i, g, f, Z⟩
theorem QdF {w0 w : World} {s : PHeap} {H : List Res} {a : Op} {aV : (List Int)} {u : Value} {h : Value} {o : Value} {r : (List Int)} (hm : Ko a aV = some r) (hS : St w0 s (H) w) (bd : SliceRep encFact s u a.Pre) (ag : SliceRep encEffect s h a.Effs) (a9 : SliceRep (Qa .i64) s o aV) :
  Calls Tryz.prog 78 #[Value.agg #[Value.string (a.Name), U (a.Cost), u, h], o] w fun e w' => ∃ v, e = .returned v ∧ ((fun (cm : (List Int)) => ∃ (a6 : PHeap) (bb : Value), PHeap.le s a6 ∧ St w0 a6 (H) w' ∧ v = bb ∧ SliceRep (Qa .i64) a6 bb cm) r) := by
 unfold Ko at hm
 refine Qw Tryz.func78 Z Z (Zc (Zd (O Z Z (Exec.box (cs := [Value.string (a.Name), U (a.Cost), u, h]) hS Z Z Z ?_))))
 intro n cM aB
 refine O Z Z (Zo (v := Vn) Z Z (Zb (V (Zc (Zd (O Z Z (Zo (v := Vn) Z Z (Zb (V (Zc (Zc (Zd (O Z Z (Zp Qfb Z Z Z (O Z Z (Zn (aB) A58 Z Z Z (O Z Z (Zr S58 Z Z ag (O Z Z (Zm (v := U 0) Z Z (Zb (V ?_))))))))))))))))))))))
 obtain ⟨az, bg, hm⟩ := Zg hm
 refine Qo (JZ (fun k' s' f' w' => (fun (az : (List Int)) => ∃ (aW : PHeap) (j : Value), PHeap.le s aW ∧ St w0 aW (Res.box n 60 [Value.string (a.Name), U (a.Cost), u, h] :: Res.arr (Qa .i64) 3 j az :: H) w' ∧ f' 1 = o ∧ f' 2 = Vq n ∧ f' 5 = j ∧ f' 11 = h ∧ f' 12 = U ((a.Effs.length : Int)) ∧ f' 13 = U (k' : Int)) s') bg ?_ ?_ ?_)
 ·have bo := aB.nilArr (Qa .i64) 3
  exact ⟨s, Vn, (Zv _), bo.f1, Z, Z, Z, Z, Z, Z⟩
 ·intro ac az aX c3 cN aG bi g
  obtain ⟨cH, j, y, aC, a0, aI, aJ, a1, a2, au⟩ := bi
  refine Zc (Zd (O Z Z (Zq Z au a2 (Zb (V (Zc (QL (Zx (decide_eq_true (by omega))) (Qq (V (Zc (Qo (Zc (Zd ?_)))))))))))))
  obtain ⟨x, bR, g⟩ := Zg g
  refine O Z Z (Qy S58 Z a1 au (ag.mono y) bR ?_)
  intro cp cB be
  refine O Z Z (Zw (E := encEffect) aC A95 Z Z Z be ?_)
  intro cK bS
  obtain ⟨ae, rfl, aq⟩ := Qac.1 bS
  refine O Z Z (Exec.alloc (cs := [Vn, U 0, U 0]) aC Z95 Z Z ?_)
  intro cq cO bp
  refine O Z Z (Qe (ds := [ae, U (x.Var), U (x.Val)]) (es := [ae, U (x.Var), U (x.Val)]) bp A95 Z Z Z Z (Zj aq.one (Zj Z (Zj Z Q5))) (Nat.le_of_ble_eq_true Z) Z ?_)
  intro cP aD
  refine Zb (V (Zc (Zc (Zd (O Z Z (Zm (v := o) Z a0 (O Z Z (Zp Qim Z Z Z (O Z Z (Zn (aD) A3 Z Z Z ?_))))))))))
  obtain ⟨de, bT, g⟩ := Zg g
  refine O Z Z (Tc Z Z Z (Zi Z (Zi Z Qk)) (J3 bT aD (a9.mono y)).r ?_)
  rintro _ cQ ⟨a7, t, av, rfl⟩
  refine O Z Z (Exec.not Z Z (Zb (V ?_)))
  rcases Qf g with ⟨aa, g⟩ | ⟨aa, g⟩
  ·refine Qr Z aa (QJ (Qn (Q9 (V (Zd (O Z Z (Exec.add Z au Z (O Z Z (Zm (v := U (IntKind.i64.wrap ((ac : Int) + 1))) Z Z (Zb (V ?_)))))))))))
   have cu := Zu g
   subst aX
   exact ⟨a7, j, (Zt y t), ((av.drop).f1).f1, a0, aI, aJ, a1, a2, (Eq.trans Z (QF aG (SliceRep.le ag)))⟩
  refine Qs Z aa ?_
  replace aa := Zk aa
  refine Qq (V (Zc (Zd (O Z Z (Zp QjM Z Z Z (O Z Z (Zn (av) A23 Z Z Z (O Z Z (Zr S23 Z Z (aq.mono t) (O Z Z (Zm (v := U 0) Z Z (Zb (V ?_)))))))))))))
  obtain ⟨ai, bh, g⟩ := Zg g
  refine Qo (JZ (fun k' s' f' w' => (fun (ai : (List Int)) => ∃ (aY : PHeap) (l : Value), PHeap.le a7 aY ∧ St w0 aY (Res.box n 60 [Value.string (a.Name), U (a.Cost), u, h] :: Res.arr (Qa .i64) 3 l ai :: H) w' ∧ f' 1 = o ∧ f' 2 = Vq n ∧ f' 5 = l ∧ f' 11 = h ∧ f' 12 = U ((a.Effs.length : Int)) ∧ f' 13 = U ((ac : Int)) ∧ f' 23 = ae ∧ f' 24 = U ((x.When.length : Int)) ∧ f' 25 = U (k' : Int)) s') bh ?_ ?_ ?_)
  ·have bq := av.drop
   exact ⟨a7, j, (Zv _), (bq.f1).f1, a0, aI, aJ, a1, a2, au, Z, Z, Z⟩
  ·intro ay ai cc c4 cR b1 bj p
   obtain ⟨cd, l, aj, aE, al, am, an, a3, a4, a5, ao, ap, af⟩ := bj
   refine Zc (Zd (O Z Z (Zq Z af ap (Zb (V (Zc (QL (Zx (decide_eq_true (by omega))) (Qq (V (Zc (Qo (Zc (Zd ?_)))))))))))))
   obtain ⟨m, bU, p⟩ := Zg p
   refine O Z Z (Qy S23 Z ao af (aq.mono (Zt t aj)) bU ?_)
   intro cr cC bf
   refine O Z Z (Zw (E := encFact) aE A90 Z Z Z bf ?_)
   intro cL bV
   obtain rfl := YB.1 bV
   refine O Z Z (Exec.alloc (cs := [U 0, U 0]) aE Z90 Z Z ?_)
   intro aA cS br
   refine O Z Z (Qe (ds := [U (m.Var), U (m.Val)]) (es := [U (m.Var), U (m.Val)]) br A90 Z Z Z Z (Zj Z (Zj Z Q5)) (Nat.le_of_ble_eq_true Z) Z ?_)
   intro cT aF
   refine Zb (V (Zc ?_))
   obtain ⟨z, b, p⟩ := Zg p
   refine QK (M := fun f' w' => (fun (z : Bool) => ∃ (aZ : PHeap) , PHeap.le cd aZ ∧ St w0 aZ (Res.box n 60 [Value.string (a.Name), U (a.Cost), u, h] :: Res.arr (Qa .i64) 3 l ai :: Res.box aA 90 [U (m.Var), U (m.Val)] :: H) w' ∧ f' 1 = o ∧ f' 2 = Vq n ∧ f' 5 = l ∧ f' 9 = Vq aA ∧ f' 11 = h ∧ f' 12 = U ((a.Effs.length : Int)) ∧ f' 13 = U ((ac : Int)) ∧ f' 23 = ae ∧ f' 24 = U ((x.When.length : Int)) ∧ f' 25 = U ((ay : Int)) ∧ f' 48 = Vb z) z) ?_ ?_
   ·refine Zd (O Z Z (Zm (v := o) Z al (O Z Z (Zp YS Z Z Z (O Z Z (Zn (aF) A3 Z Z Z ?_))))))
    obtain ⟨cn, bW, b⟩ := Zg b
    refine O Z Z (Tc Z Z Z (Zi Z (Zi Z Qk)) (J3 bW aF (a9.mono (Zt (Zt y t) aj))).r ?_)
    rintro _ cU ⟨ce, ak, ah, rfl⟩
    refine O Z Z (Exec.not Z Z (O Z Z (Zm (v := Vb (!cn)) Z Z ?_)))
    rcases Qf b with ⟨d, b⟩ | ⟨d, b⟩
    ·refine Qj Z (Zf Z (Zx d)) Z (Zp QjO Z am Z (Qj Z (Zf Z (Zx d)) Z (Zn (ah.f1) A23 Z Z Z (Qj Z (Zf Z (Zx d)) Z (Zp YS Z Z Z (Qj Z (Zf Z (Zx d)) Z (Zn (ah) A3 Z Z Z ?_)))))))
     obtain ⟨df, bX, b⟩ := Zg b
     refine Qj Z (Zf Z (Zx d)) Z (Tc Z Z Z (Zi Z (Zi Z Qk)) (Qft bX ah (bd.mono (Zt (Zt (Zt y t) aj) ak))).r ?_)
     rintro _ cV ⟨cf, aH, aw, rfl⟩
     refine Qj Z (Zf Z (Zx d)) Z (Exec.not Z Z ?_)
     refine Qx 2 (by rw [d]; rfl) ?_
     rcases Qf b with ⟨i, b⟩ | ⟨i, b⟩
     ·refine Qj Z (Zf Z (Zx i)) Z (Zm (v := l) Z an (Qj Z (Zf Z (Zx i)) Z (Zp YS Z Z Z (Qj Z (Zf Z (Zx i)) Z (Zn (aw) A3 Z Z Z ?_)))))
      obtain ⟨co, bY, b⟩ := Zg b
      refine Qj Z (Zf Z (Zx i)) Z (Tc Z Z Z (Zi Z (Zi Z Qk)) (QaE bY aw.f2).r ?_)
      rintro _ cW ⟨cg, b2, bs, rfl⟩
      refine Qj Z (Zf Z (Zx i)) Z (Exec.not Z Z (O Z Z (Zs (v := Vb (!co)) Z (Zx i) Z (Zb (V ?_)))))
      have cv := Zu b
      subst z
      exact ⟨cg, (Zt (Zt ak aH) b2), ((bs.f1).f1).f2, al, am, an, Z, a3, a4, a5, ao, ap, af, Z⟩
     replace i := Zk i
     refine Qx 6 (by rw [i]; rfl) ?_
     refine Zb (V ?_)
     have cw := Zu b
     subst z
     exact ⟨cf, (Zt ak aH), (aw.f2).f2, al, am, an, Z, a3, a4, a5, ao, ap, af, Z⟩
    replace d := Zk d
    refine Qx 14 (by rw [d]; rfl) ?_
    refine Zb (V ?_)
    have cx := Zu b
    subst z
    exact ⟨ce, ak, (ah.f2).f2, al, am, an, Z, a3, a4, a5, ao, ap, af, Z⟩
   intro c5 cX bm
   obtain ⟨a8, b3, ax, aK, aL, aM, b9, aN, aO, aP, aQ, aR, aS, aT⟩ := bm
   refine (V ?_)
   obtain ⟨ad, q, p⟩ := Zg p
   refine QK (M := fun f' w' => (fun (ad : (List Int)) => ∃ (ba : PHeap) (ar : Value), PHeap.le a8 ba ∧ St w0 ba (Res.box n 60 [Value.string (a.Name), U (a.Cost), u, h] :: Res.arr (Qa .i64) 3 ar ad :: H) w' ∧ f' 1 = o ∧ f' 2 = Vq n ∧ f' 5 = ar ∧ f' 11 = h ∧ f' 12 = U ((a.Effs.length : Int)) ∧ f' 13 = U ((ac : Int)) ∧ f' 23 = ae ∧ f' 24 = U ((x.When.length : Int)) ∧ f' 25 = U ((ay : Int))) ad) ?_ ?_
   ·rcases Qf q with ⟨ab, q⟩ | ⟨ab, q⟩
    ·refine Qr aT ab (Zd (O Z Z (Zm (v := l) Z aM (O Z Z (Zp YS Z b9 Z (O Z Z (Zn (ax.f2) A3 Z Z Z (O Z Z (Exec.buildSlice (Te := 3) (cs := [U (m.Var)]) ax Z (Qc (c := [U (m.Var)]) (Qh Z Z) Qu) (fun _ => by kernel_rfl) ?_)))))))))
     intro ct cY bt
     obtain ⟨c9, bZ, q⟩ := Zg q
     refine O Z Z (QZ (E := (Qa .i64)) (ys := [m.Var]) bt.f2 JG Z3 Z (by decide) Z Z Z Z ⟨[U (m.Var)], [], Z, Z, Z⟩ Z bZ ?_)
     intro bc cZ bu
     refine O Z Z (Zo (v := bc) Z Z (Zb (V ?_)))
     have cy := Zu q
     subst ad
     exact ⟨a8, bc, (Zv _), ((bu.f2).drop).f1, aK, aL, Z, aN, aO, aP, aQ, aR, aS⟩
    refine Qs aT ab ?_
    replace ab := Zk ab
    refine Qq (V ?_)
    have cz := Zu q
    subst ad
    exact ⟨a8, l, (Zv _), (((ax.f2).drop).f1).f1, aK, aL, aM, aN, aO, aP, aQ, aR, aS⟩
   intro c6 da bn
   obtain ⟨ch, ar, b4, bv, bA, bB, bC, bD, bE, bF, bG, bH, bI⟩ := bn
   refine (Qz (V (Zd (O Z Z (Exec.add Z bI Z (O Z Z (Zm (v := U (IntKind.i64.wrap ((ay : Int) + 1))) Z Z (Zb (V ?_)))))))))
   have c0 := Zu p
   subst cc
   exact ⟨ch, ar, (Zt (Zt aj b3) b4), (bv.f1).f1, bA, bB, bC, bD, bE, bF, bG, bH, (Eq.trans Z (QF b1 (SliceRep.le (aq.mono t))))⟩
  intro c7 db bk
  obtain ⟨ci, l, b5, bw, bJ, bK, bL, bM, bN, bO, cD, bP, ck⟩ := bk
  refine Zc (Zd (O Z Z (Zq Z ck bP (Zb (V (Zc (QB (Zx (decide_eq_false (by omega))) (QJ (Qn (Qn (Q9 (Qz (V (Zd (O Z Z (Exec.add Z bO Z (O Z Z (Zm (v := U (IntKind.i64.wrap ((ac : Int) + 1))) Z Z (Zb (V ?_))))))))))))))))))))
  have c1 := Zu g
  subst aX
  exact ⟨ci, l, (Zt (Zt y t) b5), (bw.f1).f1, bJ, bK, bL, bM, bN, (Eq.trans Z (QF aG (SliceRep.le ag)))⟩
 intro c8 dc bl
 obtain ⟨cI, j, b6, bx, cE, cF, aU, cG, bQ, cl⟩ := bl
 refine Zc (Zd (O Z Z (Zq Z cl bQ (Zb (V (Zc (QB (Zx (decide_eq_false (by omega))) (QJ (Qn (Qn (Q9 (V (Zc (Zd (O Z Z (Zm (v := j) Z aU ?_))))))))))))))))
 obtain ⟨cA, ca, hm⟩ := Zg hm
 refine O Z Z (Tc Z Z Z (Zi Z Qk) (QcK ca bx.f1).r ?_)
 rintro _ dd ⟨cJ, b7, bz, rfl⟩
 refine Zb (V (Zc (Zd (O Z Z (Zm (v := j) Z aU (O Z Z (Zo (v := j) Z Z (Zb (V (Q0 ?_))))))))))
 have c2 := Zu hm
 subst r
 refine ⟨_, QW Z, ?_⟩
 obtain ⟨cj, b8, b0, cb⟩ := bz.freezeArr
 exact ⟨cj, j, (Zt (Zt b6 b7) b8), b0.drop, Z, cb⟩
end Go.Pw
