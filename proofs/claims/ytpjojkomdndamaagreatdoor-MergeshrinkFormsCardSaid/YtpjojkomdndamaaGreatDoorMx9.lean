/- -/
import Derived.Test.YtpjojkomdndamaaGreatDoorLC
import Derived.Test.YtpjojkomdndamaaGreatDoorMx8
set_option maxRecDepth 100000
set_option maxHeartbeats 4000000
set_option linter.unusedVariables false
namespace Go.Pw
open Go.Proofs
theorem QcS {w0 w : World} {s : PHeap} {H : List Res} {r : Bool} (hm : Y4 = some r) (hS : St w0 s (H) w) :
  Calls Tryz.prog 10 #[] w fun e w' => ∃ v, e = .returned v ∧ ((fun (y23 : Bool) => ∃ (az : PHeap) , PHeap.le s az ∧ St w0 az (H) w' ∧ v = Value.bool (y23)) r) := by
 unfold Y4 at hm
 refine Qw Tryz.func10 Z Z (Zc (Zd (O Z Z (Zo (v := Vb false) Z Z (Zb (V (Zc (Zd (O Z Z (Tc Z Z Z Qk (QaC Y7 hS).r ?_))))))))))
 rintro _ cC ⟨ca, cq, cr, ct, cu, ah, a3, rfl, bh, bi, bj, bk⟩
 refine O Z Z (Exec.buildSlice (Te := 3) (cs := [U 0, U 1]) a3 Z (Qc (c := [U 0]) (Qh Z Z) (Qc (c := [U 1]) (Qh Z Z) Qu)) (fun _ => by kernel_rfl) ?_)
 intro bD cD a4
 have a5 := St.boxArr (E := (Qa .i64)) (xs := [0, 1]) a4 ⟨[U 0], [U 1], rfl, rfl, ⟨[U 1], [], rfl, rfl, rfl⟩⟩ (by simp [maxLen])
 obtain ⟨cb, p, a6, bl⟩ := a5.freezeArr
 obtain ⟨bA, bc, hm⟩ := Zg hm
 obtain ⟨bU, b⟩ := bA
 replace hm := Jp hm
 refine O Z Z (Tc Z Z Z (Zi Z (Zi Z (Zi Z Qk))) (Ku bc a6 (bh.mono p) (bi.mono p) (bj.mono p) (bk.mono p) bl).r ?_)
 rintro _ cE aT
 rcases aT with ⟨an, rfl, cc, cv, aa, cw, cx, aw, a7, rfl, ak⟩ | ⟨rfl, cd, ax, a8, rfl⟩
 ·replace hm := Qcy hm
  obtain ⟨ck, y, hm⟩ := Zg hm
  refine O Z Z (Zm (v := Value.tuple #[Vq aa, QD 50 (b)]) Z Z (O Z Z (Exec.extract (v := Vq aa) Z Z Z (O Z Z (Exec.extract (v := QD 50 (b)) Z Z Z (O Z Z (Zo (v := Vq aa) Z Z (O Z Z (Zo (v := QD 50 (b)) Z Z (Zb (V (Zc (Zd (O Z Z (Tc Z Z Z Qk (QaC Y7 a7).r ?_)))))))))))))))
  rintro _ cF ⟨ce, cy, cz, c0, c1, ad, a9, rfl, bm, bn, bo, bp⟩
  refine O Z Z (Exec.buildSlice (Te := 3) (cs := [U 1, U 0]) a9 Z (Qc (c := [U 1]) (Qh Z Z) (Qc (c := [U 0]) (Qh Z Z) Qu)) (fun _ => by kernel_rfl) ?_)
  intro bE cG aA
  have aB := St.boxArr (E := (Qa .i64)) (xs := [1, 0]) aA ⟨[U 1], [U 0], rfl, rfl, ⟨[U 0], [], rfl, rfl, rfl⟩⟩ (by simp [maxLen])
  obtain ⟨cf, j, aC, bq⟩ := aB.freezeArr
  obtain ⟨bB, bd, hm⟩ := Zg hm
  obtain ⟨bV, g⟩ := bB
  replace hm := Jp hm
  refine O Z Z (Tc Z Z Z (Zi Z (Zi Z (Zi Z Qk))) (Ku bd aC (bm.mono j) (bn.mono j) (bo.mono j) (bp.mono j) bq).r ?_)
  rintro _ cH aU
  rcases aU with ⟨ao, rfl, bz, c2, ab, c3, c4, ai, aD, rfl, al⟩ | ⟨rfl, b0, aW, aE, rfl⟩
  ·replace hm := Qcy hm
   obtain ⟨cl, af, hm⟩ := Zg hm
   refine O Z Z (Zm (v := Value.tuple #[Vq ab, QD 50 (g)]) Z Z (O Z Z (Exec.extract (v := Vq ab) Z Z Z (O Z Z (Exec.extract (v := QD 50 (g)) Z Z Z (O Z Z (Zo (v := Vq ab) Z Z (O Z Z (Zo (v := QD 50 (g)) Z Z (Zb (V (Zc ?_))))))))))))
   obtain ⟨l, a, hm⟩ := Zg hm
   refine QK (M := fun f' w' => (fun (l : Bool) => ∃ (a0 : PHeap) , PHeap.le bz a0 ∧ St w0 a0 (H) w' ∧ f' 0 = Vb l) l) ?_ ?_
   ·refine Zd (O Z Z (Zm (v := QD 50 (b)) Z Z (O Z Z (Ki (T := 50) Tryz.underlying32 Z Z Z (O Z Z (Zm (v := Vb (b.isNone)) Z Z (Qj Z (Zf Z (Zx (Q7 y))) Z (Zm (v := QD 50 (g)) Z Z (Qj Z (Zf Z (Zx (Q7 y))) Z (Ki (T := 50) Tryz.underlying32 Z Z Z (O Z Z (Zs (v := Vb (g.isNone)) Z (Zx (Q7 y)) Z (O Z Z (Zm (v := Vb (g.isNone)) Z Z (Qj Z (Zf Z (Zx (Q7 af))) Z (Zm (v := Vq aa) Z Z (Qj Z (Zf Z (Zx (Q7 af))) Z (Exec.buildSlice (Te := 3) (cs := [U 0, U 0]) aD Z (Qc (c := [U 0]) (Qh Z Z) (Qc (c := [U 0]) (Qh Z Z) Qu)) (fun _ => by kernel_rfl) ?_))))))))))))))))))
    intro bF cI aF
    have aG := St.boxArr (E := (Qa .i64)) (xs := [0, 0]) aF ⟨[U 0], [U 0], rfl, rfl, ⟨[U 0], [], rfl, rfl, rfl⟩⟩ (by simp [maxLen])
    obtain ⟨cg, d, aH, br⟩ := aG.freezeArr
    obtain ⟨a1, be, a⟩ := Zg a
    refine Qj Z (Zf Z (Zx (Q7 af))) Z (Tc Z Z Z (Zi Z (Zi Z Qk)) (Ju be ((aH.f5).f5).f5 (ak.mono (Zt (Zt (Zt ad j) ai) d)) br).r ?_)
    rintro _ cJ ⟨b1, h, ap, rfl⟩
    refine Qj Z (Zf Z (Zx (Q7 af))) Z (Exec.eql Z Z Z (O Z Z (Zs (v := Vb (decide (a1 = 3))) Z (Zx (Q7 af)) Z (O Z Z (Zm (v := Vb (decide (a1 = 3))) Z Z ?_)))))
    rcases Qf a with ⟨m, a⟩ | ⟨m, a⟩
    ·refine Qj Z (Zf Z (Zx m)) Z (Zm (v := Vq aa) Z Z (Qj Z (Zf Z (Zx m)) Z (Tc Z Z Z (Zi Z Qk) (Kp (JN an) ((ap.f2).f2).f2 (ak.mono (Zt (Zt (Zt (Zt ad j) ai) d) h))).r ?_)))
     rintro _ cK ⟨b2, k, aq, rfl⟩
     refine Qj Z (Zf Z (Zx m)) Z (Exec.eql Z Z Z ?_)
     refine Qx 2 (by rw [m]; rfl) ?_
     rcases Qf a with ⟨q, a⟩ | ⟨q, a⟩
     ·refine Qj Z (Zf Z (Zx q)) Z (Zm (v := Vq aa) Z Z (Qj Z (Zf Z (Zx q)) Z (Tc Z Z Z (Zi Z Qk) (Kl (JJ an) ((aq.f2).f2).f2 (ak.mono (Zt (Zt (Zt (Zt (Zt ad j) ai) d) h) k))).r ?_)))
      rintro _ cL ⟨b3, t, ar, rfl⟩
      refine Qx 2 (by rw [q]; rfl) ?_
      rcases Qf a with ⟨i, a⟩ | ⟨i, a⟩
      ·refine Qj Z (Zf Z (Zx i)) Z (Zm (v := Vq ab) Z Z (Qj Z (Zf Z (Zx i)) Z (Exec.buildSlice (Te := 3) (cs := [U 0, U 0]) ar Z (Qc (c := [U 0]) (Qh Z Z) (Qc (c := [U 0]) (Qh Z Z) Qu)) (fun _ => by kernel_rfl) ?_)))
       intro bG cM aI
       have aJ := St.boxArr (E := (Qa .i64)) (xs := [0, 0]) aI ⟨[U 0], [U 0], rfl, rfl, ⟨[U 0], [], rfl, rfl, rfl⟩⟩ (by simp [maxLen])
       obtain ⟨ch, u, aK, bs⟩ := aJ.freezeArr
       obtain ⟨cU, bf, a⟩ := Zg a
       refine Qj Z (Zf Z (Zx i)) Z (Tc Z Z Z (Zi Z (Zi Z Qk)) (Ju bf ((aK.f5).f5).f5 (al.mono (Zt (Zt (Zt (Zt d h) k) t) u)) bs).r ?_)
       rintro _ cN ⟨b4, ae, au, rfl⟩
       refine Qj Z (Zf Z (Zx i)) Z (Exec.eql Z Z Z ?_)
       refine Qx 2 (by rw [i]; rfl) ?_
       rcases Qf a with ⟨n, a⟩ | ⟨n, a⟩
       ·refine Qj Z (Zf Z (Zx n)) Z (Zm (v := Vq ab) Z Z (Qj Z (Zf Z (Zx n)) Z (Tc Z Z Z (Zi Z Qk) (Kp (JN ao) ((au.f2).f2).f2 (al.mono (Zt (Zt (Zt (Zt (Zt d h) k) t) u) ae))).r ?_)))
        rintro _ cO ⟨b5, aj, av, rfl⟩
        refine Qj Z (Zf Z (Zx n)) Z (Exec.eql Z Z Z ?_)
        refine Qx 2 (by rw [n]; rfl) ?_
        rcases Qf a with ⟨o, a⟩ | ⟨o, a⟩
        ·refine Qj Z (Zf Z (Zx o)) Z (Zm (v := Vq ab) Z Z (Qj Z (Zf Z (Zx o)) Z (Tc Z Z Z (Zi Z Qk) (Kl (JJ ao) ((av.f2).f2).f2 (al.mono (Zt (Zt (Zt (Zt (Zt (Zt d h) k) t) u) ae) aj))).r ?_)))
         rintro _ cP ⟨b6, aX, aL, rfl⟩
         refine Qj Z (Zf Z (Zx o)) Z (Exec.not Z Z ?_)
         refine Qx 2 (by rw [o]; rfl) ?_
         refine Zb (V ?_)
         have bJ := Zu a
         subst l
         exact ⟨b6, (Zt (Zt (Zt (Zt (Zt (Zt (Zt d h) k) t) u) ae) aj) aX), (((((aL.drop).drop).drop).drop).drop).drop, Z⟩
        replace o := Zk o
        refine Qx 5 (by rw [o]; rfl) ?_
        refine Zb (V ?_)
        have bK := Zu a
        subst l
        exact ⟨b5, (Zt (Zt (Zt (Zt (Zt (Zt d h) k) t) u) ae) aj), (((((av.drop).drop).drop).drop).drop).drop, Z⟩
       replace n := Zk n
       refine Qx 10 (by rw [n]; rfl) ?_
       refine Zb (V ?_)
       have bL := Zu a
       subst l
       exact ⟨b4, (Zt (Zt (Zt (Zt (Zt d h) k) t) u) ae), (((((au.drop).drop).drop).drop).drop).drop, Z⟩
      replace i := Zk i
      refine Qx 16 (by rw [i]; rfl) ?_
      refine Zb (V ?_)
      have bM := Zu a
      subst l
      exact ⟨b3, (Zt (Zt (Zt d h) k) t), (((((ar.drop).drop).drop).drop).drop).drop, Z⟩
     replace q := Zk q
     refine Qx 20 (by rw [q]; rfl) ?_
     refine Zb (V ?_)
     have bN := Zu a
     subst l
     exact ⟨b2, (Zt (Zt d h) k), (((((aq.drop).drop).drop).drop).drop).drop, Z⟩
    replace m := Zk m
    refine Qx 25 (by rw [m]; rfl) ?_
    refine Zb (V ?_)
    have bO := Zu a
    subst l
    exact ⟨b1, (Zt d h), (((((ap.drop).drop).drop).drop).drop).drop, Z⟩
   intro bT cQ a2
   obtain ⟨b7, aY, aM, bb⟩ := a2
   refine (V (Q0 ?_))
   have bP := Zu hm
   subst r
   refine ⟨_, QW Z, ?_⟩
   exact ⟨b7, (Zt (Zt (Zt (Zt (Zt (Zt ah p) aw) ad) j) ai) aY), aM, bb⟩
  replace hm := Qcz hm
  obtain ⟨cm, ag, hm⟩ := Zg hm
  refine O Z Z (Zm (v := Value.tuple #[Vp none, QD 50 (g)]) Z Z (O Z Z (Exec.extract (v := Vp none) Z Z Z (O Z Z (Exec.extract (v := QD 50 (g)) Z Z Z (O Z Z (Zo (v := Vp none) Z Z (O Z Z (Zo (v := QD 50 (g)) Z Z (Zb (V (Zc (Zd (O Z Z (Zm (v := QD 50 (b)) Z Z (O Z Z (Ki (T := 50) Tryz.underlying32 Z Z Z (O Z Z (Zm (v := Vb (b.isNone)) Z Z (Qj Z (Zf Z (Zx (Q7 y))) Z (Zm (v := QD 50 (g)) Z Z (Qj Z (Zf Z (Zx (Q7 y))) Z (Ki (T := 50) Tryz.underlying32 Z Z Z (O Z Z (Zs (v := Vb (g.isNone)) Z (Zx (Q7 y)) Z (O Z Z (Zm (v := Vb (g.isNone)) Z Z (Zl Z (Zf Z (Zx (KN (Q7 ag)))) Z Z (Zl Z (Zf Z (Zx (KN (Q7 ag)))) Z Z (Zl Z (Zf Z (Zx (KN (Q7 ag)))) Z Z (Zl Z (Zf Z (Zx (KN (Q7 ag)))) Z Z (O Z Z (Q8 (v := Vb false) Z (Zx (KN (Q7 ag))) Z (Qx 26 Z (Zb (V (Q0 ?_)))))))))))))))))))))))))))))))))))))
  have bQ := Zu hm
  subst r
  refine ⟨_, QW Z, ?_⟩
  exact ⟨b0, (Zt (Zt (Zt (Zt (Zt ah p) aw) ad) j) aW), ((aE.drop).drop).drop, Z⟩
 replace hm := Qcz hm
 obtain ⟨cn, z, hm⟩ := Zg hm
 refine O Z Z (Zm (v := Value.tuple #[Vp none, QD 50 (b)]) Z Z (O Z Z (Exec.extract (v := Vp none) Z Z Z (O Z Z (Exec.extract (v := QD 50 (b)) Z Z Z (O Z Z (Zo (v := Vp none) Z Z (O Z Z (Zo (v := QD 50 (b)) Z Z (Zb (V (Zc (Zd (O Z Z (Tc Z Z Z Qk (QaC Y7 a8).r ?_)))))))))))))))
 rintro _ cR ⟨ci, c5, c6, c7, c8, ay, aN, rfl, bt, bu, bv, bw⟩
 refine O Z Z (Exec.buildSlice (Te := 3) (cs := [U 1, U 0]) aN Z (Qc (c := [U 1]) (Qh Z Z) (Qc (c := [U 0]) (Qh Z Z) Qu)) (fun _ => by kernel_rfl) ?_)
 intro bH cS aO
 have aP := St.boxArr (E := (Qa .i64)) (xs := [1, 0]) aO ⟨[U 1], [U 0], rfl, rfl, ⟨[U 0], [], rfl, rfl, rfl⟩⟩ (by simp [maxLen])
 obtain ⟨cj, x, aQ, bx⟩ := aP.freezeArr
 obtain ⟨bC, bg, hm⟩ := Zg hm
 obtain ⟨bW, ac⟩ := bC
 replace hm := Jp hm
 refine O Z Z (Tc Z Z Z (Zi Z (Zi Z (Zi Z Qk))) (Ku bg aQ (bt.mono x) (bu.mono x) (bv.mono x) (bw.mono x) bx).r ?_)
 rintro _ cT aV
 rcases aV with ⟨bI, rfl, b8, c9, am, cA, cB, aZ, aR, rfl, bZ⟩ | ⟨rfl, b9, ba, aS, rfl⟩
 ·replace hm := Qcy hm
  obtain ⟨co, bX, hm⟩ := Zg hm
  refine O Z Z (Zm (v := Value.tuple #[Vq am, QD 50 (ac)]) Z Z (O Z Z (Exec.extract (v := Vq am) Z Z Z (O Z Z (Exec.extract (v := QD 50 (ac)) Z Z Z (O Z Z (Zo (v := Vq am) Z Z (O Z Z (Zo (v := QD 50 (ac)) Z Z (Zb (V (Zc (Zd (O Z Z (Zm (v := QD 50 (b)) Z Z (O Z Z (Ki (T := 50) Tryz.underlying32 Z Z Z (O Z Z (Zm (v := Vb (b.isNone)) Z Z (Zl Z (Zf Z (Zx (KN (Q7 z)))) Z Z (Zl Z (Zf Z (Zx (KN (Q7 z)))) Z Z (O Z Z (Q8 (v := Vb false) Z (Zx (KN (Q7 z))) Z (Qx 32 Z (Zb (V (Q0 ?_)))))))))))))))))))))))))))
  have bR := Zu hm
  subst r
  refine ⟨_, QW Z, ?_⟩
  exact ⟨b8, (Zt (Zt (Zt (Zt (Zt ah p) ax) ay) x) aZ), ((aR.drop).drop).drop, Z⟩
 replace hm := Qcz hm
 obtain ⟨cp, bY, hm⟩ := Zg hm
 refine O Z Z (Zm (v := Value.tuple #[Vp none, QD 50 (ac)]) Z Z (O Z Z (Exec.extract (v := Vp none) Z Z Z (O Z Z (Exec.extract (v := QD 50 (ac)) Z Z Z (O Z Z (Zo (v := Vp none) Z Z (O Z Z (Zo (v := QD 50 (ac)) Z Z (Zb (V (Zc (Zd (O Z Z (Zm (v := QD 50 (b)) Z Z (O Z Z (Ki (T := 50) Tryz.underlying32 Z Z Z (O Z Z (Zm (v := Vb (b.isNone)) Z Z (Zl Z (Zf Z (Zx (KN (Q7 z)))) Z Z (Zl Z (Zf Z (Zx (KN (Q7 z)))) Z Z (O Z Z (Q8 (v := Vb false) Z (Zx (KN (Q7 z))) Z (Qx 32 Z (Zb (V (Q0 ?_)))))))))))))))))))))))))))
 have bS := Zu hm
 subst r
 refine ⟨_, QW Z, ?_⟩
 exact ⟨b9, (Zt (Zt (Zt (Zt (Zt ah p) ax) ay) x) ba), aS, Z⟩
theorem Qdo {w0 w : World} {s : PHeap} {H : List Res} {ao : (List Int)} {p : (List Int)} {i : Value} {c : Value} {r : Bool} (hm : KY ao p = some r) (hS : St w0 s (H) w) (aa : SliceRep (Qa .i64) s i ao) (j : SliceRep (Qa .i64) s c p) :
  Calls Tryz.prog 28 #[i, c] w fun e w' => ∃ v, e = .returned v ∧ ((fun (aP : Bool) => ∃ (aj : PHeap) , PHeap.le s aj ∧ St w0 aj (H) w' ∧ v = Value.bool (aP)) r) := by
 unfold KY at hm
 refine Qw Tryz.func28 Z Z (Zc (Zd (O Z Z (Zo (v := Vb false) Z Z (Zb (V (Zc (Zc (Zd (O Z Z (Zm (v := c) Z Z (O Z Z (Zr JG Z Z j (O Z Z (Zm (v := i) Z Z (O Z Z (Zr JG Z Z aa (O Z Z (Exec.neq Z Z Z (Zb (V ?_)))))))))))))))))))))
 rcases Qf hm with ⟨m, hm⟩ | ⟨m, hm⟩
 ·refine Qr Z m (Zc (Zd (O Z Z (Zo (v := Vb false) Z Z (Zb (V (Q0 (Qi ?_))))))))
  have aT := Zu hm
  subst r
  refine ⟨_, QW Z, ?_⟩
  exact ⟨s, (Zv _), hS, Z⟩
 refine Qs Z m ?_
 replace m := Zk m
 refine Qq (V (Zc (Zc (Zd (O Z Z (Zm (v := c) Z Z (O Z Z (Zr JG Z Z j (O Z Z (Zm (v := U 0) Z Z (Zb (V ?_))))))))))))
 obtain ⟨ab, av, a6, a4, a2⟩ := QN hm
 refine QK (M := fun f' w' => ∃ s', (ab = .next s' ∨ ab = .brk s') ∧ (fun (_ : Unit) => ∃ (ak : PHeap) , PHeap.le s ak ∧ St w0 ak (H) w' ∧ f' 0 = i ∧ f' 1 = c ∧ f' 12 = U ((p.length : Int))) s') ?_ ?_
 ·refine Qo (JI (fun k' s' f' w' => (fun (_ : Unit) => ∃ (al : PHeap) , PHeap.le s al ∧ St w0 al (H) w' ∧ f' 0 = i ∧ f' 1 = c ∧ f' 12 = U ((p.length : Int)) ∧ f' 13 = U (k' : Int)) s') av ?_ ?_ ?_)
  ·exact ⟨s, (Zv _), hS, Z, Z, Z, Z⟩
  ·intro g bn ac bd bt a3 aw d a7
   obtain ⟨z, o, l, x, t, y, u⟩ := aw
   refine Zc (Zd (O Z Z (Zq Z u y (Zb (V (Zc (QL (Zx (decide_eq_true (by omega))) (Qq (V (Zc (Qo (Zc (Zd (O Z Z (Zm (v := U ((g : Int))) Z u (O Z Z (Zo (v := U ((g : Int))) Z Z (Zb (V (Zc ?_))))))))))))))))))))
   obtain ⟨q, b, d⟩ := Zg d
   refine QK (M := fun f' w' => (fun (q : Bool) => ∃ (am : PHeap) , PHeap.le z am ∧ St w0 am (H) w' ∧ f' 0 = i ∧ f' 1 = c ∧ f' 12 = U ((p.length : Int)) ∧ f' 13 = U ((g : Int)) ∧ f' 31 = Vb q) q) ?_ ?_
   ·refine KT (n0 := 16) (qs 0 16 .done) Yc (by kernel_rfl) (by kernel_rfl) (Qm Z Z (Zm (v := c) Z t ⟨Z, ?_⟩))
    refine Qm Z Z (Zm (v := U ((g : Int))) Z Z ⟨Z, ?_⟩)
    obtain ⟨ap, ai, b⟩ := Zg b
    refine Qm Z Z (QT JG Z Z Z (j.mono o) ai ?_)
    intro aQ bh aq aU
    refine ⟨Z, ?_⟩
    refine Qm Z Z (Zw (E := (Qa .i64)) l.drew A3 Z Z Z aq ?_)
    intro bq aH
    obtain rfl := Qv.1 aH
    refine ⟨Z, ?_⟩
    refine Qm Z Z (Zq Z Z Z ⟨Z, ?_⟩)
    refine Qm Z Z (Zm (v := Vb (decide (ap < 0))) Z Z ⟨Z, ?_⟩)
    rcases Qf b with ⟨a, b⟩ | ⟨a, b⟩
    ·refine Jh 10 (by rw [a]; rfl) ?_
     refine QG (Zb (V ?_))
     have aV := Zu b
     subst q
     exact ⟨z, (Zv _), l.drew, x, t, y, u, Z⟩
    replace a := Zk a
    refine QE Z Z (Zf Z (Zx a)) (Zm (v := c) Z t ⟨Z, ?_⟩)
    refine QE Z Z (Zf Z (Zx a)) (Zm (v := U ((g : Int))) Z Z ⟨Z, ?_⟩)
    refine QE Z Z (Zf Z (Zx a)) (QT JG Z Z Z (j.mono o) ai ?_)
    intro aR bi ar aW
    refine ⟨Z, ?_⟩
    refine QE Z Z (Zf Z (Zx a)) (Zw (E := (Qa .i64)) l.drew A3 Z Z Z ar ?_)
    intro br aI
    obtain rfl := Qv.1 aI
    refine ⟨Z, ?_⟩
    refine QE Z Z (Zf Z (Zx a)) (Zm (v := i) Z x ⟨Z, ?_⟩)
    refine QE Z Z (Zf Z (Zx a)) (Zm (v := U ((g : Int))) Z Z ⟨Z, ?_⟩)
    obtain ⟨aN, aJ, b⟩ := Zg b
    refine QE Z Z (Zf Z (Zx a)) (QT JG Z Z Z (aa.mono o) aJ ?_)
    intro aS bj au aX
    refine ⟨Z, ?_⟩
    refine QE Z Z (Zf Z (Zx a)) (Zw (E := (Qa .i64)) l.drew A3 Z Z Z au ?_)
    intro bs aK
    obtain rfl := Qv.1 aK
    refine ⟨Z, ?_⟩
    refine QE Z Z (Zf Z (Zx a)) (Exec.geq Z Z Z ⟨Z, ?_⟩)
    refine Qm Z Z (Q8 (v := Vb (decide (aN ≤ ap))) Z (Zx a) Z ⟨Z, ?_⟩)
    refine QG (Zb (V ?_))
    have aY := Zu b
    subst q
    exact ⟨z, (Zv _), l.drew, x, t, y, u, Z⟩
   intro be bu ay
   obtain ⟨an, af, ad, aB, aC, aD, aE, ag⟩ := ay
   refine (V ?_)
   rcases Qf d with ⟨n, d⟩ | ⟨n, d⟩
   ·refine Qr ag n (Zc (Zd (O Z Z (Zo (v := Vb false) Z Z (Zb (V (Q0 (QC (Qi (Qi (QC (Qi (Qi ?_)))))))))))))
    have aZ := Zu d
    subst ac
    have a5 := a6 _ (a7 (by intro _ h; cases h))
    have ba := Zu a5
    subst r
    refine ⟨_, QW Z, ?_⟩
    exact ⟨an, (Zt o af), ad, Z⟩
   refine Qs ag n ?_
   replace n := Zk n
   refine Qq (Qz (V (Zd (O Z Z (Exec.add Z aE Z (O Z Z (Zm (v := U (IntKind.i64.wrap ((g : Int) + 1))) Z Z (Zb (V ?_)))))))))
   have bb := Zu d
   subst ac
   refine ⟨_, Z, ?_⟩; exact ⟨an, (Zt o af), ad, aB, aC, aD, (Eq.trans Z (QF a3 (SliceRep.le j)))⟩
  intro bo bf bv ax a8
  obtain ⟨aL, a9, a0, aF, aG, ah, aO⟩ := ax
  refine Zc (Zd (O Z Z (Zq Z aO ah (Zb (V (Zc (QB (Zx (decide_eq_false (by omega))) (QJ (Qn (Qn (Q9 (V ?_))))))))))))
  refine ⟨_, .inl a8, ?_⟩; exact ⟨aL, a9, a0, aF, aG, ah⟩
 rintro bg bw ⟨bp, ae, az⟩
 have hm := ae.elim (a4 _) (a2 _)
 clear ae
 obtain ⟨aM, aA, a1, bk, bl, bm⟩ := az
 refine (V (Zc (Zd (O Z Z (Zo (v := Vb true) Z Z (Zb (V (Q0 ?_))))))))
 have bc := Zu hm
 subst r
 refine ⟨_, QW Z, ?_⟩
 exact ⟨aM, aA, a1, Z⟩
theorem Qag {w0 w : World} {s : PHeap} {H : List Res} {af : (List Int)} {ac : (List Fact)} {aa : Value} {j : Value} {r : Bool} (hm : KK af ac = some r) (hS : St w0 s (H) w) (ag : SliceRep (Qa .i64) s aa af) (ae : SliceRep encFact s j ac) :
  Calls Tryz.prog 46 #[aa, j] w fun e w' => ∃ v, e = .returned v ∧ ((fun (aZ : Bool) => ∃ (ap : PHeap) , PHeap.le s ap ∧ St w0 ap (H) w' ∧ v = Value.bool (aZ)) r) := by
 unfold KK at hm
 refine Qw Tryz.func46 Z Z (Zc (Zd (O Z Z (Zo (v := Vb false) Z Z (Zb (V (Zc (Zc (Zd (O Z Z (Zm (v := j) Z Z (O Z Z (Zr S23 Z Z ae (O Z Z (Zm (v := U 0) Z Z (Zb (V ?_)))))))))))))))))
 obtain ⟨ah, a0, aD, aB, a9⟩ := QN hm
 refine QK (M := fun f' w' => ∃ s', (ah = .next s' ∨ ah = .brk s') ∧ (fun (_ : Unit) => ∃ (aq : PHeap) , PHeap.le s aq ∧ St w0 aq (H) w' ∧ f' 0 = aa ∧ f' 1 = j ∧ f' 7 = j ∧ f' 8 = U ((ac.length : Int))) s') ?_ ?_
 ·refine Qo (JI (fun k' s' f' w' => (fun (_ : Unit) => ∃ (ar : PHeap) , PHeap.le s ar ∧ St w0 ar (H) w' ∧ f' 0 = aa ∧ f' 1 = j ∧ f' 7 = j ∧ f' 8 = U ((ac.length : Int)) ∧ f' 9 = U (k' : Int)) s') a0 ?_ ?_ ?_)
  ·exact ⟨s, (Zv _), hS, Z, Z, Z, Z, Z⟩
  ·intro t b2 ai bq b8 aA a1 l aE
   obtain ⟨z, ab, aj, q, u, x, y, m⟩ := a1
   refine Zc (Zd (O Z Z (Zq Z m y (Zb (V (Zc (QL (Zx (decide_eq_true (by omega))) (Qq (V (Zc (Qo (Zc (Zd (O Z Z (Zm (v := U ((t : Int))) Z m ?_)))))))))))))))
   obtain ⟨n, aQ, l⟩ := Zg l
   refine O Z Z (Qy S23 Z x m (ae.mono ab) aQ ?_)
   intro ba bu ax
   refine O Z Z (Zw (E := encFact) aj A90 Z Z Z ax ?_)
   intro b5 aR
   obtain rfl := YB.1 aR
   refine O Z Z (Exec.alloc (cs := [U 0, U 0]) aj Z90 Z Z ?_)
   intro bb b9 a5
   refine O Z Z (Zo (v := U ((t : Int))) Z Z (O Z Z (Qe (ds := [U (n.Var), U (n.Val)]) (es := [U (n.Var), U (n.Val)]) a5 A90 Z Z Z Z (Zj Z (Zj Z Q5)) (Nat.le_of_ble_eq_true Z) Z ?_)))
   intro bA a6
   refine Zb (V (Zc ?_))
   obtain ⟨o, a, l⟩ := Zg l
   refine QK (M := fun f' w' => (fun (o : Bool) => ∃ (au : PHeap) , PHeap.le z au ∧ St w0 au (H) w' ∧ f' 0 = aa ∧ f' 1 = j ∧ f' 7 = j ∧ f' 8 = U ((ac.length : Int)) ∧ f' 9 = U ((t : Int)) ∧ f' 53 = Vb o) o) ?_ ?_
   ·refine KT (n0 := 40) (qs 0 40 .done) Yc (by kernel_rfl) (by kernel_rfl) ?_
    have b := a6.drew
    refine Qm Z Z (Zp YS Z Z Z ⟨Z, ?_⟩)
    refine Qm Z Z (Zn (b) A3 Z Z Z ⟨Z, ?_⟩)
    refine Qm Z Z (Zq Z Z Z ⟨Z, ?_⟩)
    refine Qm Z Z (Zm (v := Vb (decide (n.Var < 0))) Z Z ⟨Z, ?_⟩)
    rcases Qf a with ⟨i, a⟩ | ⟨i, a⟩
    ·refine Jh 36 (by rw [i]; rfl) ?_
     refine QG (Zb (V ?_))
     have be := Zu a
     subst o
     exact ⟨z, (Zv _), b.drop, q, u, x, y, m, Z⟩
    replace i := Zk i
    refine QE Z Z (Zf Z (Zx i)) (Zp YS Z Z Z ⟨Z, ?_⟩)
    refine QE Z Z (Zf Z (Zx i)) (Zn (b) A3 Z Z Z ⟨Z, ?_⟩)
    refine QE Z Z (Zf Z (Zx i)) (Zm (v := aa) Z q ⟨Z, ?_⟩)
    refine QE Z Z (Zf Z (Zx i)) (Zr JG Z Z (ag.mono ab) ⟨Z, ?_⟩)
    refine QE Z Z (Zf Z (Zx i)) (Exec.geq Z Z Z ⟨Z, ?_⟩)
    refine Qm Z Z (Q8 (v := Vb (decide ((af.length : Int) ≤ n.Var))) Z (Zx i) Z ⟨Z, ?_⟩)
    refine Qm Z Z (Zm (v := Vb (decide ((af.length : Int) ≤ n.Var))) Z Z ⟨Z, ?_⟩)
    rcases Qf a with ⟨p, a⟩ | ⟨p, a⟩
    ·refine Jh 29 (by rw [p]; rfl) ?_
     refine QG (Zb (V ?_))
     have bf := Zu a
     subst o
     exact ⟨z, (Zv _), b.drop, q, u, x, y, m, Z⟩
    replace p := Zk p
    refine QE Z Z (Zf Z (Zx p)) (Zp Qfa Z Z Z ⟨Z, ?_⟩)
    refine QE Z Z (Zf Z (Zx p)) (Zn (b) A3 Z Z Z ⟨Z, ?_⟩)
    refine QE Z Z (Zf Z (Zx p)) (Zq Z Z Z ⟨Z, ?_⟩)
    refine Jh 2 (by rw [p]; rfl) ?_
    rcases Qf a with ⟨d, a⟩ | ⟨d, a⟩
    ·refine Jh 24 (by rw [d]; rfl) ?_
     refine QG (Zb (V ?_))
     have bg := Zu a
     subst o
     exact ⟨z, (Zv _), b.drop, q, u, x, y, m, Z⟩
    replace d := Zk d
    refine QE Z Z (Zf Z (Zx d)) (Zp Qfa Z Z Z ⟨Z, ?_⟩)
    refine QE Z Z (Zf Z (Zx d)) (Zn (b) A3 Z Z Z ⟨Z, ?_⟩)
    refine QE Z Z (Zf Z (Zx d)) (Zm (v := aa) Z q ⟨Z, ?_⟩)
    refine QE Z Z (Zf Z (Zx d)) (Zp YS Z Z Z ⟨Z, ?_⟩)
    refine QE Z Z (Zf Z (Zx d)) (Zn (b) A3 Z Z Z ⟨Z, ?_⟩)
    obtain ⟨bE, aS, a⟩ := Zg a
    refine QE Z Z (Zf Z (Zx d)) (QT JG Z Z Z (ag.mono ab) aS ?_)
    intro bc bv ay bh
    refine ⟨Z, ?_⟩
    refine QE Z Z (Zf Z (Zx d)) (Zw (E := (Qa .i64)) b A3 Z Z Z ay ?_)
    intro b6 aT
    obtain rfl := Qv.1 aT
    refine ⟨Z, ?_⟩
    refine QE Z Z (Zf Z (Zx d)) (Exec.geq Z Z Z ⟨Z, ?_⟩)
    refine Jh 2 (by rw [d]; rfl) ?_
    rcases Qf a with ⟨g, a⟩ | ⟨g, a⟩
    ·refine Jh 14 (by rw [g]; rfl) ?_
     refine QG (Zb (V ?_))
     have bi := Zu a
     subst o
     exact ⟨z, (Zv _), b.drop, q, u, x, y, m, Z⟩
    replace g := Zk g
    refine QE Z Z (Zf Z (Zx g)) (Zm (v := U ((t : Int))) Z Z ⟨Z, ?_⟩)
    refine QE Z Z (Zf Z (Zx g)) (Exec.gtr Z Z Z ⟨Z, ?_⟩)
    refine QE Z Z (Zf Z (Zx g)) (Zm (v := Vb (decide (0 < (t : Int)))) Z Z ⟨Z, ?_⟩)
    rcases Qf a with ⟨c, a⟩ | ⟨c, a⟩
    ·refine QE Z Z (Zf Z (Zx c)) (Zm (v := j) Z u ⟨Z, ?_⟩)
     refine QE Z Z (Zf Z (Zx c)) (Zm (v := U ((t : Int))) Z Z ⟨Z, ?_⟩)
     refine QE Z Z (Zf Z (Zx c)) (Exec.sub Z Z Z ⟨Z, ?_⟩)
     obtain ⟨aw, aU, a⟩ := Zg a
     refine QE Z Z (Zf Z (Zx c)) (QT S23 Z Z Z (ae.mono ab) aU ?_)
     intro bd bw az bj
     refine ⟨Z, ?_⟩
     refine QE Z Z (Zf Z (Zx c)) (Zp YS Z Z Z ⟨Z, ?_⟩)
     refine QE Z Z (Zf Z (Zx c)) (Zw (E := (Qa .i64)) b A3 Z Z Z (az.sub (Sub.iso (QmT (Sub.refl _))) Z) ?_)
     intro b7 aV
     obtain rfl := Qv.1 aV
     refine ⟨Z, ?_⟩
     refine QE Z Z (Zf Z (Zx c)) (Zp YS Z Z Z ⟨Z, ?_⟩)
     refine QE Z Z (Zf Z (Zx c)) (Zn (b) A3 Z Z Z ⟨Z, ?_⟩)
     refine QE Z Z (Zf Z (Zx c)) (Exec.geq Z Z Z ⟨Z, ?_⟩)
     refine QE Z Z (Zf Z (Zx g)) (Zs (v := Vb (decide (n.Var ≤ aw.Var))) Z (Zx c) Z ⟨Z, ?_⟩)
     refine Qm Z Z (Q8 (v := Vb (decide (n.Var ≤ aw.Var))) Z (Zx g) Z ⟨Z, ?_⟩)
     refine QG (Zb (V ?_))
     have bk := Zu a
     subst o
     exact ⟨z, (Zv _), b.drop, q, u, x, y, m, Z⟩
    replace c := Zk c
    refine Jh 9 (by rw [c]; rfl) ?_
    refine QE Z Z (Zf Z (Zx g)) (Q8 (v := Vb false) Z Z Z ⟨Z, ?_⟩)
    refine Qm Z Z (Q8 (v := Vb false) Z (Zx g) Z ⟨Z, ?_⟩)
    refine QG (Zb (V ?_))
    have bl := Zu a
    subst o
    exact ⟨z, (Zv _), b.drop, q, u, x, y, m, Z⟩
   intro br bB a3
   obtain ⟨av, am, ak, aI, aJ, aK, aL, aM, an⟩ := a3
   refine (V ?_)
   rcases Qf l with ⟨ad, l⟩ | ⟨ad, l⟩
   ·refine Qr an ad (Zc (Zd (O Z Z (Zo (v := Vb false) Z Z (Zb (V (Q0 (QC (Qi (Qi (QC (Qi (Qi ?_)))))))))))))
    have bm := Zu l
    subst ai
    have aC := aD _ (aE (by intro _ h; cases h))
    have bn := Zu aC
    subst r
    refine ⟨_, QW Z, ?_⟩
    exact ⟨av, (Zt ab am), ak, Z⟩
   refine Qs an ad ?_
   replace ad := Zk ad
   refine Qq (Qz (V (Zd (O Z Z (Exec.add Z aM Z (O Z Z (Zm (v := U (IntKind.i64.wrap ((t : Int) + 1))) Z Z (Zb (V ?_)))))))))
   have bo := Zu l
   subst ai
   refine ⟨_, Z, ?_⟩; exact ⟨av, (Zt ab am), ak, aI, aJ, aK, aL, (Eq.trans Z (QF aA (SliceRep.le ae)))⟩
  intro b3 bs bC a2 aF
  obtain ⟨aW, aG, a7, aN, aO, aP, ao, aY⟩ := a2
  refine Zc (Zd (O Z Z (Zq Z aY ao (Zb (V (Zc (QB (Zx (decide_eq_false (by omega))) (QJ (Qn (Qn (Q9 (V ?_))))))))))))
  refine ⟨_, .inl aF, ?_⟩; exact ⟨aW, aG, a7, aN, aO, aP, ao⟩
 rintro bt bD ⟨b4, al, a4⟩
 have hm := al.elim (aB _) (a9 _)
 clear al
 obtain ⟨aX, aH, a8, bx, bz, b0, b1⟩ := a4
 refine (V (Zc (Zd (O Z Z (Zo (v := Vb true) Z Z (Zb (V (Q0 ?_))))))))
 have bp := Zu hm
 subst r
 refine ⟨_, QW Z, ?_⟩
 exact ⟨aX, aH, a8, Z⟩
theorem QeB {w0 w : World} {s : PHeap} {H : List Res} {bd : (List Int)} {a : Op} {i : Value} {ad : Value} {n : Value} {r : Bool} (hm : Y1 bd a = some r) (hS : St w0 s (H) w) (av : SliceRep (Qa .i64) s i bd) (bf : SliceRep encFact s ad a.Pre) (al : SliceRep encEffect s n a.Effs) :
  Calls Tryz.prog 47 #[i, Value.agg #[Value.string (a.Name), U (a.Cost), ad, n]] w fun e w' => ∃ v, e = .returned v ∧ ((fun (cr : Bool) => ∃ (aS : PHeap) , PHeap.le s aS ∧ St w0 aS (H) w' ∧ v = Value.bool (cr)) r) := by
 unfold Y1 at hm
 refine Qw Tryz.func47 Z Z (Zc (Zd (O Z Z (Exec.box (cs := [Value.string (a.Name), U (a.Cost), ad, n]) hS Z Z Z ?_))))
 intro x dd j
 refine O Z Z (Zo (v := Vb false) Z Z (Zb (V (Zc (Zc ?_)))))
 obtain ⟨z, b, hm⟩ := Zg hm
 refine QK (M := fun f' w' => (fun (z : Bool) => ∃ (aT : PHeap) , PHeap.le s aT ∧ St w0 aT (Res.box x 60 [Value.string (a.Name), U (a.Cost), ad, n] :: H) w' ∧ f' 0 = i ∧ f' 3 = Vq x ∧ f' 34 = Vb z) z) ?_ ?_
 ·refine Zd (O Z Z (Zp Qin Z Z Z (O Z Z (Zn (j) A3 Z Z Z (O Z Z (Zq Z Z Z (O Z Z (Zm (v := Vb (decide (a.Cost < 0))) Z Z ?_))))))))
  rcases Qf b with ⟨y, b⟩ | ⟨y, b⟩
  ·refine Qx 23 (by rw [y]; rfl) ?_
   refine Zb (V ?_)
   have cz := Zu b
   subst z
   exact ⟨s, (Zv _), j, Z, Z, Z⟩
  replace y := Zk y
  refine Qj Z (Zf Z (Zx y)) Z (Zp Qin Z Z Z (Qj Z (Zf Z (Zx y)) Z (Zn (j) A3 Z Z Z (Qj Z (Zf Z (Zx y)) Z (Exec.gtr Z Z Z ?_)))))
  refine Qx 2 (by rw [y]; rfl) ?_
  rcases Qf b with ⟨o, b⟩ | ⟨o, b⟩
  ·refine Qx 18 (by rw [o]; rfl) ?_
   refine Zb (V ?_)
   have c0 := Zu b
   subst z
   exact ⟨s, (Zv _), j, Z, Z, Z⟩
  replace o := Zk o
  refine Qj Z (Zf Z (Zx o)) Z (Zp Qfb Z Z Z (Qj Z (Zf Z (Zx o)) Z (Zn (j) A58 Z Z Z (Qj Z (Zf Z (Zx o)) Z (Zr S58 Z Z al (Qj Z (Zf Z (Zx o)) Z (Exec.gtr Z Z Z ?_)))))))
  refine Qx 2 (by rw [o]; rfl) ?_
  rcases Qf b with ⟨p, b⟩ | ⟨p, b⟩
  ·refine Qx 12 (by rw [p]; rfl) ?_
   refine Zb (V ?_)
   have c1 := Zu b
   subst z
   exact ⟨s, (Zv _), j, Z, Z, Z⟩
  replace p := Zk p
  refine Qj Z (Zf Z (Zx p)) Z (Zp Qio Z Z Z (Qj Z (Zf Z (Zx p)) Z (Zn (j) A9 Z Z Z (Qj Z (Zf Z (Zx p)) Z (Qa6 Tryz.underlying9 Z Z (Qj Z (Zf Z (Zx p)) Z (Exec.gtr Z Z Z ?_)))))))
  refine Qx 2 (by rw [p]; rfl) ?_
  rcases Qf b with ⟨l, b⟩ | ⟨l, b⟩
  ·refine Qx 6 (by rw [l]; rfl) ?_
   refine Zb (V ?_)
   have c2 := Zu b
   subst z
   exact ⟨s, (Zv _), j, Z, Z, Z⟩
  replace l := Zk l
  refine Qj Z (Zf Z (Zx l)) Z (Zm (v := i) Z Z (Qj Z (Zf Z (Zx l)) Z (Zp QjO Z Z Z (Qj Z (Zf Z (Zx l)) Z (Zn (j) A23 Z Z Z ?_)))))
  obtain ⟨ct, cb, b⟩ := Zg b
  refine Qj Z (Zf Z (Zx l)) Z (Tc Z Z Z (Zi Z (Zi Z Qk)) (Qag cb j av bf).r ?_)
  rintro _ de ⟨ci, bH, bs, rfl⟩
  refine Qj Z (Zf Z (Zx l)) Z (Exec.not Z Z (O Z Z (Q8 (v := Vb (!ct)) Z (Zx l) Z (Zb (V ?_)))))
  have c3 := Zu b
  subst z
  exact ⟨ci, bH, bs, Z, Z, Z⟩
 intro cG df bn
 obtain ⟨aq, u, aw, bM, aJ, aK⟩ := bn
 refine (V ?_)
 rcases Qf hm with ⟨af, hm⟩ | ⟨af, hm⟩
 ·refine Qr aK af (Zc (Zd (O Z Z (Zo (v := Vb false) Z Z (Zb (V (Q0 (Qi ?_))))))))
  have c4 := Zu hm
  subst r
  refine ⟨_, QW Z, ?_⟩
  exact ⟨aq, u, aw.drop, Z⟩
 refine Qs aK af ?_
 replace af := Zk af
 refine Qq (V (Zc (Zc (Zd (O Z Z (Zp Qio Z aJ Z (O Z Z (Zn (aw) A9 Z Z Z (O Z Z (Qa6 Tryz.underlying9 Z Z (O Z Z (Zm (v := U 0) Z Z (Zb (V ?_))))))))))))))
 obtain ⟨db, cc, hm⟩ := Zg hm
 obtain ⟨a3, bh, bB, b7, b3⟩ := QN hm
 refine QK (M := fun f' w' => ∃ s', (a3 = .next s' ∨ a3 = .brk s') ∧ (fun (_ : Unit) => ∃ (aU : PHeap) , PHeap.le aq aU ∧ St w0 aU (Res.box x 60 [Value.string (a.Name), U (a.Cost), ad, n] :: H) w' ∧ f' 0 = i ∧ f' 3 = Vq x ∧ f' 37 = U ((a.Name.size : Int))) s') ?_ ?_
 ·refine Qo (JI (fun k' s' f' w' => (fun (_ : Unit) => ∃ (aV : PHeap) , PHeap.le aq aV ∧ St w0 aV (Res.box x 60 [Value.string (a.Name), U (a.Cost), ad, n] :: H) w' ∧ f' 0 = i ∧ f' 3 = Vq x ∧ f' 37 = U ((a.Name.size : Int)) ∧ f' 38 = U (k' : Int)) s') bh ?_ ?_ ?_)
  ·exact ⟨aq, (Zv _), aw, bM, aJ, Z, Z⟩
  ·intro ae cV a4 cH dg b5 bj aa bD
   obtain ⟨a1, aF, am, aL, ao, ay, ar⟩ := bj
   refine Zc (Zd (O Z Z (Zq Z ar ay (Zb (V (Zc (QL (Zx (decide_eq_true (by omega))) (Qq (V (Zc (Qo (Zc (Zd (O Z Z (Zm (v := U ((ae : Int))) Z ar (O Z Z (Zo (v := U ((ae : Int))) Z Z (Zb (V (Zc ?_))))))))))))))))))))
   obtain ⟨aj, ab, aa⟩ := Zg aa
   refine QK (M := fun f' w' => (fun (aj : Bool) => ∃ (aW : PHeap) , PHeap.le a1 aW ∧ St w0 aW (Res.box x 60 [Value.string (a.Name), U (a.Cost), ad, n] :: H) w' ∧ f' 0 = i ∧ f' 3 = Vq x ∧ f' 37 = U ((a.Name.size : Int)) ∧ f' 38 = U ((ae : Int)) ∧ f' 52 = Vb aj) aj) ?_ ?_
   ·refine Zd (O Z Z (Zp Qio Z ao Z (O Z Z (Zn (am) A9 Z Z Z (O Z Z (Zm (v := U ((ae : Int))) Z Z ?_))))))
    obtain ⟨be, aQ, ab⟩ := Zg ab
    refine O Z Z (Qa8 Tryz.underlying9 Z Z Z aQ (O Z Z (Zq Z Z Z (O Z Z (Zm (v := Vb (decide (be < 32))) Z Z ?_)))))
    rcases Qf ab with ⟨m, ab⟩ | ⟨m, ab⟩
    ·refine Qx 6 (by rw [m]; rfl) ?_
     refine Zb (V ?_)
     have c5 := Zu ab
     subst aj
     exact ⟨a1, (Zv _), am, aL, ao, ay, ar, Z⟩
    replace m := Zk m
    refine Qj Z (Zf Z (Zx m)) Z (Zp Qio Z ao Z (Qj Z (Zf Z (Zx m)) Z (Zn (am) A9 Z Z Z (Qj Z (Zf Z (Zx m)) Z (Zm (v := U ((ae : Int))) Z Z (Qj Z (Zf Z (Zx m)) Z (Qa8 Tryz.underlying9 Z Z Z aQ (Qj Z (Zf Z (Zx m)) Z (Exec.gtr Z Z Z (O Z Z (Q8 (v := Vb (decide (126 < be))) Z (Zx m) Z (Zb (V ?_)))))))))))))
    have c6 := Zu ab
    subst aj
    exact ⟨a1, (Zv _), am, aL, ao, ay, ar, Z⟩
   intro cI dh bo
   obtain ⟨aX, aG, a7, bN, bO, bP, bQ, aM⟩ := bo
   refine (V ?_)
   rcases Qf aa with ⟨ag, aa⟩ | ⟨ag, aa⟩
   ·refine Qr aM ag (Zc (Zd (O Z Z (Zo (v := Vb false) Z Z (Zb (V (Q0 (QC (Qi (Qi (QC (Qi (Qi ?_)))))))))))))
    have c7 := Zu aa
    subst a4
    have b9 := bB _ (bD (by intro _ h; cases h))
    have c8 := Zu b9
    subst r
    refine ⟨_, QW Z, ?_⟩
    exact ⟨aX, (Zt (Zt u aF) aG), a7.drop, Z⟩
   refine Qs aM ag ?_
   replace ag := Zk ag
   refine Qq (Qz (V (Zd (O Z Z (Exec.add Z bQ Z (O Z Z (Zm (v := U (IntKind.i64.wrap ((ae : Int) + 1))) Z Z (Zb (V ?_)))))))))
   have c9 := Zu aa
   subst a4
   refine ⟨_, Z, ?_⟩; exact ⟨aX, (Zt aF aG), a7, bN, bO, bP, (Eq.trans Z (QF b5 (by have h := Q7 cc; simp at h; simp only [maxLen]; omega)))⟩
  intro cW cJ di bk bE
  obtain ⟨cj, bI, bt, bR, bS, aN, cp⟩ := bk
  refine Zc (Zd (O Z Z (Zq Z cp aN (Zb (V (Zc (QB (Zx (decide_eq_false (by omega))) (QJ (Qn (Qn (Q9 (V ?_))))))))))))
  refine ⟨_, .inl bE, ?_⟩; exact ⟨cj, bI, bt, bR, bS, aN⟩
 rintro cK dj ⟨cX, aC, bp⟩
 have hm := aC.elim (b7 _) (b3 _)
 clear aC
 obtain ⟨a2, ac, a8, bT, bU, cQ⟩ := bp
 refine (V (Zc (Zc (Zd (O Z Z (Zp Qfb Z bU Z (O Z Z (Zn (a8) A58 Z Z Z (O Z Z (Zr S58 Z Z (al.mono (Zt u ac)) (O Z Z (Zm (v := U 0) Z Z (Zb (V ?_))))))))))))))
 obtain ⟨a5, bi, bC, b8, b4⟩ := QN hm
 refine QK (M := fun f' w' => ∃ s', (a5 = .next s' ∨ a5 = .brk s') ∧ (fun (_ : Unit) => ∃ (aY : PHeap) , PHeap.le a2 aY ∧ St w0 aY (H) w' ∧ f' 0 = i ∧ f' 55 = n ∧ f' 56 = U ((a.Effs.length : Int))) s') ?_ ?_
 ·refine Qo (JI (fun k' s' f' w' => (fun (_ : Unit) => ∃ (aZ : PHeap) , PHeap.le a2 aZ ∧ St w0 aZ (H) w' ∧ f' 0 = i ∧ f' 55 = n ∧ f' 56 = U ((a.Effs.length : Int)) ∧ f' 57 = U (k' : Int)) s') bi ?_ ?_ ?_)
  ·have bu := a8.drop
   exact ⟨a2, (Zv _), bu, bT, Z, Z, Z⟩
  ·intro aE cY a6 cL dk b6 bl q bF
   obtain ⟨ck, ai, a9, ap, az, a0, au⟩ := bl
   refine Zc (Zd (O Z Z (Zq Z au a0 (Zb (V (Zc (QL (Zx (decide_eq_true (by omega))) (Qq (V (Zc (Qo (Zc (Zd ?_)))))))))))))
   obtain ⟨d, cd, q⟩ := Zg q
   refine O Z Z (Qy S58 Z az au (al.mono (Zt (Zt u ac) ai)) cd ?_)
   intro cw cP bg
   refine O Z Z (Zw (E := encEffect) a9 A95 Z Z Z bg ?_)
   intro dc ce
   obtain ⟨bc, rfl, aR⟩ := Qac.1 ce
   refine O Z Z (Exec.alloc (cs := [Vn, U 0, U 0]) a9 Z95 Z Z ?_)
   intro cx dl bv
   refine O Z Z (Qe (ds := [bc, U (d.Var), U (d.Val)]) (es := [bc, U (d.Var), U (d.Val)]) bv A95 Z Z Z Z (Zj aR.one (Zj Z (Zj Z Q5))) (Nat.le_of_ble_eq_true Z) Z ?_)
   intro dm aA
   refine Zb (V (Zc ?_))
   obtain ⟨ak, t, q⟩ := Zg q
   refine QK (M := fun f' w' => (fun (ak : Bool) => ∃ (ba : PHeap) , PHeap.le ck ba ∧ St w0 ba (H) w' ∧ f' 0 = i ∧ f' 55 = n ∧ f' 56 = U ((a.Effs.length : Int)) ∧ f' 57 = U ((aE : Int)) ∧ f' 76 = Vb ak) ak) ?_ ?_
   ·refine Zd (O Z Z (Zm (v := i) Z ap (O Z Z (Zp QjM Z Z Z (O Z Z (Zn (aA) A23 Z Z Z ?_))))))
    obtain ⟨cu, cf, t⟩ := Zg t
    refine O Z Z (Tc Z Z Z (Zi Z (Zi Z Qk)) (Qag cf aA (av.mono (Zt (Zt u ac) ai)) aR).r ?_)
    rintro _ dn ⟨cl, ax, an, rfl⟩
    refine O Z Z (Exec.not Z Z (O Z Z (Zm (v := Vb (!cu)) Z Z ?_)))
    rcases Qf t with ⟨g, t⟩ | ⟨g, t⟩
    ·refine Qx 10 (by rw [g]; rfl) ?_
     refine Zb (V ?_)
     have cA := Zu t
     subst ak
     exact ⟨cl, ax, an.drop, ap, az, a0, au, Z⟩
    replace g := Zk g
    refine Qj Z (Zf Z (Zx g)) Z (Zm (v := i) Z ap (Qj Z (Zf Z (Zx g)) Z (Zp Qim Z Z Z (Qj Z (Zf Z (Zx g)) Z (Zn (an) A3 Z Z Z (Qj Z (Zf Z (Zx g)) Z (Zp Qlj Z Z Z (Qj Z (Zf Z (Zx g)) Z (Zn (an) A3 Z Z Z (Qj Z (Zf Z (Zx g)) Z (Exec.build Z (Qc (c := [U (d.Var)]) (Qh Z Z) (Qc (c := [U (d.Val)]) (Qh Z Z) Qu)) (v := Value.agg #[U (d.Var), U (d.Val)]) (fun _ => by kernel_rfl) (Qj Z (Zf Z (Zx g)) Z (Exec.buildSlice (Te := 90) (cs := [U (d.Var), U (d.Val)]) an Z (Qc (c := [U (d.Var), U (d.Val)]) (Qh Z Z) Qu) (fun _ => by kernel_rfl) ?_)))))))))))))
    intro cy dp bw
    have bx := St.boxArr (E := encFact) (xs := [(⟨d.Var, d.Val⟩ : Fact)]) bw ⟨[U (d.Var), U (d.Val)], [], rfl, ⟨[U (d.Var)], [U (d.Val)], rfl, rfl, rfl⟩, rfl⟩ (by simp [maxLen])
    obtain ⟨cU, aH, bz, ch⟩ := bx.freezeArr
    obtain ⟨cv, cg, t⟩ := Zg t
    refine Qj Z (Zf Z (Zx g)) Z (Tc Z Z Z (Zi Z (Zi Z Qk)) (Qag cg bz (av.mono (Zt (Zt (Zt (Zt u ac) ai) ax) aH)) ch).r ?_)
    rintro _ dq ⟨cm, bJ, b0, rfl⟩
    refine Qj Z (Zf Z (Zx g)) Z (Exec.not Z Z (O Z Z (Q8 (v := Vb (!cv)) Z (Zx g) Z (Zb (V ?_)))))
    have cB := Zu t
    subst ak
    exact ⟨cm, (Zt (Zt ax aH) bJ), b0.drop, ap, az, a0, au, Z⟩
   intro cM dr bq
   obtain ⟨bb, aI, aB, bV, bW, bX, bY, aO⟩ := bq
   refine (V ?_)
   rcases Qf q with ⟨ah, q⟩ | ⟨ah, q⟩
   ·refine Qr aO ah (Zc (Zd (O Z Z (Zo (v := Vb false) Z Z (Zb (V (Q0 (QC (Qi (Qi (QC (Qi (Qi ?_)))))))))))))
    have cC := Zu q
    subst a6
    have bA := bC _ (bF (by intro _ h; cases h))
    have cD := Zu bA
    subst r
    refine ⟨_, QW Z, ?_⟩
    exact ⟨bb, (Zt (Zt (Zt u ac) ai) aI), aB, Z⟩
   refine Qs aO ah ?_
   replace ah := Zk ah
   refine Qq (Qz (V (Zd (O Z Z (Exec.add Z bY Z (O Z Z (Zm (v := U (IntKind.i64.wrap ((aE : Int) + 1))) Z Z (Zb (V ?_)))))))))
   have cE := Zu q
   subst a6
   refine ⟨_, Z, ?_⟩; exact ⟨bb, (Zt ai aI), aB, bV, bW, bX, (Eq.trans Z (QF b6 (SliceRep.le (al.mono (Zt u ac)))))⟩
  intro cZ cN dt bm bG
  obtain ⟨cn, bK, b1, bZ, ca, aP, cq⟩ := bm
  refine Zc (Zd (O Z Z (Zq Z cq aP (Zb (V (Zc (QB (Zx (decide_eq_false (by omega))) (QJ (Qn (Qn (Q9 (V ?_))))))))))))
  refine ⟨_, .inl bG, ?_⟩; exact ⟨cn, bK, b1, bZ, ca, aP⟩
 rintro cO du ⟨da, aD, br⟩
 have hm := aD.elim (b8 _) (b4 _)
 clear aD
 obtain ⟨co, bL, b2, cR, cS, cT⟩ := br
 refine (V (Zc (Zd (O Z Z (Zo (v := Vb true) Z Z (Zb (V (Q0 ?_))))))))
 have cF := Zu hm
 subst r
 refine ⟨_, QW Z, ?_⟩
 exact ⟨co, (Zt (Zt u ac) bL), b2, Z⟩
theorem QaX {w0 w : World} {s : PHeap} {H : List Res} {b : Task} {d : Value} {m : Value} {n : Value} {g : Value} {r : Bool} (hm : Yq b = some r) (hS : St w0 s (H) w) (u : SliceRep (Qa .i64) s d b.Vars) (bb : SliceRep (Qa .i64) s m b.Init) (bc : SliceRep encFact s n b.Goal) (ag : SliceRep encOp s g b.Ops) :
  Calls Tryz.prog 27 #[Value.agg #[d, m, n, g]] w fun e w' => ∃ v, e = .returned v ∧ ((fun (cc : Bool) => ∃ (aR : PHeap) , PHeap.le s aR ∧ St w0 aR (H) w' ∧ v = Value.bool (cc)) r) := by
 unfold Yq at hm
 refine Qw Tryz.func27 Z Z (Zc (Zd (O Z Z (Exec.box (cs := [d, m, n, g]) hS Z Z Z ?_))))
 intro c cJ ah
 refine O Z Z (Zo (v := Vb false) Z Z (Zb (V (Zc (Zc (QK (M := fun f' w' => ∃ (aS : PHeap) , PHeap.le s aS ∧ St w0 aS (Res.box c 26 [d, m, n, g] :: H) w' ∧ f' 1 = Vq c ∧ f' 16 = Vb (((decide (64 < (b.Vars.length : Int))) || decide (4096 < (b.Ops.length : Int))))) ?_ ?_))))))
 ·refine Zd (O Z Z (Zp Yu Z Z Z (O Z Z (Zn (ah) A22 Z Z Z (O Z Z (Zr JG Z Z u (O Z Z (Exec.gtr Z Z Z (O Z Z (Zm (v := Vb (decide (64 < (b.Vars.length : Int)))) Z Z ?_))))))))))
  by_cases l : (decide (64 < (b.Vars.length : Int))) = true
  ·refine Qx 5 (by rw [l]; rfl) ?_
   refine Zb (V ?_)
   exact ⟨s, (Zv _), ah, Z, (Zx (Qd7 l)).symm⟩
  replace l := Zk l
  refine Qj Z (Zf Z (Zx l)) Z (Zp Qbz Z Z Z (Qj Z (Zf Z (Zx l)) Z (Zn (ah) A24 Z Z Z (Qj Z (Zf Z (Zx l)) Z (Zr S24 Z Z ag (Qj Z (Zf Z (Zx l)) Z (Exec.gtr Z Z Z (O Z Z (Q8 (v := Vb (decide (4096 < (b.Ops.length : Int)))) Z (Zx l) Z (Zb (V ?_)))))))))))
  exact ⟨s, (Zv _), ah, Z, (Zx (YV l)).symm⟩
 intro cu cK bl
 obtain ⟨al, a, ao, aE, aF⟩ := bl
 refine (V ?_)
 rcases Qf hm with ⟨ab, hm⟩ | ⟨ab, hm⟩
 ·refine Qr aF ab (Zc (Zd (O Z Z (Zo (v := Vb false) Z Z (Zb (V (Q0 (Qi ?_))))))))
  have ci := Zu hm
  subst r
  refine ⟨_, QW Z, ?_⟩
  exact ⟨al, a, ao.drop, Z⟩
 refine Qs aF ab ?_
 replace ab := Zk ab
 refine Qq (V (Zc (Zc (Zd (O Z Z (Zp Yu Z aE Z (O Z Z (Zn (ao) A22 Z Z Z (O Z Z (Zr JG Z Z (u.mono a) (O Z Z (Zm (v := U 0) Z Z (Zb (V ?_))))))))))))))
 obtain ⟨a2, bf, b4, b0, bv⟩ := QN hm
 refine QK (M := fun f' w' => ∃ s', (a2 = .next s' ∨ a2 = .brk s') ∧ (fun (_ : Unit) => ∃ (aT : PHeap) , PHeap.le al aT ∧ St w0 aT (Res.box c 26 [d, m, n, g] :: H) w' ∧ f' 1 = Vq c ∧ f' 18 = d ∧ f' 19 = U ((b.Vars.length : Int))) s') ?_ ?_
 ·refine Qo (JI (fun k' s' f' w' => (fun (_ : Unit) => ∃ (aU : PHeap) , PHeap.le al aU ∧ St w0 aU (Res.box c 26 [d, m, n, g] :: H) w' ∧ f' 1 = Vq c ∧ f' 18 = d ∧ f' 19 = U ((b.Vars.length : Int)) ∧ f' 20 = U (k' : Int)) s') bf ?_ ?_ ?_)
  ·exact ⟨al, (Zv _), ao, aE, Z, Z, Z⟩
  ·intro aB cB a3 cv cL bx bh x b6
   obtain ⟨ay, av, ap, aG, aw, ax, an⟩ := bh
   refine Zc (Zd (O Z Z (Zq Z an ax (Zb (V (Zc (QL (Zx (decide_eq_true (by omega))) (Qq (V (Zc (Qo (Zc (Zd ?_)))))))))))))
   obtain ⟨t, bN, x⟩ := Zg x
   refine O Z Z (Qy JG Z aw an (u.mono (Zt a av)) bN ?_)
   intro cf c3 bd
   refine O Z Z (Zw (E := (Qa .i64)) ap A3 Z Z Z bd ?_)
   intro cH bO
   obtain rfl := Qv.1 bO
   refine O Z Z (Zo (v := U t) Z Z (Zb (V (Zc (QK (M := fun f' w' => ∃ (aV : PHeap) , PHeap.le ay aV ∧ St w0 aV (Res.box c 26 [d, m, n, g] :: H) w' ∧ f' 1 = Vq c ∧ f' 18 = d ∧ f' 19 = U ((b.Vars.length : Int)) ∧ f' 20 = U ((aB : Int)) ∧ f' 29 = Vb (((decide (t < 1)) || decide (64 < t)))) ?_ ?_)))))
   ·refine Zd (O Z Z (Zm (v := U t) Z Z (O Z Z (Zq Z Z Z (O Z Z (Zm (v := Vb (decide (t < 1))) Z Z ?_))))))
    by_cases q : (decide (t < 1)) = true
    ·refine Qx 3 (by rw [q]; rfl) ?_
     refine Zb (V ?_)
     exact ⟨ay, (Zv _), ap, aG, aw, ax, an, (Zx (Qd7 q)).symm⟩
    replace q := Zk q
    refine Qj Z (Zf Z (Zx q)) Z (Zm (v := U t) Z Z (Qj Z (Zf Z (Zx q)) Z (Exec.gtr Z Z Z (O Z Z (Q8 (v := Vb (decide (64 < t))) Z (Zx q) Z (Zb (V ?_)))))))
    exact ⟨ay, (Zv _), ap, aG, aw, ax, an, (Zx (YV q)).symm⟩
   intro cw cM bm
   obtain ⟨aW, aC, a6, bF, bG, bH, bI, aH⟩ := bm
   refine (V ?_)
   rcases Qf x with ⟨ac, x⟩ | ⟨ac, x⟩
   ·refine Qr aH ac (Zc (Zd (O Z Z (Zo (v := Vb false) Z Z (Zb (V (Q0 (QC (Qi (Qi (QC (Qi (Qi ?_)))))))))))))
    have cj := Zu x
    subst a3
    have b2 := b4 _ (b6 (by intro _ h; cases h))
    have ck := Zu b2
    subst r
    refine ⟨_, QW Z, ?_⟩
    exact ⟨aW, (Zt (Zt a av) aC), a6.drop, Z⟩
   refine Qs aH ac ?_
   replace ac := Zk ac
   refine Qq (Qz (V (Zd (O Z Z (Exec.add Z bI Z (O Z Z (Zm (v := U (IntKind.i64.wrap ((aB : Int) + 1))) Z Z (Zb (V ?_)))))))))
   have cl := Zu x
   subst a3
   refine ⟨_, Z, ?_⟩; exact ⟨aW, (Zt av aC), a6, bF, bG, bH, (Eq.trans Z (QF bx (SliceRep.le (u.mono a))))⟩
  intro cC cx cN bi b7
  obtain ⟨bU, bB, bq, bJ, bK, aI, ca⟩ := bi
  refine Zc (Zd (O Z Z (Zq Z ca aI (Zb (V (Zc (QB (Zx (decide_eq_false (by omega))) (QJ (Qn (Qn (Q9 (V ?_))))))))))))
  refine ⟨_, .inl b7, ?_⟩; exact ⟨bU, bB, bq, bJ, bK, aI⟩
 rintro cy cO ⟨cD, a9, bn⟩
 have hm := a9.elim (b0 _) (bv _)
 clear a9
 obtain ⟨bV, j, aq, z, c5, c6⟩ := bn
 refine (V (Zc (Zc ?_)))
 obtain ⟨af, p, hm⟩ := Zg hm
 refine QK (M := fun f' w' => (fun (af : Bool) => ∃ (aX : PHeap) , PHeap.le bV aX ∧ St w0 aX (Res.box c 26 [d, m, n, g] :: H) w' ∧ f' 1 = Vq c ∧ f' 44 = Vb af) af) ?_ ?_
 ·refine Zd (O Z Z (Zp Yu Z z Z (O Z Z (Zn (aq) A22 Z Z Z (O Z Z (Zp Qlo Z z Z (O Z Z (Zn (aq) A22 Z Z Z ?_))))))))
  obtain ⟨cd, bP, p⟩ := Zg p
  refine O Z Z (Tc Z Z Z (Zi Z (Zi Z Qk)) (Qdo bP aq (u.mono (Zt a j)) (bb.mono (Zt a j))).r ?_)
  rintro _ cP ⟨bW, aj, ai, rfl⟩
  refine O Z Z (Exec.not Z Z (O Z Z (Zm (v := Vb (!cd)) Z Z ?_)))
  rcases Qf p with ⟨i, p⟩ | ⟨i, p⟩
  ·refine Qx 7 (by rw [i]; rfl) ?_
   refine Zb (V ?_)
   have cm := Zu p
   subst af
   exact ⟨bW, aj, ai, z, Z⟩
  replace i := Zk i
  refine Qj Z (Zf Z (Zx i)) Z (Zp Yu Z z Z (Qj Z (Zf Z (Zx i)) Z (Zn (ai) A22 Z Z Z (Qj Z (Zf Z (Zx i)) Z (Zp Qln Z z Z (Qj Z (Zf Z (Zx i)) Z (Zn (ai) A23 Z Z Z ?_)))))))
  obtain ⟨ce, bQ, p⟩ := Zg p
  refine Qj Z (Zf Z (Zx i)) Z (Tc Z Z Z (Zi Z (Zi Z Qk)) (Qag bQ ai (u.mono (Zt (Zt a j) aj)) (bc.mono (Zt (Zt a j) aj))).r ?_)
  rintro _ cQ ⟨bX, bC, br, rfl⟩
  refine Qj Z (Zf Z (Zx i)) Z (Exec.not Z Z (O Z Z (Q8 (v := Vb (!ce)) Z (Zx i) Z (Zb (V ?_)))))
  have cn := Zu p
  subst af
  exact ⟨bX, (Zt aj bC), br, z, Z⟩
 intro cz cR bo
 obtain ⟨am, y, ar, aJ, aK⟩ := bo
 refine (V ?_)
 rcases Qf hm with ⟨ad, hm⟩ | ⟨ad, hm⟩
 ·refine Qr aK ad (Zc (Zd (O Z Z (Zo (v := Vb false) Z Z (Zb (V (Q0 (Qi ?_))))))))
  have co := Zu hm
  subst r
  refine ⟨_, QW Z, ?_⟩
  exact ⟨am, (Zt (Zt a j) y), ar.drop, Z⟩
 refine Qs aK ad ?_
 replace ad := Zk ad
 refine Qq (V (Zc (Zc (Zd (O Z Z (Zp Qbz Z aJ Z (O Z Z (Zn (ar) A24 Z Z Z (O Z Z (Zr S24 Z Z (ag.mono (Zt (Zt a j) y)) (O Z Z (Zm (v := U 0) Z Z (Zb (V ?_))))))))))))))
 obtain ⟨a4, bg, b5, b1, bw⟩ := QN hm
 refine QK (M := fun f' w' => ∃ s', (a4 = .next s' ∨ a4 = .brk s') ∧ (fun (_ : Unit) => ∃ (aY : PHeap) , PHeap.le am aY ∧ St w0 aY (Res.box c 26 [d, m, n, g] :: H) w' ∧ f' 1 = Vq c ∧ f' 46 = g ∧ f' 47 = U ((b.Ops.length : Int))) s') ?_ ?_
 ·refine Qo (JI (fun k' s' f' w' => (fun (_ : Unit) => ∃ (aZ : PHeap) , PHeap.le am aZ ∧ St w0 aZ (Res.box c 26 [d, m, n, g] :: H) w' ∧ f' 1 = Vq c ∧ f' 46 = g ∧ f' 47 = U ((b.Ops.length : Int)) ∧ f' 48 = U (k' : Int)) s') bg ?_ ?_ ?_)
  ·exact ⟨am, (Zv _), ar, aJ, Z, Z, Z⟩
  ·intro bA cE a5 c0 cS bz bj o b8
   obtain ⟨cA, ak, a7, aL, aM, aN, a1⟩ := bj
   refine Zc (Zd (O Z Z (Zq Z a1 aN (Zb (V (Zc (QL (Zx (decide_eq_true (by omega))) (Qq (V (Zc (Qo (Zc (Zd ?_)))))))))))))
   obtain ⟨aa, bR, o⟩ := Zg o
   refine O Z Z (Qy S24 Z aM a1 (ag.mono (Zt (Zt (Zt a j) y) ak)) bR ?_)
   intro cg c4 be
   refine O Z Z (Zw (E := encOp) a7 A60 Z Z Z be ?_)
   intro cI bS
   obtain ⟨az, a0, rfl, aP, aQ⟩ := YH.1 bS
   refine O Z Z (Exec.alloc (cs := [Value.string (⟨#[]⟩), U 0, Vn, Vn]) a7 Z60 Z Z ?_)
   intro ch cT bs
   refine O Z Z (Qe (ds := [Value.string (aa.Name), U (aa.Cost), az, a0]) (es := [Value.string (aa.Name), U (aa.Cost), az, a0]) bs A60 Z Z Z Z (Zj Z (Zj Z (Zj aP.one (Zj aQ.one Q5)))) (Nat.le_of_ble_eq_true Z) Z ?_)
   intro cU au
   refine Zb (V (Zc (Zd (O Z Z (Zp Yu Z aL Z (O Z Z (Zn (au.f1) A22 Z Z Z (O Z Z (Ql (ds := [Value.string (aa.Name), U (aa.Cost), az, a0]) (au) A60 Z Z Z ?_)))))))))
   obtain ⟨cY, bT, o⟩ := Zg o
   refine O Z Z (Tc Z Z Z (Zi Z (Zi Z Qk)) (QeB bT au (u.mono (Zt (Zt (Zt a j) y) ak)) aP aQ).r ?_)
   rintro _ cV ⟨ba, aD, a8, rfl⟩
   refine O Z Z (Exec.not Z Z (Zb (V ?_)))
   rcases Qf o with ⟨ae, o⟩ | ⟨ae, o⟩
   ·refine Qr Z ae (Zc (Zd (O Z Z (Zo (v := Vb false) Z Z (Zb (V (Q0 (QC (Qi (Qi (QC (Qi (Qi ?_)))))))))))))
    have cp := Zu o
    subst a5
    have b3 := b5 _ (b8 (by intro _ h; cases h))
    have cq := Zu b3
    subst r
    refine ⟨_, QW Z, ?_⟩
    exact ⟨ba, (Zt (Zt (Zt (Zt a j) y) ak) aD), (a8.drop).drop, Z⟩
   refine Qs Z ae ?_
   replace ae := Zk ae
   refine Qq (Qz (V (Zd (O Z Z (Exec.add Z a1 Z (O Z Z (Zm (v := U (IntKind.i64.wrap ((bA : Int) + 1))) Z Z (Zb (V ?_)))))))))
   have cr := Zu o
   subst a5
   refine ⟨_, Z, ?_⟩; exact ⟨ba, (Zt ak aD), a8.drop, aL, aM, aN, (Eq.trans Z (QF bz (SliceRep.le (ag.mono (Zt (Zt a j) y)))))⟩
  intro cF c1 cW bk b9
  obtain ⟨bY, bD, bt, bL, bM, aO, cb⟩ := bk
  refine Zc (Zd (O Z Z (Zq Z cb aO (Zb (V (Zc (QB (Zx (decide_eq_false (by omega))) (QJ (Qn (Qn (Q9 (V ?_))))))))))))
  refine ⟨_, .inl b9, ?_⟩; exact ⟨bY, bD, bt, bL, bM, aO⟩
 rintro c2 cX ⟨cG, aA, bp⟩
 have hm := aA.elim (b1 _) (bw _)
 clear aA
 obtain ⟨bZ, bE, bu, c7, c8, c9⟩ := bp
 refine (V (Zc (Zd (O Z Z (Zo (v := Vb true) Z Z (Zb (V (Q0 ?_))))))))
 have ct := Zu hm
 subst r
 refine ⟨_, QW Z, ?_⟩
 exact ⟨bZ, (Zt (Zt (Zt a j) y) bE), bu.drop, Z⟩
theorem QdO {w0 w : World} {s : PHeap} {H : List Res} {l : (List Int)} {a : Int} {g : Value} {r : Int} (hm : YC l a = some r) (hS : St w0 s (H) w) (n : SliceRep (Qa .i64) s g l) :
  Calls Tryz.prog 26 #[g, U a] w fun e w' => ∃ v, e = .returned v ∧ ((fun (a8 : Int) => ∃ (ab : PHeap) , PHeap.le s ab ∧ St w0 ab (H) w' ∧ v = U a8) r) := by
 unfold YC at hm
 refine Qw Tryz.func26 Z Z (Zc (Zd (O Z Z (Zo (v := U 0) Z Z (Zb (V (Zc (Zd (O Z Z (Zo (v := U 1) Z Z (Zb (V (Zc (Zc (Zd (O Z Z (Zm (v := g) Z Z (O Z Z (Zr JG Z Z n (O Z Z (Zm (v := U 0) Z Z (Zb (V ?_)))))))))))))))))))))))
 obtain ⟨t, ag, aq, ao, am⟩ := QN hm
 refine QK (M := fun f' w' => ∃ s', (t = .next s' ∨ t = .brk s') ∧ (fun (i : Int) => ∃ (ac : PHeap) , PHeap.le s ac ∧ St w0 ac (H) w' ∧ f' 1 = U a ∧ f' 5 = U i ∧ f' 8 = g ∧ f' 9 = U ((l.length : Int))) s') ?_ ?_
 ·refine Qo (JI (fun k' s' f' w' => (fun (c : Int) => ∃ (ad : PHeap) , PHeap.le s ad ∧ St w0 ad (H) w' ∧ f' 1 = U a ∧ f' 5 = U c ∧ f' 8 = g ∧ f' 9 = U ((l.length : Int)) ∧ f' 10 = U (k' : Int)) s') ag ?_ ?_ ?_)
  ·exact ⟨s, (Zv _), hS, Z, Z, Z, Z, Z⟩
  ·intro av c u aE aM an ah b ar
   obtain ⟨ae, p, o, j, ay, y, z, q⟩ := ah
   refine Zc (Zd (O Z Z (Zq Z q z (Zb (V (Zc (QL (Zx (decide_eq_true (by omega))) (Qq (V (Zc (Qo (Zc (Zd ?_)))))))))))))
   obtain ⟨m, a3, b⟩ := Zg b
   refine O Z Z (Qy JG Z y q (n.mono p) a3 ?_)
   intro a9 aH af
   refine O Z Z (Zw (E := (Qa .i64)) o A3 Z Z Z af ?_)
   intro aL a4
   obtain rfl := Qv.1 a4
   refine O Z Z (Zo (v := U m) Z Z (Zb (V (Zc (Zd (O Z Z (Zm (v := U c) Z ay (O Z Z (Zm (v := U m) Z Z (O Z Z (Qc5 Z Z Z (O Z Z (Zm (v := U a) Z j (O Z Z (Exec.add Z Z Z (O Z Z (QeU Z Z Z (O Z Z (Exec.mul Z Z Z (O Z Z (Zo (v := U (IntKind.i64.wrap (c * (min (max m 0) (IntKind.i64.wrap (a + 1)))))) Z Z (Zb (V (Zc (Zd (O Z Z (Zm (v := U (IntKind.i64.wrap (c * (min (max m 0) (IntKind.i64.wrap (a + 1)))))) Z Z (O Z Z (Zm (v := U a) Z j (O Z Z (Exec.gtr Z Z Z (Zb (V ?_)))))))))))))))))))))))))))))))))
   rcases Qf b with ⟨d, b⟩ | ⟨d, b⟩
   ·refine Qr Z d (Zc (Zd (O Z Z (Zm (v := U a) Z j (O Z Z (Exec.add Z Z Z (O Z Z (Zo (v := U (IntKind.i64.wrap (a + 1))) Z Z (Zb (V (Q0 (QC (Qi (Qi (QC (Qi (Qi ?_)))))))))))))))))
    have aA := Zu b
    subst u
    have ap := aq _ (ar (by intro _ h; cases h))
    have aB := Zu ap
    subst r
    refine ⟨_, QW Z, ?_⟩
    exact ⟨ae, p, o, Z⟩
   refine Qs Z d ?_
   replace d := Zk d
   refine Qq (Qz (V (Zd (O Z Z (Exec.add Z q Z (O Z Z (Zm (v := U (IntKind.i64.wrap ((av : Int) + 1))) Z Z (Zb (V ?_)))))))))
   have aC := Zu b
   subst u
   refine ⟨_, Z, ?_⟩; exact ⟨ae, p, o, j, Z, y, z, (Eq.trans Z (QF an (SliceRep.le n)))⟩
  intro c aF aN ai au
  obtain ⟨a5, aw, ak, az, a0, a1, aa, a7⟩ := ai
  refine Zc (Zd (O Z Z (Zq Z a7 aa (Zb (V (Zc (QB (Zx (decide_eq_false (by omega))) (QJ (Qn (Qn (Q9 (V ?_))))))))))))
  refine ⟨_, .inl au, ?_⟩; exact ⟨a5, aw, ak, az, a0, a1, aa⟩
 rintro aG aO ⟨i, x, aj⟩
 have hm := x.elim (ao _) (am _)
 clear x
 obtain ⟨a6, ax, al, aI, a2, aJ, aK⟩ := aj
 refine (V (Zc (Zd (O Z Z (Zm (v := U i) Z a2 (O Z Z (Zo (v := U i) Z Z (Zb (V (Q0 ?_))))))))))
 have aD := Zu hm
 subst r
 refine ⟨_, QW Z, ?_⟩
 exact ⟨a6, ax, al, Z⟩
theorem Qg1 {w0 w : World} {s : PHeap} {H : List Res} {a : Task} {l : Value} {m : Value} {n : Value} {i : Value} {r : Bool} (hm : Qa2 a = some r) (hS : St w0 s (H) w) (ab : SliceRep (Qa .i64) s l a.Vars) (a4 : SliceRep (Qa .i64) s m a.Init) (a5 : SliceRep encFact s n a.Goal) (q : SliceRep encOp s i a.Ops) :
  Calls Tryz.prog 30 #[Value.agg #[l, m, n, i]] w fun e w' => ∃ v, e = .returned v ∧ ((fun (bh : Bool) => ∃ (aw : PHeap) , PHeap.le s aw ∧ St w0 aw (H) w' ∧ v = Value.bool (bh)) r) := by
 unfold Qa2 at hm
 refine Qw Tryz.func30 Z Z (Zc (Zd (O Z Z (Exec.box (cs := [l, m, n, i]) hS Z Z Z ?_))))
 intro o b5 y
 refine O Z Z (Zo (v := Vb false) Z Z (Zb (V (Zc (Zc (QK (M := fun f' w' => ∃ (ax : PHeap) , PHeap.le s ax ∧ St w0 ax (Res.box o 26 [l, m, n, i] :: H) w' ∧ f' 1 = Vq o ∧ f' 14 = Vb (((decide (12 < (a.Vars.length : Int))) || decide (20 < (a.Ops.length : Int))))) ?_ ?_))))))
 ·refine Zd (O Z Z (Zp Yu Z Z Z (O Z Z (Zn (y) A22 Z Z Z (O Z Z (Zr JG Z Z ab (O Z Z (Exec.gtr Z Z Z (O Z Z (Zm (v := Vb (decide (12 < (a.Vars.length : Int)))) Z Z ?_))))))))))
  by_cases c : (decide (12 < (a.Vars.length : Int))) = true
  ·refine Qx 5 (by rw [c]; rfl) ?_
   refine Zb (V ?_)
   exact ⟨s, (Zv _), y, Z, (Zx (Qd7 c)).symm⟩
  replace c := Zk c
  refine Qj Z (Zf Z (Zx c)) Z (Zp Qbz Z Z Z (Qj Z (Zf Z (Zx c)) Z (Zn (y) A24 Z Z Z (Qj Z (Zf Z (Zx c)) Z (Zr S24 Z Z q (Qj Z (Zf Z (Zx c)) Z (Exec.gtr Z Z Z (O Z Z (Q8 (v := Vb (decide (20 < (a.Ops.length : Int)))) Z (Zx c) Z (Zb (V ?_)))))))))))
  exact ⟨s, (Zv _), y, Z, (Zx (YV c)).symm⟩
 intro bs b6 aA
 obtain ⟨z, b, ac, an, ao⟩ := aA
 refine (V ?_)
 rcases Qf hm with ⟨t, hm⟩ | ⟨t, hm⟩
 ·refine Qr ao t (Zc (Zd (O Z Z (Zo (v := Vb false) Z Z (Zb (V (Q0 (Qi ?_))))))))
  have bl := Zu hm
  subst r
  refine ⟨_, QW Z, ?_⟩
  exact ⟨z, b, ac.drop, Z⟩
 refine Qs ao t ?_
 replace t := Zk t
 refine Qq (V (Zc (Zc (Zd (O Z Z (Zp Qbz Z an Z (O Z Z (Zn (ac) A24 Z Z Z (O Z Z (Zr S24 Z Z (q.mono b) (O Z Z (Zm (v := U 0) Z Z (Zb (V ?_))))))))))))))
 obtain ⟨ai, a7, aL, aJ, aH⟩ := QN hm
 refine QK (M := fun f' w' => ∃ s', (ai = .next s' ∨ ai = .brk s') ∧ (fun (_ : Unit) => ∃ (ay : PHeap) , PHeap.le z ay ∧ St w0 ay (Res.box o 26 [l, m, n, i] :: H) w' ∧ f' 1 = Vq o ∧ f' 16 = i ∧ f' 17 = U ((a.Ops.length : Int))) s') ?_ ?_
 ·refine Qo (JI (fun k' s' f' w' => (fun (_ : Unit) => ∃ (az : PHeap) , PHeap.le z az ∧ St w0 az (Res.box o 26 [l, m, n, i] :: H) w' ∧ f' 1 = Vq o ∧ f' 16 = i ∧ f' 17 = U ((a.Ops.length : Int)) ∧ f' 18 = U (k' : Int)) s') a7 ?_ ?_ ?_)
  ·exact ⟨z, (Zv _), ac, an, Z, Z, Z⟩
  ·intro aO b1 aj bt b7 aI a8 j aM
   obtain ⟨a0, af, ak, aS, ap, aq, ah⟩ := a8
   refine Zc (Zd (O Z Z (Zq Z ah aq (Zb (V (Zc (QL (Zx (decide_eq_true (by omega))) (Qq (V (Zc (Qo (Zc (Zd ?_)))))))))))))
   obtain ⟨aa, aW, j⟩ := Zg j
   refine O Z Z (Qy S24 Z ap ah (q.mono (Zt b af)) aW ?_)
   intro bj bx a6
   refine O Z Z (Zw (E := encOp) ak A60 Z Z Z a6 ?_)
   intro b4 aX
   obtain ⟨a2, a3, rfl, ba, av⟩ := YH.1 aX
   refine O Z Z (Exec.alloc (cs := [Value.string (⟨#[]⟩), U 0, Vn, Vn]) ak Z60 Z Z ?_)
   intro bk b8 aD
   refine O Z Z (Qe (ds := [Value.string (aa.Name), U (aa.Cost), a2, a3]) (es := [Value.string (aa.Name), U (aa.Cost), a2, a3]) aD A60 Z Z Z Z (Zj Z (Zj Z (Zj ba.one (Zj av.one Q5)))) (Nat.le_of_ble_eq_true Z) Z ?_)
   intro b9 ad
   refine Zb (V (Zc (Zd (O Z Z (Zp Qfb Z Z Z (O Z Z (Zn (ad) A58 Z Z Z (O Z Z (Zr S58 Z Z av (O Z Z (Exec.gtr Z Z Z (Zb (V ?_)))))))))))))
   rcases Qf j with ⟨u, j⟩ | ⟨u, j⟩
   ·refine Qr Z u (Zc (Zd (O Z Z (Zo (v := Vb false) Z Z (Zb (V (Q0 (QC (Qi (Qi (QC (Qi (Qi ?_)))))))))))))
    have bm := Zu j
    subst aj
    have aK := aL _ (aM (by intro _ h; cases h))
    have bn := Zu aK
    subst r
    refine ⟨_, QW Z, ?_⟩
    exact ⟨a0, (Zt b af), (ad.drop).drop, Z⟩
   refine Qs Z u ?_
   replace u := Zk u
   refine Qq (Qz (V (Zd (O Z Z (Exec.add Z ah Z (O Z Z (Zm (v := U (IntKind.i64.wrap ((aO : Int) + 1))) Z Z (Zb (V ?_)))))))))
   have bo := Zu j
   subst aj
   refine ⟨_, Z, ?_⟩; exact ⟨a0, af, ad.drop, aS, ap, aq, (Eq.trans Z (QF aI (SliceRep.le (q.mono b))))⟩
  intro b2 bu bA a9 aN
  obtain ⟨bb, aP, aE, aT, aU, ar, bg⟩ := a9
  refine Zc (Zd (O Z Z (Zq Z bg ar (Zb (V (Zc (QB (Zx (decide_eq_false (by omega))) (QJ (Qn (Qn (Q9 (V ?_))))))))))))
  refine ⟨_, .inl aN, ?_⟩; exact ⟨bb, aP, aE, aT, aU, ar⟩
 rintro bv bB ⟨b3, am, aB⟩
 have hm := am.elim (aJ _) (aH _)
 clear am
 obtain ⟨bc, p, al, au, bz, b0⟩ := aB
 refine (V (Zc ?_))
 obtain ⟨x, g, hm⟩ := Zg hm
 refine QK (M := fun f' w' => (fun (x : Bool) => ∃ (a1 : PHeap) , PHeap.le bc a1 ∧ St w0 a1 (H) w' ∧ f' 2 = Vb x) x) ?_ ?_
 ·refine Zd (O Z Z (Ql (ds := [l, m, n, i]) (al) A26 Z au Z ?_))
  obtain ⟨bi, aY, g⟩ := Zg g
  refine O Z Z (Tc Z Z Z (Zi Z Qk) (QaX aY al (ab.mono (Zt b p)) (a4.mono (Zt b p)) (a5.mono (Zt b p)) (q.mono (Zt b p))).r ?_)
  rintro _ bC ⟨bd, ag, ae, rfl⟩
  refine O Z Z (Zm (v := Vb bi) Z Z ?_)
  rcases Qf g with ⟨d, g⟩ | ⟨d, g⟩
  ·refine Qj Z (Zf Z (Zx d)) Z (Zp Yu Z au Z (Qj Z (Zf Z (Zx d)) Z (Zn (ae) A22 Z Z Z ?_)))
   obtain ⟨bF, aZ, g⟩ := Zg g
   refine Qj Z (Zf Z (Zx d)) Z (Tc Z Z Z (Zi Z (Zi Z Qk)) (QdO aZ ae (ab.mono (Zt (Zt b p) ag))).r ?_)
   rintro _ bD ⟨be, aQ, aF, rfl⟩
   refine Qj Z (Zf Z (Zx d)) Z (Exec.leq Z Z Z ?_)
   refine Qx 2 (by rw [d]; rfl) ?_
   refine Zb (V ?_)
   have bp := Zu g
   subst x
   exact ⟨be, (Zt ag aQ), aF.drop, Z⟩
  replace d := Zk d
  refine Qx 6 (by rw [d]; rfl) ?_
  refine Zb (V ?_)
  have bq := Zu g
  subst x
  exact ⟨bd, ag, ae.drop, Z⟩
 intro bw bE aC
 obtain ⟨bf, aR, aG, aV⟩ := aC
 refine (V (Q0 ?_))
 have br := Zu hm
 subst r
 refine ⟨_, QW Z, ?_⟩
 exact ⟨bf, (Zt (Zt b p) aR), aG, aV⟩
theorem QgJ {w0 w : World} {s : PHeap} {H : List Res} {j : Task} {k : Value} {l : Value} {m : Value} {n : Value} {r : Bool} (hm : Qbj j = some r) (hS : St w0 s (H) w) (o : SliceRep (Qa .i64) s k j.Vars) (ab : SliceRep (Qa .i64) s l j.Init) (ac : SliceRep encFact s m j.Goal) (t : SliceRep encOp s n j.Ops) :
  Calls Tryz.prog 11 #[Value.agg #[k, l, m, n]] w fun e w' => ∃ v, e = .returned v ∧ ((fun (ak : Bool) => ∃ (x : PHeap) , PHeap.le s x ∧ St w0 x (H) w' ∧ v = Value.bool (ak)) r) := by
 unfold Qbj at hm
 refine Qw Tryz.func11 Z Z (Zc (Zd (O Z Z (Exec.box (cs := [k, l, m, n]) hS Z Z Z ?_))))
 intro am av u
 refine O Z Z (Zo (v := Vb false) Z Z (Zb (V (Zc ?_))))
 obtain ⟨h, a, hm⟩ := Zg hm
 refine QK (M := fun f' w' => (fun (h : Bool) => ∃ (y : PHeap) , PHeap.le s y ∧ St w0 y (H) w' ∧ f' 2 = Vb h) h) ?_ ?_
 ·refine Zd (O Z Z (Ql (ds := [k, l, m, n]) (u) A26 Z Z Z ?_))
  obtain ⟨al, ah, a⟩ := Zg a
  refine O Z Z (Tc Z Z Z (Zi Z Qk) (Qg1 ah u o ab ac t).r ?_)
  rintro _ aw ⟨z, g, i, rfl⟩
  refine O Z Z (Zm (v := Vb al) Z Z ?_)
  rcases Qf a with ⟨b, a⟩ | ⟨b, a⟩
  ·refine Qj Z (Zf Z (Zx b)) Z (Zp Yu Z Z Z (Qj Z (Zf Z (Zx b)) Z (Zn (i) A22 Z Z Z (Qj Z (Zf Z (Zx b)) Z (Zr JG Z Z (o.mono g) (Qj Z (Zf Z (Zx b)) Z (Exec.gtr Z Z Z ?_)))))))
   refine Qx 2 (by rw [b]; rfl) ?_
   rcases Qf a with ⟨c, a⟩ | ⟨c, a⟩
   ·refine Qj Z (Zf Z (Zx c)) Z (Zp Yu Z Z Z (Qj Z (Zf Z (Zx c)) Z (Zn (i) A22 Z Z Z ?_)))
    obtain ⟨az, ai, a⟩ := Zg a
    refine Qj Z (Zf Z (Zx c)) Z (Tc Z Z Z (Zi Z (Zi Z Qk)) (QdO ai i (o.mono g)).r ?_)
    rintro _ ax ⟨aa, q, p, rfl⟩
    refine Qj Z (Zf Z (Zx c)) Z (Exec.leq Z Z Z ?_)
    refine Qx 2 (by rw [c]; rfl) ?_
    rcases Qf a with ⟨d, a⟩ | ⟨d, a⟩
    ·refine Qj Z (Zf Z (Zx d)) Z (Zp Qbz Z Z Z (Qj Z (Zf Z (Zx d)) Z (Zn (p) A24 Z Z Z (Qj Z (Zf Z (Zx d)) Z (Zr S24 Z Z (t.mono (Zt g q)) (Qj Z (Zf Z (Zx d)) Z (Exec.leq Z Z Z ?_)))))))
     refine Qx 2 (by rw [d]; rfl) ?_
     refine Zb (V ?_)
     have an := Zu a
     subst h
     exact ⟨aa, (Zt g q), p.drop, Z⟩
    replace d := Zk d
    refine Qx 6 (by rw [d]; rfl) ?_
    refine Zb (V ?_)
    have ao := Zu a
    subst h
    exact ⟨aa, (Zt g q), p.drop, Z⟩
   replace c := Zk c
   refine Qx 12 (by rw [c]; rfl) ?_
   refine Zb (V ?_)
   have ap := Zu a
   subst h
   exact ⟨z, g, i.drop, Z⟩
  replace b := Zk b
  refine Qx 18 (by rw [b]; rfl) ?_
  refine Zb (V ?_)
  have aq := Zu a
  subst h
  exact ⟨z, g, i.drop, Z⟩
 intro au ay ad
 obtain ⟨aj, af, ae, ag⟩ := ad
 refine (V (Q0 ?_))
 have ar := Zu hm
 subst r
 refine ⟨_, QW Z, ?_⟩
 exact ⟨aj, af, ae, ag⟩
end Go.Pw
