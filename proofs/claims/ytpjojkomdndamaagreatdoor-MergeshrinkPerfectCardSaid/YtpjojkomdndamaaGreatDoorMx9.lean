/- -/
import Derived.Test.YtpjojkomdndamaaGreatDoorLC
import Derived.Test.YtpjojkomdndamaaGreatDoorMx8
set_option maxRecDepth 100000
set_option maxHeartbeats 4000000
set_option linter.unusedVariables false
namespace Go.Pw
open Go.Proofs
theorem QcH {w0 w : World} {s : PHeap} {H : List Res} {r : Bool} (hm : Yv = some r) (hS : St w0 s (H) w) :
  Calls Tryz.prog 10 #[] w fun e w' => ∃ v, e = .returned v ∧ ((fun (y23 : Bool) => ∃ (az : PHeap) , PHeap.le s az ∧ St w0 az (H) w' ∧ v = Value.bool (y23)) r) := by
 unfold Yv at hm
 refine Qx Tryz.func10 Z Z (Zc (Zd (O Z Z (Zo (v := Vb false) Z Z (Zb (V (Zc (Zd (O Z Z (Tc Z Z Z Ql (Qa7 Yz hS).r ?_))))))))))
 rintro _ cC ⟨ca, cq, cr, ct, cu, ah, a3, rfl, bh, bi, bj, bk⟩
 refine O Z Z (Exec.buildSlice (Te := 3) (cs := [U 0, U 1]) a3 Z (Qb (c := [U 0]) (Qi Z Z) (Qb (c := [U 1]) (Qi Z Z) Qw)) (fun _ => by kernel_rfl) ?_)
 intro bD cD a4
 have a5 := St.boxArr (E := (Qa .i64)) (xs := [0, 1]) a4 ⟨[U 0], [U 1], rfl, rfl, ⟨[U 1], [], rfl, rfl, rfl⟩⟩ (by simp [maxLen])
 obtain ⟨cb, p, a6, bl⟩ := a5.freezeArr
 obtain ⟨bA, bc, hm⟩ := Zg hm
 obtain ⟨bU, b⟩ := bA
 replace hm := Je hm
 refine O Z Z (Tc Z Z Z (Zi Z (Zi Z (Zi Z Ql))) (KG bc a6 (bh.mono p) (bi.mono p) (bj.mono p) (bk.mono p) bl).r ?_)
 rintro _ cE aT
 rcases aT with ⟨an, rfl, cc, cv, aa, cw, cx, aw, a7, rfl, ak⟩ | ⟨rfl, cd, ax, a8, rfl⟩
 ·replace hm := Qdq hm
  obtain ⟨ck, y, hm⟩ := Zg hm
  refine O Z Z (Zm (v := Value.tuple #[Vq aa, QH 50 (b)]) Z Z (O Z Z (Exec.extract (v := Vq aa) Z Z Z (O Z Z (Exec.extract (v := QH 50 (b)) Z Z Z (O Z Z (Zo (v := Vq aa) Z Z (O Z Z (Zo (v := QH 50 (b)) Z Z (Zb (V (Zc (Zd (O Z Z (Tc Z Z Z Ql (Qa7 Yz a7).r ?_)))))))))))))))
  rintro _ cF ⟨ce, cy, cz, c0, c1, ad, a9, rfl, bm, bn, bo, bp⟩
  refine O Z Z (Exec.buildSlice (Te := 3) (cs := [U 1, U 0]) a9 Z (Qb (c := [U 1]) (Qi Z Z) (Qb (c := [U 0]) (Qi Z Z) Qw)) (fun _ => by kernel_rfl) ?_)
  intro bE cG aA
  have aB := St.boxArr (E := (Qa .i64)) (xs := [1, 0]) aA ⟨[U 1], [U 0], rfl, rfl, ⟨[U 0], [], rfl, rfl, rfl⟩⟩ (by simp [maxLen])
  obtain ⟨cf, j, aC, bq⟩ := aB.freezeArr
  obtain ⟨bB, bd, hm⟩ := Zg hm
  obtain ⟨bV, g⟩ := bB
  replace hm := Je hm
  refine O Z Z (Tc Z Z Z (Zi Z (Zi Z (Zi Z Ql))) (KG bd aC (bm.mono j) (bn.mono j) (bo.mono j) (bp.mono j) bq).r ?_)
  rintro _ cH aU
  rcases aU with ⟨ao, rfl, bz, c2, ab, c3, c4, ai, aD, rfl, al⟩ | ⟨rfl, b0, aW, aE, rfl⟩
  ·replace hm := Qdq hm
   obtain ⟨cl, af, hm⟩ := Zg hm
   refine O Z Z (Zm (v := Value.tuple #[Vq ab, QH 50 (g)]) Z Z (O Z Z (Exec.extract (v := Vq ab) Z Z Z (O Z Z (Exec.extract (v := QH 50 (g)) Z Z Z (O Z Z (Zo (v := Vq ab) Z Z (O Z Z (Zo (v := QH 50 (g)) Z Z (Zb (V (Zc ?_))))))))))))
   obtain ⟨l, a, hm⟩ := Zg hm
   refine QI (M := fun f' w' => (fun (l : Bool) => ∃ (a0 : PHeap) , PHeap.le bz a0 ∧ St w0 a0 (H) w' ∧ f' 0 = Vb l) l) ?_ ?_
   ·refine Zd (O Z Z (Zm (v := QH 50 (b)) Z Z (O Z Z (K9 (T := 50) Tryz.underlying32 Z Z Z (O Z Z (Zm (v := Vb (b.isNone)) Z Z (Qo Z (Zf Z (Zx (QF y))) Z (Zm (v := QH 50 (g)) Z Z (Qo Z (Zf Z (Zx (QF y))) Z (K9 (T := 50) Tryz.underlying32 Z Z Z (O Z Z (Zs (v := Vb (g.isNone)) Z (Zx (QF y)) Z (O Z Z (Zm (v := Vb (g.isNone)) Z Z (Qo Z (Zf Z (Zx (QF af))) Z (Zm (v := Vq aa) Z Z (Qo Z (Zf Z (Zx (QF af))) Z (Exec.buildSlice (Te := 3) (cs := [U 0, U 0]) aD Z (Qb (c := [U 0]) (Qi Z Z) (Qb (c := [U 0]) (Qi Z Z) Qw)) (fun _ => by kernel_rfl) ?_))))))))))))))))))
    intro bF cI aF
    have aG := St.boxArr (E := (Qa .i64)) (xs := [0, 0]) aF ⟨[U 0], [U 0], rfl, rfl, ⟨[U 0], [], rfl, rfl, rfl⟩⟩ (by simp [maxLen])
    obtain ⟨cg, d, aH, br⟩ := aG.freezeArr
    obtain ⟨a1, be, a⟩ := Zg a
    refine Qo Z (Zf Z (Zx (QF af))) Z (Tc Z Z Z (Zi Z (Zi Z Ql)) (Kb be ((aH.f5).f5).f5 (ak.mono (Zt (Zt (Zt ad j) ai) d)) br).r ?_)
    rintro _ cJ ⟨b1, h, ap, rfl⟩
    refine Qo Z (Zf Z (Zx (QF af))) Z (Exec.eql Z Z Z (O Z Z (Zs (v := Vb (decide (a1 = 3))) Z (Zx (QF af)) Z (O Z Z (Zm (v := Vb (decide (a1 = 3))) Z Z ?_)))))
    rcases Qg a with ⟨m, a⟩ | ⟨m, a⟩
    ·refine Qo Z (Zf Z (Zx m)) Z (Zm (v := Vq aa) Z Z (Qo Z (Zf Z (Zx m)) Z (Tc Z Z Z (Zi Z Ql) (KR (Ke an) ((ap.f2).f2).f2 (ak.mono (Zt (Zt (Zt (Zt ad j) ai) d) h))).r ?_)))
     rintro _ cK ⟨b2, k, aq, rfl⟩
     refine Qo Z (Zf Z (Zx m)) Z (Exec.eql Z Z Z ?_)
     refine Qz 2 (by rw [m]; rfl) ?_
     rcases Qg a with ⟨q, a⟩ | ⟨q, a⟩
     ·refine Qo Z (Zf Z (Zx q)) Z (Zm (v := Vq aa) Z Z (Qo Z (Zf Z (Zx q)) Z (Tc Z Z Z (Zi Z Ql) (JE (Jo an) ((aq.f2).f2).f2 (ak.mono (Zt (Zt (Zt (Zt (Zt ad j) ai) d) h) k))).r ?_)))
      rintro _ cL ⟨b3, t, ar, rfl⟩
      refine Qz 2 (by rw [q]; rfl) ?_
      rcases Qg a with ⟨i, a⟩ | ⟨i, a⟩
      ·refine Qo Z (Zf Z (Zx i)) Z (Zm (v := Vq ab) Z Z (Qo Z (Zf Z (Zx i)) Z (Exec.buildSlice (Te := 3) (cs := [U 0, U 0]) ar Z (Qb (c := [U 0]) (Qi Z Z) (Qb (c := [U 0]) (Qi Z Z) Qw)) (fun _ => by kernel_rfl) ?_)))
       intro bG cM aI
       have aJ := St.boxArr (E := (Qa .i64)) (xs := [0, 0]) aI ⟨[U 0], [U 0], rfl, rfl, ⟨[U 0], [], rfl, rfl, rfl⟩⟩ (by simp [maxLen])
       obtain ⟨ch, u, aK, bs⟩ := aJ.freezeArr
       obtain ⟨cU, bf, a⟩ := Zg a
       refine Qo Z (Zf Z (Zx i)) Z (Tc Z Z Z (Zi Z (Zi Z Ql)) (Kb bf ((aK.f5).f5).f5 (al.mono (Zt (Zt (Zt (Zt d h) k) t) u)) bs).r ?_)
       rintro _ cN ⟨b4, ae, au, rfl⟩
       refine Qo Z (Zf Z (Zx i)) Z (Exec.eql Z Z Z ?_)
       refine Qz 2 (by rw [i]; rfl) ?_
       rcases Qg a with ⟨n, a⟩ | ⟨n, a⟩
       ·refine Qo Z (Zf Z (Zx n)) Z (Zm (v := Vq ab) Z Z (Qo Z (Zf Z (Zx n)) Z (Tc Z Z Z (Zi Z Ql) (KR (Ke ao) ((au.f2).f2).f2 (al.mono (Zt (Zt (Zt (Zt (Zt d h) k) t) u) ae))).r ?_)))
        rintro _ cO ⟨b5, aj, av, rfl⟩
        refine Qo Z (Zf Z (Zx n)) Z (Exec.eql Z Z Z ?_)
        refine Qz 2 (by rw [n]; rfl) ?_
        rcases Qg a with ⟨o, a⟩ | ⟨o, a⟩
        ·refine Qo Z (Zf Z (Zx o)) Z (Zm (v := Vq ab) Z Z (Qo Z (Zf Z (Zx o)) Z (Tc Z Z Z (Zi Z Ql) (JE (Jo ao) ((av.f2).f2).f2 (al.mono (Zt (Zt (Zt (Zt (Zt (Zt d h) k) t) u) ae) aj))).r ?_)))
         rintro _ cP ⟨b6, aX, aL, rfl⟩
         refine Qo Z (Zf Z (Zx o)) Z (Exec.not Z Z ?_)
         refine Qz 2 (by rw [o]; rfl) ?_
         refine Zb (V ?_)
         have bJ := Zu a
         subst l
         exact ⟨b6, (Zt (Zt (Zt (Zt (Zt (Zt (Zt d h) k) t) u) ae) aj) aX), (((((aL.drop).drop).drop).drop).drop).drop, Z⟩
        replace o := Zk o
        refine Qz 5 (by rw [o]; rfl) ?_
        refine Zb (V ?_)
        have bK := Zu a
        subst l
        exact ⟨b5, (Zt (Zt (Zt (Zt (Zt (Zt d h) k) t) u) ae) aj), (((((av.drop).drop).drop).drop).drop).drop, Z⟩
       replace n := Zk n
       refine Qz 10 (by rw [n]; rfl) ?_
       refine Zb (V ?_)
       have bL := Zu a
       subst l
       exact ⟨b4, (Zt (Zt (Zt (Zt (Zt d h) k) t) u) ae), (((((au.drop).drop).drop).drop).drop).drop, Z⟩
      replace i := Zk i
      refine Qz 16 (by rw [i]; rfl) ?_
      refine Zb (V ?_)
      have bM := Zu a
      subst l
      exact ⟨b3, (Zt (Zt (Zt d h) k) t), (((((ar.drop).drop).drop).drop).drop).drop, Z⟩
     replace q := Zk q
     refine Qz 20 (by rw [q]; rfl) ?_
     refine Zb (V ?_)
     have bN := Zu a
     subst l
     exact ⟨b2, (Zt (Zt d h) k), (((((aq.drop).drop).drop).drop).drop).drop, Z⟩
    replace m := Zk m
    refine Qz 25 (by rw [m]; rfl) ?_
    refine Zb (V ?_)
    have bO := Zu a
    subst l
    exact ⟨b1, (Zt d h), (((((ap.drop).drop).drop).drop).drop).drop, Z⟩
   intro bT cQ a2
   obtain ⟨b7, aY, aM, bb⟩ := a2
   refine (V (Q0 ?_))
   have bP := Zu hm
   subst r
   refine ⟨_, QU Z, ?_⟩
   exact ⟨b7, (Zt (Zt (Zt (Zt (Zt (Zt ah p) aw) ad) j) ai) aY), aM, bb⟩
  replace hm := Qdr hm
  obtain ⟨cm, ag, hm⟩ := Zg hm
  refine O Z Z (Zm (v := Value.tuple #[Vp none, QH 50 (g)]) Z Z (O Z Z (Exec.extract (v := Vp none) Z Z Z (O Z Z (Exec.extract (v := QH 50 (g)) Z Z Z (O Z Z (Zo (v := Vp none) Z Z (O Z Z (Zo (v := QH 50 (g)) Z Z (Zb (V (Zc (Zd (O Z Z (Zm (v := QH 50 (b)) Z Z (O Z Z (K9 (T := 50) Tryz.underlying32 Z Z Z (O Z Z (Zm (v := Vb (b.isNone)) Z Z (Qo Z (Zf Z (Zx (QF y))) Z (Zm (v := QH 50 (g)) Z Z (Qo Z (Zf Z (Zx (QF y))) Z (K9 (T := 50) Tryz.underlying32 Z Z Z (O Z Z (Zs (v := Vb (g.isNone)) Z (Zx (QF y)) Z (O Z Z (Zm (v := Vb (g.isNone)) Z Z (Zl Z (Zf Z (Zx (Y3 (QF ag)))) Z Z (Zl Z (Zf Z (Zx (Y3 (QF ag)))) Z Z (Zl Z (Zf Z (Zx (Y3 (QF ag)))) Z Z (Zl Z (Zf Z (Zx (Y3 (QF ag)))) Z Z (O Z Z (QB (v := Vb false) Z (Zx (Y3 (QF ag))) Z (Qz 26 Z (Zb (V (Q0 ?_)))))))))))))))))))))))))))))))))))))
  have bQ := Zu hm
  subst r
  refine ⟨_, QU Z, ?_⟩
  exact ⟨b0, (Zt (Zt (Zt (Zt (Zt ah p) aw) ad) j) aW), ((aE.drop).drop).drop, Z⟩
 replace hm := Qdr hm
 obtain ⟨cn, z, hm⟩ := Zg hm
 refine O Z Z (Zm (v := Value.tuple #[Vp none, QH 50 (b)]) Z Z (O Z Z (Exec.extract (v := Vp none) Z Z Z (O Z Z (Exec.extract (v := QH 50 (b)) Z Z Z (O Z Z (Zo (v := Vp none) Z Z (O Z Z (Zo (v := QH 50 (b)) Z Z (Zb (V (Zc (Zd (O Z Z (Tc Z Z Z Ql (Qa7 Yz a8).r ?_)))))))))))))))
 rintro _ cR ⟨ci, c5, c6, c7, c8, ay, aN, rfl, bt, bu, bv, bw⟩
 refine O Z Z (Exec.buildSlice (Te := 3) (cs := [U 1, U 0]) aN Z (Qb (c := [U 1]) (Qi Z Z) (Qb (c := [U 0]) (Qi Z Z) Qw)) (fun _ => by kernel_rfl) ?_)
 intro bH cS aO
 have aP := St.boxArr (E := (Qa .i64)) (xs := [1, 0]) aO ⟨[U 1], [U 0], rfl, rfl, ⟨[U 0], [], rfl, rfl, rfl⟩⟩ (by simp [maxLen])
 obtain ⟨cj, x, aQ, bx⟩ := aP.freezeArr
 obtain ⟨bC, bg, hm⟩ := Zg hm
 obtain ⟨bW, ac⟩ := bC
 replace hm := Je hm
 refine O Z Z (Tc Z Z Z (Zi Z (Zi Z (Zi Z Ql))) (KG bg aQ (bt.mono x) (bu.mono x) (bv.mono x) (bw.mono x) bx).r ?_)
 rintro _ cT aV
 rcases aV with ⟨bI, rfl, b8, c9, am, cA, cB, aZ, aR, rfl, bZ⟩ | ⟨rfl, b9, ba, aS, rfl⟩
 ·replace hm := Qdq hm
  obtain ⟨co, bX, hm⟩ := Zg hm
  refine O Z Z (Zm (v := Value.tuple #[Vq am, QH 50 (ac)]) Z Z (O Z Z (Exec.extract (v := Vq am) Z Z Z (O Z Z (Exec.extract (v := QH 50 (ac)) Z Z Z (O Z Z (Zo (v := Vq am) Z Z (O Z Z (Zo (v := QH 50 (ac)) Z Z (Zb (V (Zc (Zd (O Z Z (Zm (v := QH 50 (b)) Z Z (O Z Z (K9 (T := 50) Tryz.underlying32 Z Z Z (O Z Z (Zm (v := Vb (b.isNone)) Z Z (Zl Z (Zf Z (Zx (Y3 (QF z)))) Z Z (Zl Z (Zf Z (Zx (Y3 (QF z)))) Z Z (O Z Z (QB (v := Vb false) Z (Zx (Y3 (QF z))) Z (Qz 32 Z (Zb (V (Q0 ?_)))))))))))))))))))))))))))
  have bR := Zu hm
  subst r
  refine ⟨_, QU Z, ?_⟩
  exact ⟨b8, (Zt (Zt (Zt (Zt (Zt ah p) ax) ay) x) aZ), ((aR.drop).drop).drop, Z⟩
 replace hm := Qdr hm
 obtain ⟨cp, bY, hm⟩ := Zg hm
 refine O Z Z (Zm (v := Value.tuple #[Vp none, QH 50 (ac)]) Z Z (O Z Z (Exec.extract (v := Vp none) Z Z Z (O Z Z (Exec.extract (v := QH 50 (ac)) Z Z Z (O Z Z (Zo (v := Vp none) Z Z (O Z Z (Zo (v := QH 50 (ac)) Z Z (Zb (V (Zc (Zd (O Z Z (Zm (v := QH 50 (b)) Z Z (O Z Z (K9 (T := 50) Tryz.underlying32 Z Z Z (O Z Z (Zm (v := Vb (b.isNone)) Z Z (Zl Z (Zf Z (Zx (Y3 (QF z)))) Z Z (Zl Z (Zf Z (Zx (Y3 (QF z)))) Z Z (O Z Z (QB (v := Vb false) Z (Zx (Y3 (QF z))) Z (Qz 32 Z (Zb (V (Q0 ?_)))))))))))))))))))))))))))
 have bS := Zu hm
 subst r
 refine ⟨_, QU Z, ?_⟩
 exact ⟨b9, (Zt (Zt (Zt (Zt (Zt ah p) ax) ay) x) ba), aS, Z⟩
theorem Qgy {w0 w : World} {s : PHeap} {H : List Res} {ao : (List Int)} {p : (List Int)} {i : Value} {c : Value} {r : Bool} (hm : YC ao p = some r) (hS : St w0 s (H) w) (aa : SliceRep (Qa .i64) s i ao) (j : SliceRep (Qa .i64) s c p) :
  Calls Tryz.prog 28 #[i, c] w fun e w' => ∃ v, e = .returned v ∧ ((fun (aP : Bool) => ∃ (aj : PHeap) , PHeap.le s aj ∧ St w0 aj (H) w' ∧ v = Value.bool (aP)) r) := by
 unfold YC at hm
 refine Qx Tryz.func28 Z Z (Zc (Zd (O Z Z (Zo (v := Vb false) Z Z (Zb (V (Zc (Zc (Zd (O Z Z (Zm (v := c) Z Z (O Z Z (Zr Jt Z Z j (O Z Z (Zm (v := i) Z Z (O Z Z (Zr Jt Z Z aa (O Z Z (Exec.neq Z Z Z (Zb (V ?_)))))))))))))))))))))
 rcases Qg hm with ⟨m, hm⟩ | ⟨m, hm⟩
 ·refine Qt Z m (Zc (Zd (O Z Z (Zo (v := Vb false) Z Z (Zb (V (Q0 (Qh ?_))))))))
  have aT := Zu hm
  subst r
  refine ⟨_, QU Z, ?_⟩
  exact ⟨s, (Zv _), hS, Z⟩
 refine Qu Z m ?_
 replace m := Zk m
 refine Qp (V (Zc (Zc (Zd (O Z Z (Zm (v := c) Z Z (O Z Z (Zr Jt Z Z j (O Z Z (Zm (v := U 0) Z Z (Zb (V ?_))))))))))))
 obtain ⟨ab, av, a6, a4, a2⟩ := QK hm
 refine QI (M := fun f' w' => ∃ s', (ab = .next s' ∨ ab = .brk s') ∧ (fun (_ : Unit) => ∃ (ak : PHeap) , PHeap.le s ak ∧ St w0 ak (H) w' ∧ f' 0 = i ∧ f' 1 = c ∧ f' 12 = U ((p.length : Int))) s') ?_ ?_
 ·refine Qk (Jp (fun k' s' f' w' => (fun (_ : Unit) => ∃ (al : PHeap) , PHeap.le s al ∧ St w0 al (H) w' ∧ f' 0 = i ∧ f' 1 = c ∧ f' 12 = U ((p.length : Int)) ∧ f' 13 = U (k' : Int)) s') av ?_ ?_ ?_)
  ·exact ⟨s, (Zv _), hS, Z, Z, Z, Z⟩
  ·intro g bn ac bd bt a3 aw d a7
   obtain ⟨z, o, l, x, t, y, u⟩ := aw
   refine Zc (Zd (O Z Z (Zq Z u y (Zb (V (Zc (QG (Zx (decide_eq_true (by omega))) (Qp (V (Zc (Qk (Zc (Zd (O Z Z (Zm (v := U ((g : Int))) Z u (O Z Z (Zo (v := U ((g : Int))) Z Z (Zb (V (Zc ?_))))))))))))))))))))
   obtain ⟨q, b, d⟩ := Zg d
   refine QI (M := fun f' w' => (fun (q : Bool) => ∃ (am : PHeap) , PHeap.le z am ∧ St w0 am (H) w' ∧ f' 0 = i ∧ f' 1 = c ∧ f' 12 = U ((p.length : Int)) ∧ f' 13 = U ((g : Int)) ∧ f' 31 = Vb q) q) ?_ ?_
   ·refine K1 (n0 := 16) (qs 0 16 .done) K8 (by kernel_rfl) (by kernel_rfl) (Qn Z Z (Zm (v := c) Z t ⟨Z, ?_⟩))
    refine Qn Z Z (Zm (v := U ((g : Int))) Z Z ⟨Z, ?_⟩)
    obtain ⟨ap, ai, b⟩ := Zg b
    refine Qn Z Z (QP Jt Z Z Z (j.mono o) ai ?_)
    intro aQ bh aq aU
    refine ⟨Z, ?_⟩
    refine Qn Z Z (Zw (E := (Qa .i64)) l.drew A3 Z Z Z aq ?_)
    intro bq aH
    obtain rfl := Qr.1 aH
    refine ⟨Z, ?_⟩
    refine Qn Z Z (Zq Z Z Z ⟨Z, ?_⟩)
    refine Qn Z Z (Zm (v := Vb (decide (ap < 0))) Z Z ⟨Z, ?_⟩)
    rcases Qg b with ⟨a, b⟩ | ⟨a, b⟩
    ·refine QZ 10 (by rw [a]; rfl) ?_
     refine QD (Zb (V ?_))
     have aV := Zu b
     subst q
     exact ⟨z, (Zv _), l.drew, x, t, y, u, Z⟩
    replace a := Zk a
    refine QA Z Z (Zf Z (Zx a)) (Zm (v := c) Z t ⟨Z, ?_⟩)
    refine QA Z Z (Zf Z (Zx a)) (Zm (v := U ((g : Int))) Z Z ⟨Z, ?_⟩)
    refine QA Z Z (Zf Z (Zx a)) (QP Jt Z Z Z (j.mono o) ai ?_)
    intro aR bi ar aW
    refine ⟨Z, ?_⟩
    refine QA Z Z (Zf Z (Zx a)) (Zw (E := (Qa .i64)) l.drew A3 Z Z Z ar ?_)
    intro br aI
    obtain rfl := Qr.1 aI
    refine ⟨Z, ?_⟩
    refine QA Z Z (Zf Z (Zx a)) (Zm (v := i) Z x ⟨Z, ?_⟩)
    refine QA Z Z (Zf Z (Zx a)) (Zm (v := U ((g : Int))) Z Z ⟨Z, ?_⟩)
    obtain ⟨aN, aJ, b⟩ := Zg b
    refine QA Z Z (Zf Z (Zx a)) (QP Jt Z Z Z (aa.mono o) aJ ?_)
    intro aS bj au aX
    refine ⟨Z, ?_⟩
    refine QA Z Z (Zf Z (Zx a)) (Zw (E := (Qa .i64)) l.drew A3 Z Z Z au ?_)
    intro bs aK
    obtain rfl := Qr.1 aK
    refine ⟨Z, ?_⟩
    refine QA Z Z (Zf Z (Zx a)) (Exec.geq Z Z Z ⟨Z, ?_⟩)
    refine Qn Z Z (QB (v := Vb (decide (aN ≤ ap))) Z (Zx a) Z ⟨Z, ?_⟩)
    refine QD (Zb (V ?_))
    have aY := Zu b
    subst q
    exact ⟨z, (Zv _), l.drew, x, t, y, u, Z⟩
   intro be bu ay
   obtain ⟨an, af, ad, aB, aC, aD, aE, ag⟩ := ay
   refine (V ?_)
   rcases Qg d with ⟨n, d⟩ | ⟨n, d⟩
   ·refine Qt ag n (Zc (Zd (O Z Z (Zo (v := Vb false) Z Z (Zb (V (Q0 (Q8 (Qh (Qh (Q8 (Qh (Qh ?_)))))))))))))
    have aZ := Zu d
    subst ac
    have a5 := a6 _ (a7 (by intro _ h; cases h))
    have ba := Zu a5
    subst r
    refine ⟨_, QU Z, ?_⟩
    exact ⟨an, (Zt o af), ad, Z⟩
   refine Qu ag n ?_
   replace n := Zk n
   refine Qp (Qy (V (Zd (O Z Z (Exec.add Z aE Z (O Z Z (Zm (v := U (IntKind.i64.wrap ((g : Int) + 1))) Z Z (Zb (V ?_)))))))))
   have bb := Zu d
   subst ac
   refine ⟨_, Z, ?_⟩; exact ⟨an, (Zt o af), ad, aB, aC, aD, (Eq.trans Z (Q9 a3 (SliceRep.le j)))⟩
  intro bo bf bv ax a8
  obtain ⟨aL, a9, a0, aF, aG, ah, aO⟩ := ax
  refine Zc (Zd (O Z Z (Zq Z aO ah (Zb (V (Zc (Q7 (Zx (decide_eq_false (by omega))) (QC (Qj (Qj (Q4 (V ?_))))))))))))
  refine ⟨_, .inl a8, ?_⟩; exact ⟨aL, a9, a0, aF, aG, ah⟩
 rintro bg bw ⟨bp, ae, az⟩
 have hm := ae.elim (a4 _) (a2 _)
 clear ae
 obtain ⟨aM, aA, a1, bk, bl, bm⟩ := az
 refine (V (Zc (Zd (O Z Z (Zo (v := Vb true) Z Z (Zb (V (Q0 ?_))))))))
 have bc := Zu hm
 subst r
 refine ⟨_, QU Z, ?_⟩
 exact ⟨aM, aA, a1, Z⟩
theorem YV {w0 w : World} {s : PHeap} {H : List Res} {af : (List Int)} {ac : (List Fact)} {aa : Value} {j : Value} {r : Bool} (hm : K7 af ac = some r) (hS : St w0 s (H) w) (ag : SliceRep (Qa .i64) s aa af) (ae : SliceRep encFact s j ac) :
  Calls Tryz.prog 46 #[aa, j] w fun e w' => ∃ v, e = .returned v ∧ ((fun (aZ : Bool) => ∃ (ap : PHeap) , PHeap.le s ap ∧ St w0 ap (H) w' ∧ v = Value.bool (aZ)) r) := by
 unfold K7 at hm
 refine Qx Tryz.func46 Z Z (Zc (Zd (O Z Z (Zo (v := Vb false) Z Z (Zb (V (Zc (Zc (Zd (O Z Z (Zm (v := j) Z Z (O Z Z (Zr S23 Z Z ae (O Z Z (Zm (v := U 0) Z Z (Zb (V ?_)))))))))))))))))
 obtain ⟨ah, a0, aD, aB, a9⟩ := QK hm
 refine QI (M := fun f' w' => ∃ s', (ah = .next s' ∨ ah = .brk s') ∧ (fun (_ : Unit) => ∃ (aq : PHeap) , PHeap.le s aq ∧ St w0 aq (H) w' ∧ f' 0 = aa ∧ f' 1 = j ∧ f' 7 = j ∧ f' 8 = U ((ac.length : Int))) s') ?_ ?_
 ·refine Qk (Jp (fun k' s' f' w' => (fun (_ : Unit) => ∃ (ar : PHeap) , PHeap.le s ar ∧ St w0 ar (H) w' ∧ f' 0 = aa ∧ f' 1 = j ∧ f' 7 = j ∧ f' 8 = U ((ac.length : Int)) ∧ f' 9 = U (k' : Int)) s') a0 ?_ ?_ ?_)
  ·exact ⟨s, (Zv _), hS, Z, Z, Z, Z, Z⟩
  ·intro t b2 ai bq b8 aA a1 l aE
   obtain ⟨z, ab, aj, q, u, x, y, m⟩ := a1
   refine Zc (Zd (O Z Z (Zq Z m y (Zb (V (Zc (QG (Zx (decide_eq_true (by omega))) (Qp (V (Zc (Qk (Zc (Zd (O Z Z (Zm (v := U ((t : Int))) Z m ?_)))))))))))))))
   obtain ⟨n, aQ, l⟩ := Zg l
   refine O Z Z (Qq S23 Z x m (ae.mono ab) aQ ?_)
   intro ba bu ax
   refine O Z Z (Zw (E := encFact) aj A90 Z Z Z ax ?_)
   intro b5 aR
   obtain rfl := KL.1 aR
   refine O Z Z (Exec.alloc (cs := [U 0, U 0]) aj Z90 Z Z ?_)
   intro bb b9 a5
   refine O Z Z (Zo (v := U ((t : Int))) Z Z (O Z Z (Qe (ds := [U (n.Var), U (n.Val)]) (es := [U (n.Var), U (n.Val)]) a5 A90 Z Z Z Z (Zj Z (Zj Z Q5)) (Nat.le_of_ble_eq_true Z) Z ?_)))
   intro bA a6
   refine Zb (V (Zc ?_))
   obtain ⟨o, a, l⟩ := Zg l
   refine QI (M := fun f' w' => (fun (o : Bool) => ∃ (au : PHeap) , PHeap.le z au ∧ St w0 au (H) w' ∧ f' 0 = aa ∧ f' 1 = j ∧ f' 7 = j ∧ f' 8 = U ((ac.length : Int)) ∧ f' 9 = U ((t : Int)) ∧ f' 53 = Vb o) o) ?_ ?_
   ·refine K1 (n0 := 40) (qs 0 40 .done) K8 (by kernel_rfl) (by kernel_rfl) ?_
    have b := a6.drew
    refine Qn Z Z (Zp Yf Z Z Z ⟨Z, ?_⟩)
    refine Qn Z Z (Zn (b) A3 Z Z Z ⟨Z, ?_⟩)
    refine Qn Z Z (Zq Z Z Z ⟨Z, ?_⟩)
    refine Qn Z Z (Zm (v := Vb (decide (n.Var < 0))) Z Z ⟨Z, ?_⟩)
    rcases Qg a with ⟨i, a⟩ | ⟨i, a⟩
    ·refine QZ 36 (by rw [i]; rfl) ?_
     refine QD (Zb (V ?_))
     have be := Zu a
     subst o
     exact ⟨z, (Zv _), b.drop, q, u, x, y, m, Z⟩
    replace i := Zk i
    refine QA Z Z (Zf Z (Zx i)) (Zp Yf Z Z Z ⟨Z, ?_⟩)
    refine QA Z Z (Zf Z (Zx i)) (Zn (b) A3 Z Z Z ⟨Z, ?_⟩)
    refine QA Z Z (Zf Z (Zx i)) (Zm (v := aa) Z q ⟨Z, ?_⟩)
    refine QA Z Z (Zf Z (Zx i)) (Zr Jt Z Z (ag.mono ab) ⟨Z, ?_⟩)
    refine QA Z Z (Zf Z (Zx i)) (Exec.geq Z Z Z ⟨Z, ?_⟩)
    refine Qn Z Z (QB (v := Vb (decide ((af.length : Int) ≤ n.Var))) Z (Zx i) Z ⟨Z, ?_⟩)
    refine Qn Z Z (Zm (v := Vb (decide ((af.length : Int) ≤ n.Var))) Z Z ⟨Z, ?_⟩)
    rcases Qg a with ⟨p, a⟩ | ⟨p, a⟩
    ·refine QZ 29 (by rw [p]; rfl) ?_
     refine QD (Zb (V ?_))
     have bf := Zu a
     subst o
     exact ⟨z, (Zv _), b.drop, q, u, x, y, m, Z⟩
    replace p := Zk p
    refine QA Z Z (Zf Z (Zx p)) (Zp Qea Z Z Z ⟨Z, ?_⟩)
    refine QA Z Z (Zf Z (Zx p)) (Zn (b) A3 Z Z Z ⟨Z, ?_⟩)
    refine QA Z Z (Zf Z (Zx p)) (Zq Z Z Z ⟨Z, ?_⟩)
    refine QZ 2 (by rw [p]; rfl) ?_
    rcases Qg a with ⟨d, a⟩ | ⟨d, a⟩
    ·refine QZ 24 (by rw [d]; rfl) ?_
     refine QD (Zb (V ?_))
     have bg := Zu a
     subst o
     exact ⟨z, (Zv _), b.drop, q, u, x, y, m, Z⟩
    replace d := Zk d
    refine QA Z Z (Zf Z (Zx d)) (Zp Qea Z Z Z ⟨Z, ?_⟩)
    refine QA Z Z (Zf Z (Zx d)) (Zn (b) A3 Z Z Z ⟨Z, ?_⟩)
    refine QA Z Z (Zf Z (Zx d)) (Zm (v := aa) Z q ⟨Z, ?_⟩)
    refine QA Z Z (Zf Z (Zx d)) (Zp Yf Z Z Z ⟨Z, ?_⟩)
    refine QA Z Z (Zf Z (Zx d)) (Zn (b) A3 Z Z Z ⟨Z, ?_⟩)
    obtain ⟨bE, aS, a⟩ := Zg a
    refine QA Z Z (Zf Z (Zx d)) (QP Jt Z Z Z (ag.mono ab) aS ?_)
    intro bc bv ay bh
    refine ⟨Z, ?_⟩
    refine QA Z Z (Zf Z (Zx d)) (Zw (E := (Qa .i64)) b A3 Z Z Z ay ?_)
    intro b6 aT
    obtain rfl := Qr.1 aT
    refine ⟨Z, ?_⟩
    refine QA Z Z (Zf Z (Zx d)) (Exec.geq Z Z Z ⟨Z, ?_⟩)
    refine QZ 2 (by rw [d]; rfl) ?_
    rcases Qg a with ⟨g, a⟩ | ⟨g, a⟩
    ·refine QZ 14 (by rw [g]; rfl) ?_
     refine QD (Zb (V ?_))
     have bi := Zu a
     subst o
     exact ⟨z, (Zv _), b.drop, q, u, x, y, m, Z⟩
    replace g := Zk g
    refine QA Z Z (Zf Z (Zx g)) (Zm (v := U ((t : Int))) Z Z ⟨Z, ?_⟩)
    refine QA Z Z (Zf Z (Zx g)) (Exec.gtr Z Z Z ⟨Z, ?_⟩)
    refine QA Z Z (Zf Z (Zx g)) (Zm (v := Vb (decide (0 < (t : Int)))) Z Z ⟨Z, ?_⟩)
    rcases Qg a with ⟨c, a⟩ | ⟨c, a⟩
    ·refine QA Z Z (Zf Z (Zx c)) (Zm (v := j) Z u ⟨Z, ?_⟩)
     refine QA Z Z (Zf Z (Zx c)) (Zm (v := U ((t : Int))) Z Z ⟨Z, ?_⟩)
     refine QA Z Z (Zf Z (Zx c)) (Exec.sub Z Z Z ⟨Z, ?_⟩)
     obtain ⟨aw, aU, a⟩ := Zg a
     refine QA Z Z (Zf Z (Zx c)) (QP S23 Z Z Z (ae.mono ab) aU ?_)
     intro bd bw az bj
     refine ⟨Z, ?_⟩
     refine QA Z Z (Zf Z (Zx c)) (Zp Yf Z Z Z ⟨Z, ?_⟩)
     refine QA Z Z (Zf Z (Zx c)) (Zw (E := (Qa .i64)) b A3 Z Z Z (az.sub (Sub.iso (QhJ (Sub.refl _))) Z) ?_)
     intro b7 aV
     obtain rfl := Qr.1 aV
     refine ⟨Z, ?_⟩
     refine QA Z Z (Zf Z (Zx c)) (Zp Yf Z Z Z ⟨Z, ?_⟩)
     refine QA Z Z (Zf Z (Zx c)) (Zn (b) A3 Z Z Z ⟨Z, ?_⟩)
     refine QA Z Z (Zf Z (Zx c)) (Exec.geq Z Z Z ⟨Z, ?_⟩)
     refine QA Z Z (Zf Z (Zx g)) (Zs (v := Vb (decide (n.Var ≤ aw.Var))) Z (Zx c) Z ⟨Z, ?_⟩)
     refine Qn Z Z (QB (v := Vb (decide (n.Var ≤ aw.Var))) Z (Zx g) Z ⟨Z, ?_⟩)
     refine QD (Zb (V ?_))
     have bk := Zu a
     subst o
     exact ⟨z, (Zv _), b.drop, q, u, x, y, m, Z⟩
    replace c := Zk c
    refine QZ 9 (by rw [c]; rfl) ?_
    refine QA Z Z (Zf Z (Zx g)) (QB (v := Vb false) Z Z Z ⟨Z, ?_⟩)
    refine Qn Z Z (QB (v := Vb false) Z (Zx g) Z ⟨Z, ?_⟩)
    refine QD (Zb (V ?_))
    have bl := Zu a
    subst o
    exact ⟨z, (Zv _), b.drop, q, u, x, y, m, Z⟩
   intro br bB a3
   obtain ⟨av, am, ak, aI, aJ, aK, aL, aM, an⟩ := a3
   refine (V ?_)
   rcases Qg l with ⟨ad, l⟩ | ⟨ad, l⟩
   ·refine Qt an ad (Zc (Zd (O Z Z (Zo (v := Vb false) Z Z (Zb (V (Q0 (Q8 (Qh (Qh (Q8 (Qh (Qh ?_)))))))))))))
    have bm := Zu l
    subst ai
    have aC := aD _ (aE (by intro _ h; cases h))
    have bn := Zu aC
    subst r
    refine ⟨_, QU Z, ?_⟩
    exact ⟨av, (Zt ab am), ak, Z⟩
   refine Qu an ad ?_
   replace ad := Zk ad
   refine Qp (Qy (V (Zd (O Z Z (Exec.add Z aM Z (O Z Z (Zm (v := U (IntKind.i64.wrap ((t : Int) + 1))) Z Z (Zb (V ?_)))))))))
   have bo := Zu l
   subst ai
   refine ⟨_, Z, ?_⟩; exact ⟨av, (Zt ab am), ak, aI, aJ, aK, aL, (Eq.trans Z (Q9 aA (SliceRep.le ae)))⟩
  intro b3 bs bC a2 aF
  obtain ⟨aW, aG, a7, aN, aO, aP, ao, aY⟩ := a2
  refine Zc (Zd (O Z Z (Zq Z aY ao (Zb (V (Zc (Q7 (Zx (decide_eq_false (by omega))) (QC (Qj (Qj (Q4 (V ?_))))))))))))
  refine ⟨_, .inl aF, ?_⟩; exact ⟨aW, aG, a7, aN, aO, aP, ao⟩
 rintro bt bD ⟨b4, al, a4⟩
 have hm := al.elim (aB _) (a9 _)
 clear al
 obtain ⟨aX, aH, a8, bx, bz, b0, b1⟩ := a4
 refine (V (Zc (Zd (O Z Z (Zo (v := Vb true) Z Z (Zb (V (Q0 ?_))))))))
 have bp := Zu hm
 subst r
 refine ⟨_, QU Z, ?_⟩
 exact ⟨aX, aH, a8, Z⟩
theorem Qe5 {w0 w : World} {s : PHeap} {H : List Res} {bd : (List Int)} {a : Op} {i : Value} {ad : Value} {n : Value} {r : Bool} (hm : Yr bd a = some r) (hS : St w0 s (H) w) (av : SliceRep (Qa .i64) s i bd) (bf : SliceRep encFact s ad a.Pre) (al : SliceRep encEffect s n a.Effs) :
  Calls Tryz.prog 47 #[i, Value.agg #[Value.string (a.Name), U (a.Cost), ad, n]] w fun e w' => ∃ v, e = .returned v ∧ ((fun (cr : Bool) => ∃ (aS : PHeap) , PHeap.le s aS ∧ St w0 aS (H) w' ∧ v = Value.bool (cr)) r) := by
 unfold Yr at hm
 refine Qx Tryz.func47 Z Z (Zc (Zd (O Z Z (Exec.box (cs := [Value.string (a.Name), U (a.Cost), ad, n]) hS Z Z Z ?_))))
 intro x dd j
 refine O Z Z (Zo (v := Vb false) Z Z (Zb (V (Zc (Zc ?_)))))
 obtain ⟨z, b, hm⟩ := Zg hm
 refine QI (M := fun f' w' => (fun (z : Bool) => ∃ (aT : PHeap) , PHeap.le s aT ∧ St w0 aT (Res.box x 60 [Value.string (a.Name), U (a.Cost), ad, n] :: H) w' ∧ f' 0 = i ∧ f' 3 = Vq x ∧ f' 34 = Vb z) z) ?_ ?_
 ·refine Zd (O Z Z (Zp Qhc Z Z Z (O Z Z (Zn (j) A3 Z Z Z (O Z Z (Zq Z Z Z (O Z Z (Zm (v := Vb (decide (a.Cost < 0))) Z Z ?_))))))))
  rcases Qg b with ⟨y, b⟩ | ⟨y, b⟩
  ·refine Qz 23 (by rw [y]; rfl) ?_
   refine Zb (V ?_)
   have cz := Zu b
   subst z
   exact ⟨s, (Zv _), j, Z, Z, Z⟩
  replace y := Zk y
  refine Qo Z (Zf Z (Zx y)) Z (Zp Qhc Z Z Z (Qo Z (Zf Z (Zx y)) Z (Zn (j) A3 Z Z Z (Qo Z (Zf Z (Zx y)) Z (Exec.gtr Z Z Z ?_)))))
  refine Qz 2 (by rw [y]; rfl) ?_
  rcases Qg b with ⟨o, b⟩ | ⟨o, b⟩
  ·refine Qz 18 (by rw [o]; rfl) ?_
   refine Zb (V ?_)
   have c0 := Zu b
   subst z
   exact ⟨s, (Zv _), j, Z, Z, Z⟩
  replace o := Zk o
  refine Qo Z (Zf Z (Zx o)) Z (Zp Qd8 Z Z Z (Qo Z (Zf Z (Zx o)) Z (Zn (j) A58 Z Z Z (Qo Z (Zf Z (Zx o)) Z (Zr S58 Z Z al (Qo Z (Zf Z (Zx o)) Z (Exec.gtr Z Z Z ?_)))))))
  refine Qz 2 (by rw [o]; rfl) ?_
  rcases Qg b with ⟨p, b⟩ | ⟨p, b⟩
  ·refine Qz 12 (by rw [p]; rfl) ?_
   refine Zb (V ?_)
   have c1 := Zu b
   subst z
   exact ⟨s, (Zv _), j, Z, Z, Z⟩
  replace p := Zk p
  refine Qo Z (Zf Z (Zx p)) Z (Zp Qir Z Z Z (Qo Z (Zf Z (Zx p)) Z (Zn (j) A9 Z Z Z (Qo Z (Zf Z (Zx p)) Z (Qa1 Tryz.underlying9 Z Z (Qo Z (Zf Z (Zx p)) Z (Exec.gtr Z Z Z ?_)))))))
  refine Qz 2 (by rw [p]; rfl) ?_
  rcases Qg b with ⟨l, b⟩ | ⟨l, b⟩
  ·refine Qz 6 (by rw [l]; rfl) ?_
   refine Zb (V ?_)
   have c2 := Zu b
   subst z
   exact ⟨s, (Zv _), j, Z, Z, Z⟩
  replace l := Zk l
  refine Qo Z (Zf Z (Zx l)) Z (Zm (v := i) Z Z (Qo Z (Zf Z (Zx l)) Z (Zp Qiq Z Z Z (Qo Z (Zf Z (Zx l)) Z (Zn (j) A23 Z Z Z ?_)))))
  obtain ⟨ct, cb, b⟩ := Zg b
  refine Qo Z (Zf Z (Zx l)) Z (Tc Z Z Z (Zi Z (Zi Z Ql)) (YV cb j av bf).r ?_)
  rintro _ de ⟨ci, bH, bs, rfl⟩
  refine Qo Z (Zf Z (Zx l)) Z (Exec.not Z Z (O Z Z (QB (v := Vb (!ct)) Z (Zx l) Z (Zb (V ?_)))))
  have c3 := Zu b
  subst z
  exact ⟨ci, bH, bs, Z, Z, Z⟩
 intro cG df bn
 obtain ⟨aq, u, aw, bM, aJ, aK⟩ := bn
 refine (V ?_)
 rcases Qg hm with ⟨af, hm⟩ | ⟨af, hm⟩
 ·refine Qt aK af (Zc (Zd (O Z Z (Zo (v := Vb false) Z Z (Zb (V (Q0 (Qh ?_))))))))
  have c4 := Zu hm
  subst r
  refine ⟨_, QU Z, ?_⟩
  exact ⟨aq, u, aw.drop, Z⟩
 refine Qu aK af ?_
 replace af := Zk af
 refine Qp (V (Zc (Zc (Zd (O Z Z (Zp Qir Z aJ Z (O Z Z (Zn (aw) A9 Z Z Z (O Z Z (Qa1 Tryz.underlying9 Z Z (O Z Z (Zm (v := U 0) Z Z (Zb (V ?_))))))))))))))
 obtain ⟨db, cc, hm⟩ := Zg hm
 obtain ⟨a3, bh, bB, b7, b3⟩ := QK hm
 refine QI (M := fun f' w' => ∃ s', (a3 = .next s' ∨ a3 = .brk s') ∧ (fun (_ : Unit) => ∃ (aU : PHeap) , PHeap.le aq aU ∧ St w0 aU (Res.box x 60 [Value.string (a.Name), U (a.Cost), ad, n] :: H) w' ∧ f' 0 = i ∧ f' 3 = Vq x ∧ f' 37 = U ((a.Name.size : Int))) s') ?_ ?_
 ·refine Qk (Jp (fun k' s' f' w' => (fun (_ : Unit) => ∃ (aV : PHeap) , PHeap.le aq aV ∧ St w0 aV (Res.box x 60 [Value.string (a.Name), U (a.Cost), ad, n] :: H) w' ∧ f' 0 = i ∧ f' 3 = Vq x ∧ f' 37 = U ((a.Name.size : Int)) ∧ f' 38 = U (k' : Int)) s') bh ?_ ?_ ?_)
  ·exact ⟨aq, (Zv _), aw, bM, aJ, Z, Z⟩
  ·intro ae cV a4 cH dg b5 bj aa bD
   obtain ⟨a1, aF, am, aL, ao, ay, ar⟩ := bj
   refine Zc (Zd (O Z Z (Zq Z ar ay (Zb (V (Zc (QG (Zx (decide_eq_true (by omega))) (Qp (V (Zc (Qk (Zc (Zd (O Z Z (Zm (v := U ((ae : Int))) Z ar (O Z Z (Zo (v := U ((ae : Int))) Z Z (Zb (V (Zc ?_))))))))))))))))))))
   obtain ⟨aj, ab, aa⟩ := Zg aa
   refine QI (M := fun f' w' => (fun (aj : Bool) => ∃ (aW : PHeap) , PHeap.le a1 aW ∧ St w0 aW (Res.box x 60 [Value.string (a.Name), U (a.Cost), ad, n] :: H) w' ∧ f' 0 = i ∧ f' 3 = Vq x ∧ f' 37 = U ((a.Name.size : Int)) ∧ f' 38 = U ((ae : Int)) ∧ f' 52 = Vb aj) aj) ?_ ?_
   ·refine Zd (O Z Z (Zp Qir Z ao Z (O Z Z (Zn (am) A9 Z Z Z (O Z Z (Zm (v := U ((ae : Int))) Z Z ?_))))))
    obtain ⟨be, aQ, ab⟩ := Zg ab
    refine O Z Z (Qa3 Tryz.underlying9 Z Z Z aQ (O Z Z (Zq Z Z Z (O Z Z (Zm (v := Vb (decide (be < 32))) Z Z ?_)))))
    rcases Qg ab with ⟨m, ab⟩ | ⟨m, ab⟩
    ·refine Qz 6 (by rw [m]; rfl) ?_
     refine Zb (V ?_)
     have c5 := Zu ab
     subst aj
     exact ⟨a1, (Zv _), am, aL, ao, ay, ar, Z⟩
    replace m := Zk m
    refine Qo Z (Zf Z (Zx m)) Z (Zp Qir Z ao Z (Qo Z (Zf Z (Zx m)) Z (Zn (am) A9 Z Z Z (Qo Z (Zf Z (Zx m)) Z (Zm (v := U ((ae : Int))) Z Z (Qo Z (Zf Z (Zx m)) Z (Qa3 Tryz.underlying9 Z Z Z aQ (Qo Z (Zf Z (Zx m)) Z (Exec.gtr Z Z Z (O Z Z (QB (v := Vb (decide (126 < be))) Z (Zx m) Z (Zb (V ?_)))))))))))))
    have c6 := Zu ab
    subst aj
    exact ⟨a1, (Zv _), am, aL, ao, ay, ar, Z⟩
   intro cI dh bo
   obtain ⟨aX, aG, a7, bN, bO, bP, bQ, aM⟩ := bo
   refine (V ?_)
   rcases Qg aa with ⟨ag, aa⟩ | ⟨ag, aa⟩
   ·refine Qt aM ag (Zc (Zd (O Z Z (Zo (v := Vb false) Z Z (Zb (V (Q0 (Q8 (Qh (Qh (Q8 (Qh (Qh ?_)))))))))))))
    have c7 := Zu aa
    subst a4
    have b9 := bB _ (bD (by intro _ h; cases h))
    have c8 := Zu b9
    subst r
    refine ⟨_, QU Z, ?_⟩
    exact ⟨aX, (Zt (Zt u aF) aG), a7.drop, Z⟩
   refine Qu aM ag ?_
   replace ag := Zk ag
   refine Qp (Qy (V (Zd (O Z Z (Exec.add Z bQ Z (O Z Z (Zm (v := U (IntKind.i64.wrap ((ae : Int) + 1))) Z Z (Zb (V ?_)))))))))
   have c9 := Zu aa
   subst a4
   refine ⟨_, Z, ?_⟩; exact ⟨aX, (Zt aF aG), a7, bN, bO, bP, (Eq.trans Z (Q9 b5 (by have h := QF cc; simp at h; simp only [maxLen]; omega)))⟩
  intro cW cJ di bk bE
  obtain ⟨cj, bI, bt, bR, bS, aN, cp⟩ := bk
  refine Zc (Zd (O Z Z (Zq Z cp aN (Zb (V (Zc (Q7 (Zx (decide_eq_false (by omega))) (QC (Qj (Qj (Q4 (V ?_))))))))))))
  refine ⟨_, .inl bE, ?_⟩; exact ⟨cj, bI, bt, bR, bS, aN⟩
 rintro cK dj ⟨cX, aC, bp⟩
 have hm := aC.elim (b7 _) (b3 _)
 clear aC
 obtain ⟨a2, ac, a8, bT, bU, cQ⟩ := bp
 refine (V (Zc (Zc (Zd (O Z Z (Zp Qd8 Z bU Z (O Z Z (Zn (a8) A58 Z Z Z (O Z Z (Zr S58 Z Z (al.mono (Zt u ac)) (O Z Z (Zm (v := U 0) Z Z (Zb (V ?_))))))))))))))
 obtain ⟨a5, bi, bC, b8, b4⟩ := QK hm
 refine QI (M := fun f' w' => ∃ s', (a5 = .next s' ∨ a5 = .brk s') ∧ (fun (_ : Unit) => ∃ (aY : PHeap) , PHeap.le a2 aY ∧ St w0 aY (H) w' ∧ f' 0 = i ∧ f' 55 = n ∧ f' 56 = U ((a.Effs.length : Int))) s') ?_ ?_
 ·refine Qk (Jp (fun k' s' f' w' => (fun (_ : Unit) => ∃ (aZ : PHeap) , PHeap.le a2 aZ ∧ St w0 aZ (H) w' ∧ f' 0 = i ∧ f' 55 = n ∧ f' 56 = U ((a.Effs.length : Int)) ∧ f' 57 = U (k' : Int)) s') bi ?_ ?_ ?_)
  ·have bu := a8.drop
   exact ⟨a2, (Zv _), bu, bT, Z, Z, Z⟩
  ·intro aE cY a6 cL dk b6 bl q bF
   obtain ⟨ck, ai, a9, ap, az, a0, au⟩ := bl
   refine Zc (Zd (O Z Z (Zq Z au a0 (Zb (V (Zc (QG (Zx (decide_eq_true (by omega))) (Qp (V (Zc (Qk (Zc (Zd ?_)))))))))))))
   obtain ⟨d, cd, q⟩ := Zg q
   refine O Z Z (Qq S58 Z az au (al.mono (Zt (Zt u ac) ai)) cd ?_)
   intro cw cP bg
   refine O Z Z (Zw (E := encEffect) a9 A95 Z Z Z bg ?_)
   intro dc ce
   obtain ⟨bc, rfl, aR⟩ := KS.1 ce
   refine O Z Z (Exec.alloc (cs := [Vn, U 0, U 0]) a9 Z95 Z Z ?_)
   intro cx dl bv
   refine O Z Z (Qe (ds := [bc, U (d.Var), U (d.Val)]) (es := [bc, U (d.Var), U (d.Val)]) bv A95 Z Z Z Z (Zj aR.one (Zj Z (Zj Z Q5))) (Nat.le_of_ble_eq_true Z) Z ?_)
   intro dm aA
   refine Zb (V (Zc ?_))
   obtain ⟨ak, t, q⟩ := Zg q
   refine QI (M := fun f' w' => (fun (ak : Bool) => ∃ (ba : PHeap) , PHeap.le ck ba ∧ St w0 ba (H) w' ∧ f' 0 = i ∧ f' 55 = n ∧ f' 56 = U ((a.Effs.length : Int)) ∧ f' 57 = U ((aE : Int)) ∧ f' 76 = Vb ak) ak) ?_ ?_
   ·refine Zd (O Z Z (Zm (v := i) Z ap (O Z Z (Zp Qhb Z Z Z (O Z Z (Zn (aA) A23 Z Z Z ?_))))))
    obtain ⟨cu, cf, t⟩ := Zg t
    refine O Z Z (Tc Z Z Z (Zi Z (Zi Z Ql)) (YV cf aA (av.mono (Zt (Zt u ac) ai)) aR).r ?_)
    rintro _ dn ⟨cl, ax, an, rfl⟩
    refine O Z Z (Exec.not Z Z (O Z Z (Zm (v := Vb (!cu)) Z Z ?_)))
    rcases Qg t with ⟨g, t⟩ | ⟨g, t⟩
    ·refine Qz 10 (by rw [g]; rfl) ?_
     refine Zb (V ?_)
     have cA := Zu t
     subst ak
     exact ⟨cl, ax, an.drop, ap, az, a0, au, Z⟩
    replace g := Zk g
    refine Qo Z (Zf Z (Zx g)) Z (Zm (v := i) Z ap (Qo Z (Zf Z (Zx g)) Z (Zp QfB Z Z Z (Qo Z (Zf Z (Zx g)) Z (Zn (an) A3 Z Z Z (Qo Z (Zf Z (Zx g)) Z (Zp QjL Z Z Z (Qo Z (Zf Z (Zx g)) Z (Zn (an) A3 Z Z Z (Qo Z (Zf Z (Zx g)) Z (Exec.build Z (Qb (c := [U (d.Var)]) (Qi Z Z) (Qb (c := [U (d.Val)]) (Qi Z Z) Qw)) (v := Value.agg #[U (d.Var), U (d.Val)]) (fun _ => by kernel_rfl) (Qo Z (Zf Z (Zx g)) Z (Exec.buildSlice (Te := 90) (cs := [U (d.Var), U (d.Val)]) an Z (Qb (c := [U (d.Var), U (d.Val)]) (Qi Z Z) Qw) (fun _ => by kernel_rfl) ?_)))))))))))))
    intro cy dp bw
    have bx := St.boxArr (E := encFact) (xs := [(⟨d.Var, d.Val⟩ : Fact)]) bw ⟨[U (d.Var), U (d.Val)], [], rfl, ⟨[U (d.Var)], [U (d.Val)], rfl, rfl, rfl⟩, rfl⟩ (by simp [maxLen])
    obtain ⟨cU, aH, bz, ch⟩ := bx.freezeArr
    obtain ⟨cv, cg, t⟩ := Zg t
    refine Qo Z (Zf Z (Zx g)) Z (Tc Z Z Z (Zi Z (Zi Z Ql)) (YV cg bz (av.mono (Zt (Zt (Zt (Zt u ac) ai) ax) aH)) ch).r ?_)
    rintro _ dq ⟨cm, bJ, b0, rfl⟩
    refine Qo Z (Zf Z (Zx g)) Z (Exec.not Z Z (O Z Z (QB (v := Vb (!cv)) Z (Zx g) Z (Zb (V ?_)))))
    have cB := Zu t
    subst ak
    exact ⟨cm, (Zt (Zt ax aH) bJ), b0.drop, ap, az, a0, au, Z⟩
   intro cM dr bq
   obtain ⟨bb, aI, aB, bV, bW, bX, bY, aO⟩ := bq
   refine (V ?_)
   rcases Qg q with ⟨ah, q⟩ | ⟨ah, q⟩
   ·refine Qt aO ah (Zc (Zd (O Z Z (Zo (v := Vb false) Z Z (Zb (V (Q0 (Q8 (Qh (Qh (Q8 (Qh (Qh ?_)))))))))))))
    have cC := Zu q
    subst a6
    have bA := bC _ (bF (by intro _ h; cases h))
    have cD := Zu bA
    subst r
    refine ⟨_, QU Z, ?_⟩
    exact ⟨bb, (Zt (Zt (Zt u ac) ai) aI), aB, Z⟩
   refine Qu aO ah ?_
   replace ah := Zk ah
   refine Qp (Qy (V (Zd (O Z Z (Exec.add Z bY Z (O Z Z (Zm (v := U (IntKind.i64.wrap ((aE : Int) + 1))) Z Z (Zb (V ?_)))))))))
   have cE := Zu q
   subst a6
   refine ⟨_, Z, ?_⟩; exact ⟨bb, (Zt ai aI), aB, bV, bW, bX, (Eq.trans Z (Q9 b6 (SliceRep.le (al.mono (Zt u ac)))))⟩
  intro cZ cN dt bm bG
  obtain ⟨cn, bK, b1, bZ, ca, aP, cq⟩ := bm
  refine Zc (Zd (O Z Z (Zq Z cq aP (Zb (V (Zc (Q7 (Zx (decide_eq_false (by omega))) (QC (Qj (Qj (Q4 (V ?_))))))))))))
  refine ⟨_, .inl bG, ?_⟩; exact ⟨cn, bK, b1, bZ, ca, aP⟩
 rintro cO du ⟨da, aD, br⟩
 have hm := aD.elim (b8 _) (b4 _)
 clear aD
 obtain ⟨co, bL, b2, cR, cS, cT⟩ := br
 refine (V (Zc (Zd (O Z Z (Zo (v := Vb true) Z Z (Zb (V (Q0 ?_))))))))
 have cF := Zu hm
 subst r
 refine ⟨_, QU Z, ?_⟩
 exact ⟨co, (Zt (Zt u ac) bL), b2, Z⟩
theorem QgN {w0 w : World} {s : PHeap} {H : List Res} {b : Task} {d : Value} {m : Value} {n : Value} {g : Value} {r : Bool} (hm : Qbb b = some r) (hS : St w0 s (H) w) (u : SliceRep (Qa .i64) s d b.Vars) (bb : SliceRep (Qa .i64) s m b.Init) (bc : SliceRep encFact s n b.Goal) (ag : SliceRep encOp s g b.Ops) :
  Calls Tryz.prog 27 #[Value.agg #[d, m, n, g]] w fun e w' => ∃ v, e = .returned v ∧ ((fun (cc : Bool) => ∃ (aR : PHeap) , PHeap.le s aR ∧ St w0 aR (H) w' ∧ v = Value.bool (cc)) r) := by
 unfold Qbb at hm
 refine Qx Tryz.func27 Z Z (Zc (Zd (O Z Z (Exec.box (cs := [d, m, n, g]) hS Z Z Z ?_))))
 intro c cJ ah
 refine O Z Z (Zo (v := Vb false) Z Z (Zb (V (Zc (Zc (QI (M := fun f' w' => ∃ (aS : PHeap) , PHeap.le s aS ∧ St w0 aS (Res.box c 26 [d, m, n, g] :: H) w' ∧ f' 1 = Vq c ∧ f' 16 = Vb (((decide (64 < (b.Vars.length : Int))) || decide (4096 < (b.Ops.length : Int))))) ?_ ?_))))))
 ·refine Zd (O Z Z (Zp Yg Z Z Z (O Z Z (Zn (ah) A22 Z Z Z (O Z Z (Zr Jt Z Z u (O Z Z (Exec.gtr Z Z Z (O Z Z (Zm (v := Vb (decide (64 < (b.Vars.length : Int)))) Z Z ?_))))))))))
  by_cases l : (decide (64 < (b.Vars.length : Int))) = true
  ·refine Qz 5 (by rw [l]; rfl) ?_
   refine Zb (V ?_)
   exact ⟨s, (Zv _), ah, Z, (Zx (QdY l)).symm⟩
  replace l := Zk l
  refine Qo Z (Zf Z (Zx l)) Z (Zp YJ Z Z Z (Qo Z (Zf Z (Zx l)) Z (Zn (ah) A24 Z Z Z (Qo Z (Zf Z (Zx l)) Z (Zr S24 Z Z ag (Qo Z (Zf Z (Zx l)) Z (Exec.gtr Z Z Z (O Z Z (QB (v := Vb (decide (4096 < (b.Ops.length : Int)))) Z (Zx l) Z (Zb (V ?_)))))))))))
  exact ⟨s, (Zv _), ah, Z, (Zx (Qak l)).symm⟩
 intro cu cK bl
 obtain ⟨al, a, ao, aE, aF⟩ := bl
 refine (V ?_)
 rcases Qg hm with ⟨ab, hm⟩ | ⟨ab, hm⟩
 ·refine Qt aF ab (Zc (Zd (O Z Z (Zo (v := Vb false) Z Z (Zb (V (Q0 (Qh ?_))))))))
  have ci := Zu hm
  subst r
  refine ⟨_, QU Z, ?_⟩
  exact ⟨al, a, ao.drop, Z⟩
 refine Qu aF ab ?_
 replace ab := Zk ab
 refine Qp (V (Zc (Zc (Zd (O Z Z (Zp Yg Z aE Z (O Z Z (Zn (ao) A22 Z Z Z (O Z Z (Zr Jt Z Z (u.mono a) (O Z Z (Zm (v := U 0) Z Z (Zb (V ?_))))))))))))))
 obtain ⟨a2, bf, b4, b0, bv⟩ := QK hm
 refine QI (M := fun f' w' => ∃ s', (a2 = .next s' ∨ a2 = .brk s') ∧ (fun (_ : Unit) => ∃ (aT : PHeap) , PHeap.le al aT ∧ St w0 aT (Res.box c 26 [d, m, n, g] :: H) w' ∧ f' 1 = Vq c ∧ f' 18 = d ∧ f' 19 = U ((b.Vars.length : Int))) s') ?_ ?_
 ·refine Qk (Jp (fun k' s' f' w' => (fun (_ : Unit) => ∃ (aU : PHeap) , PHeap.le al aU ∧ St w0 aU (Res.box c 26 [d, m, n, g] :: H) w' ∧ f' 1 = Vq c ∧ f' 18 = d ∧ f' 19 = U ((b.Vars.length : Int)) ∧ f' 20 = U (k' : Int)) s') bf ?_ ?_ ?_)
  ·exact ⟨al, (Zv _), ao, aE, Z, Z, Z⟩
  ·intro aB cB a3 cv cL bx bh x b6
   obtain ⟨ay, av, ap, aG, aw, ax, an⟩ := bh
   refine Zc (Zd (O Z Z (Zq Z an ax (Zb (V (Zc (QG (Zx (decide_eq_true (by omega))) (Qp (V (Zc (Qk (Zc (Zd ?_)))))))))))))
   obtain ⟨t, bN, x⟩ := Zg x
   refine O Z Z (Qq Jt Z aw an (u.mono (Zt a av)) bN ?_)
   intro cf c3 bd
   refine O Z Z (Zw (E := (Qa .i64)) ap A3 Z Z Z bd ?_)
   intro cH bO
   obtain rfl := Qr.1 bO
   refine O Z Z (Zo (v := U t) Z Z (Zb (V (Zc (QI (M := fun f' w' => ∃ (aV : PHeap) , PHeap.le ay aV ∧ St w0 aV (Res.box c 26 [d, m, n, g] :: H) w' ∧ f' 1 = Vq c ∧ f' 18 = d ∧ f' 19 = U ((b.Vars.length : Int)) ∧ f' 20 = U ((aB : Int)) ∧ f' 29 = Vb (((decide (t < 1)) || decide (64 < t)))) ?_ ?_)))))
   ·refine Zd (O Z Z (Zm (v := U t) Z Z (O Z Z (Zq Z Z Z (O Z Z (Zm (v := Vb (decide (t < 1))) Z Z ?_))))))
    by_cases q : (decide (t < 1)) = true
    ·refine Qz 3 (by rw [q]; rfl) ?_
     refine Zb (V ?_)
     exact ⟨ay, (Zv _), ap, aG, aw, ax, an, (Zx (QdY q)).symm⟩
    replace q := Zk q
    refine Qo Z (Zf Z (Zx q)) Z (Zm (v := U t) Z Z (Qo Z (Zf Z (Zx q)) Z (Exec.gtr Z Z Z (O Z Z (QB (v := Vb (decide (64 < t))) Z (Zx q) Z (Zb (V ?_)))))))
    exact ⟨ay, (Zv _), ap, aG, aw, ax, an, (Zx (Qak q)).symm⟩
   intro cw cM bm
   obtain ⟨aW, aC, a6, bF, bG, bH, bI, aH⟩ := bm
   refine (V ?_)
   rcases Qg x with ⟨ac, x⟩ | ⟨ac, x⟩
   ·refine Qt aH ac (Zc (Zd (O Z Z (Zo (v := Vb false) Z Z (Zb (V (Q0 (Q8 (Qh (Qh (Q8 (Qh (Qh ?_)))))))))))))
    have cj := Zu x
    subst a3
    have b2 := b4 _ (b6 (by intro _ h; cases h))
    have ck := Zu b2
    subst r
    refine ⟨_, QU Z, ?_⟩
    exact ⟨aW, (Zt (Zt a av) aC), a6.drop, Z⟩
   refine Qu aH ac ?_
   replace ac := Zk ac
   refine Qp (Qy (V (Zd (O Z Z (Exec.add Z bI Z (O Z Z (Zm (v := U (IntKind.i64.wrap ((aB : Int) + 1))) Z Z (Zb (V ?_)))))))))
   have cl := Zu x
   subst a3
   refine ⟨_, Z, ?_⟩; exact ⟨aW, (Zt av aC), a6, bF, bG, bH, (Eq.trans Z (Q9 bx (SliceRep.le (u.mono a))))⟩
  intro cC cx cN bi b7
  obtain ⟨bU, bB, bq, bJ, bK, aI, ca⟩ := bi
  refine Zc (Zd (O Z Z (Zq Z ca aI (Zb (V (Zc (Q7 (Zx (decide_eq_false (by omega))) (QC (Qj (Qj (Q4 (V ?_))))))))))))
  refine ⟨_, .inl b7, ?_⟩; exact ⟨bU, bB, bq, bJ, bK, aI⟩
 rintro cy cO ⟨cD, a9, bn⟩
 have hm := a9.elim (b0 _) (bv _)
 clear a9
 obtain ⟨bV, j, aq, z, c5, c6⟩ := bn
 refine (V (Zc (Zc ?_)))
 obtain ⟨af, p, hm⟩ := Zg hm
 refine QI (M := fun f' w' => (fun (af : Bool) => ∃ (aX : PHeap) , PHeap.le bV aX ∧ St w0 aX (Res.box c 26 [d, m, n, g] :: H) w' ∧ f' 1 = Vq c ∧ f' 44 = Vb af) af) ?_ ?_
 ·refine Zd (O Z Z (Zp Yg Z z Z (O Z Z (Zn (aq) A22 Z Z Z (O Z Z (Zp Qli Z z Z (O Z Z (Zn (aq) A22 Z Z Z ?_))))))))
  obtain ⟨cd, bP, p⟩ := Zg p
  refine O Z Z (Tc Z Z Z (Zi Z (Zi Z Ql)) (Qgy bP aq (u.mono (Zt a j)) (bb.mono (Zt a j))).r ?_)
  rintro _ cP ⟨bW, aj, ai, rfl⟩
  refine O Z Z (Exec.not Z Z (O Z Z (Zm (v := Vb (!cd)) Z Z ?_)))
  rcases Qg p with ⟨i, p⟩ | ⟨i, p⟩
  ·refine Qz 7 (by rw [i]; rfl) ?_
   refine Zb (V ?_)
   have cm := Zu p
   subst af
   exact ⟨bW, aj, ai, z, Z⟩
  replace i := Zk i
  refine Qo Z (Zf Z (Zx i)) Z (Zp Yg Z z Z (Qo Z (Zf Z (Zx i)) Z (Zn (ai) A22 Z Z Z (Qo Z (Zf Z (Zx i)) Z (Zp QjN Z z Z (Qo Z (Zf Z (Zx i)) Z (Zn (ai) A23 Z Z Z ?_)))))))
  obtain ⟨ce, bQ, p⟩ := Zg p
  refine Qo Z (Zf Z (Zx i)) Z (Tc Z Z Z (Zi Z (Zi Z Ql)) (YV bQ ai (u.mono (Zt (Zt a j) aj)) (bc.mono (Zt (Zt a j) aj))).r ?_)
  rintro _ cQ ⟨bX, bC, br, rfl⟩
  refine Qo Z (Zf Z (Zx i)) Z (Exec.not Z Z (O Z Z (QB (v := Vb (!ce)) Z (Zx i) Z (Zb (V ?_)))))
  have cn := Zu p
  subst af
  exact ⟨bX, (Zt aj bC), br, z, Z⟩
 intro cz cR bo
 obtain ⟨am, y, ar, aJ, aK⟩ := bo
 refine (V ?_)
 rcases Qg hm with ⟨ad, hm⟩ | ⟨ad, hm⟩
 ·refine Qt aK ad (Zc (Zd (O Z Z (Zo (v := Vb false) Z Z (Zb (V (Q0 (Qh ?_))))))))
  have co := Zu hm
  subst r
  refine ⟨_, QU Z, ?_⟩
  exact ⟨am, (Zt (Zt a j) y), ar.drop, Z⟩
 refine Qu aK ad ?_
 replace ad := Zk ad
 refine Qp (V (Zc (Zc (Zd (O Z Z (Zp YJ Z aJ Z (O Z Z (Zn (ar) A24 Z Z Z (O Z Z (Zr S24 Z Z (ag.mono (Zt (Zt a j) y)) (O Z Z (Zm (v := U 0) Z Z (Zb (V ?_))))))))))))))
 obtain ⟨a4, bg, b5, b1, bw⟩ := QK hm
 refine QI (M := fun f' w' => ∃ s', (a4 = .next s' ∨ a4 = .brk s') ∧ (fun (_ : Unit) => ∃ (aY : PHeap) , PHeap.le am aY ∧ St w0 aY (Res.box c 26 [d, m, n, g] :: H) w' ∧ f' 1 = Vq c ∧ f' 46 = g ∧ f' 47 = U ((b.Ops.length : Int))) s') ?_ ?_
 ·refine Qk (Jp (fun k' s' f' w' => (fun (_ : Unit) => ∃ (aZ : PHeap) , PHeap.le am aZ ∧ St w0 aZ (Res.box c 26 [d, m, n, g] :: H) w' ∧ f' 1 = Vq c ∧ f' 46 = g ∧ f' 47 = U ((b.Ops.length : Int)) ∧ f' 48 = U (k' : Int)) s') bg ?_ ?_ ?_)
  ·exact ⟨am, (Zv _), ar, aJ, Z, Z, Z⟩
  ·intro bA cE a5 c0 cS bz bj o b8
   obtain ⟨cA, ak, a7, aL, aM, aN, a1⟩ := bj
   refine Zc (Zd (O Z Z (Zq Z a1 aN (Zb (V (Zc (QG (Zx (decide_eq_true (by omega))) (Qp (V (Zc (Qk (Zc (Zd ?_)))))))))))))
   obtain ⟨aa, bR, o⟩ := Zg o
   refine O Z Z (Qq S24 Z aM a1 (ag.mono (Zt (Zt (Zt a j) y) ak)) bR ?_)
   intro cg c4 be
   refine O Z Z (Zw (E := encOp) a7 A60 Z Z Z be ?_)
   intro cI bS
   obtain ⟨az, a0, rfl, aP, aQ⟩ := Yu.1 bS
   refine O Z Z (Exec.alloc (cs := [Value.string (⟨#[]⟩), U 0, Vn, Vn]) a7 Z60 Z Z ?_)
   intro ch cT bs
   refine O Z Z (Qe (ds := [Value.string (aa.Name), U (aa.Cost), az, a0]) (es := [Value.string (aa.Name), U (aa.Cost), az, a0]) bs A60 Z Z Z Z (Zj Z (Zj Z (Zj aP.one (Zj aQ.one Q5)))) (Nat.le_of_ble_eq_true Z) Z ?_)
   intro cU au
   refine Zb (V (Zc (Zd (O Z Z (Zp Yg Z aL Z (O Z Z (Zn (au.f1) A22 Z Z Z (O Z Z (Qm (ds := [Value.string (aa.Name), U (aa.Cost), az, a0]) (au) A60 Z Z Z ?_)))))))))
   obtain ⟨cY, bT, o⟩ := Zg o
   refine O Z Z (Tc Z Z Z (Zi Z (Zi Z Ql)) (Qe5 bT au (u.mono (Zt (Zt (Zt a j) y) ak)) aP aQ).r ?_)
   rintro _ cV ⟨ba, aD, a8, rfl⟩
   refine O Z Z (Exec.not Z Z (Zb (V ?_)))
   rcases Qg o with ⟨ae, o⟩ | ⟨ae, o⟩
   ·refine Qt Z ae (Zc (Zd (O Z Z (Zo (v := Vb false) Z Z (Zb (V (Q0 (Q8 (Qh (Qh (Q8 (Qh (Qh ?_)))))))))))))
    have cp := Zu o
    subst a5
    have b3 := b5 _ (b8 (by intro _ h; cases h))
    have cq := Zu b3
    subst r
    refine ⟨_, QU Z, ?_⟩
    exact ⟨ba, (Zt (Zt (Zt (Zt a j) y) ak) aD), (a8.drop).drop, Z⟩
   refine Qu Z ae ?_
   replace ae := Zk ae
   refine Qp (Qy (V (Zd (O Z Z (Exec.add Z a1 Z (O Z Z (Zm (v := U (IntKind.i64.wrap ((bA : Int) + 1))) Z Z (Zb (V ?_)))))))))
   have cr := Zu o
   subst a5
   refine ⟨_, Z, ?_⟩; exact ⟨ba, (Zt ak aD), a8.drop, aL, aM, aN, (Eq.trans Z (Q9 bz (SliceRep.le (ag.mono (Zt (Zt a j) y)))))⟩
  intro cF c1 cW bk b9
  obtain ⟨bY, bD, bt, bL, bM, aO, cb⟩ := bk
  refine Zc (Zd (O Z Z (Zq Z cb aO (Zb (V (Zc (Q7 (Zx (decide_eq_false (by omega))) (QC (Qj (Qj (Q4 (V ?_))))))))))))
  refine ⟨_, .inl b9, ?_⟩; exact ⟨bY, bD, bt, bL, bM, aO⟩
 rintro c2 cX ⟨cG, aA, bp⟩
 have hm := aA.elim (b1 _) (bw _)
 clear aA
 obtain ⟨bZ, bE, bu, c7, c8, c9⟩ := bp
 refine (V (Zc (Zd (O Z Z (Zo (v := Vb true) Z Z (Zb (V (Q0 ?_))))))))
 have ct := Zu hm
 subst r
 refine ⟨_, QU Z, ?_⟩
 exact ⟨bZ, (Zt (Zt (Zt a j) y) bE), bu.drop, Z⟩
theorem QdE {w0 w : World} {s : PHeap} {H : List Res} {l : (List Int)} {a : Int} {g : Value} {r : Int} (hm : Y5 l a = some r) (hS : St w0 s (H) w) (n : SliceRep (Qa .i64) s g l) :
  Calls Tryz.prog 26 #[g, U a] w fun e w' => ∃ v, e = .returned v ∧ ((fun (a8 : Int) => ∃ (ab : PHeap) , PHeap.le s ab ∧ St w0 ab (H) w' ∧ v = U a8) r) := by
 unfold Y5 at hm
 refine Qx Tryz.func26 Z Z (Zc (Zd (O Z Z (Zo (v := U 0) Z Z (Zb (V (Zc (Zd (O Z Z (Zo (v := U 1) Z Z (Zb (V (Zc (Zc (Zd (O Z Z (Zm (v := g) Z Z (O Z Z (Zr Jt Z Z n (O Z Z (Zm (v := U 0) Z Z (Zb (V ?_)))))))))))))))))))))))
 obtain ⟨t, ag, aq, ao, am⟩ := QK hm
 refine QI (M := fun f' w' => ∃ s', (t = .next s' ∨ t = .brk s') ∧ (fun (i : Int) => ∃ (ac : PHeap) , PHeap.le s ac ∧ St w0 ac (H) w' ∧ f' 1 = U a ∧ f' 5 = U i ∧ f' 8 = g ∧ f' 9 = U ((l.length : Int))) s') ?_ ?_
 ·refine Qk (Jp (fun k' s' f' w' => (fun (c : Int) => ∃ (ad : PHeap) , PHeap.le s ad ∧ St w0 ad (H) w' ∧ f' 1 = U a ∧ f' 5 = U c ∧ f' 8 = g ∧ f' 9 = U ((l.length : Int)) ∧ f' 10 = U (k' : Int)) s') ag ?_ ?_ ?_)
  ·exact ⟨s, (Zv _), hS, Z, Z, Z, Z, Z⟩
  ·intro av c u aE aM an ah b ar
   obtain ⟨ae, p, o, j, ay, y, z, q⟩ := ah
   refine Zc (Zd (O Z Z (Zq Z q z (Zb (V (Zc (QG (Zx (decide_eq_true (by omega))) (Qp (V (Zc (Qk (Zc (Zd ?_)))))))))))))
   obtain ⟨m, a3, b⟩ := Zg b
   refine O Z Z (Qq Jt Z y q (n.mono p) a3 ?_)
   intro a9 aH af
   refine O Z Z (Zw (E := (Qa .i64)) o A3 Z Z Z af ?_)
   intro aL a4
   obtain rfl := Qr.1 a4
   refine O Z Z (Zo (v := U m) Z Z (Zb (V (Zc (Zd (O Z Z (Zm (v := U c) Z ay (O Z Z (Zm (v := U m) Z Z (O Z Z (Qcy Z Z Z (O Z Z (Zm (v := U a) Z j (O Z Z (Exec.add Z Z Z (O Z Z (QeQ Z Z Z (O Z Z (Exec.mul Z Z Z (O Z Z (Zo (v := U (IntKind.i64.wrap (c * (min (max m 0) (IntKind.i64.wrap (a + 1)))))) Z Z (Zb (V (Zc (Zd (O Z Z (Zm (v := U (IntKind.i64.wrap (c * (min (max m 0) (IntKind.i64.wrap (a + 1)))))) Z Z (O Z Z (Zm (v := U a) Z j (O Z Z (Exec.gtr Z Z Z (Zb (V ?_)))))))))))))))))))))))))))))))))
   rcases Qg b with ⟨d, b⟩ | ⟨d, b⟩
   ·refine Qt Z d (Zc (Zd (O Z Z (Zm (v := U a) Z j (O Z Z (Exec.add Z Z Z (O Z Z (Zo (v := U (IntKind.i64.wrap (a + 1))) Z Z (Zb (V (Q0 (Q8 (Qh (Qh (Q8 (Qh (Qh ?_)))))))))))))))))
    have aA := Zu b
    subst u
    have ap := aq _ (ar (by intro _ h; cases h))
    have aB := Zu ap
    subst r
    refine ⟨_, QU Z, ?_⟩
    exact ⟨ae, p, o, Z⟩
   refine Qu Z d ?_
   replace d := Zk d
   refine Qp (Qy (V (Zd (O Z Z (Exec.add Z q Z (O Z Z (Zm (v := U (IntKind.i64.wrap ((av : Int) + 1))) Z Z (Zb (V ?_)))))))))
   have aC := Zu b
   subst u
   refine ⟨_, Z, ?_⟩; exact ⟨ae, p, o, j, Z, y, z, (Eq.trans Z (Q9 an (SliceRep.le n)))⟩
  intro c aF aN ai au
  obtain ⟨a5, aw, ak, az, a0, a1, aa, a7⟩ := ai
  refine Zc (Zd (O Z Z (Zq Z a7 aa (Zb (V (Zc (Q7 (Zx (decide_eq_false (by omega))) (QC (Qj (Qj (Q4 (V ?_))))))))))))
  refine ⟨_, .inl au, ?_⟩; exact ⟨a5, aw, ak, az, a0, a1, aa⟩
 rintro aG aO ⟨i, x, aj⟩
 have hm := x.elim (ao _) (am _)
 clear x
 obtain ⟨a6, ax, al, aI, a2, aJ, aK⟩ := aj
 refine (V (Zc (Zd (O Z Z (Zm (v := U i) Z a2 (O Z Z (Zo (v := U i) Z Z (Zb (V (Q0 ?_))))))))))
 have aD := Zu hm
 subst r
 refine ⟨_, QU Z, ?_⟩
 exact ⟨a6, ax, al, Z⟩
theorem Qgz {w0 w : World} {s : PHeap} {H : List Res} {a : Task} {l : Value} {m : Value} {n : Value} {i : Value} {r : Bool} (hm : Qaw a = some r) (hS : St w0 s (H) w) (ab : SliceRep (Qa .i64) s l a.Vars) (a4 : SliceRep (Qa .i64) s m a.Init) (a5 : SliceRep encFact s n a.Goal) (q : SliceRep encOp s i a.Ops) :
  Calls Tryz.prog 30 #[Value.agg #[l, m, n, i]] w fun e w' => ∃ v, e = .returned v ∧ ((fun (bh : Bool) => ∃ (aw : PHeap) , PHeap.le s aw ∧ St w0 aw (H) w' ∧ v = Value.bool (bh)) r) := by
 unfold Qaw at hm
 refine Qx Tryz.func30 Z Z (Zc (Zd (O Z Z (Exec.box (cs := [l, m, n, i]) hS Z Z Z ?_))))
 intro o b5 y
 refine O Z Z (Zo (v := Vb false) Z Z (Zb (V (Zc (Zc (QI (M := fun f' w' => ∃ (ax : PHeap) , PHeap.le s ax ∧ St w0 ax (Res.box o 26 [l, m, n, i] :: H) w' ∧ f' 1 = Vq o ∧ f' 14 = Vb (((decide (12 < (a.Vars.length : Int))) || decide (20 < (a.Ops.length : Int))))) ?_ ?_))))))
 ·refine Zd (O Z Z (Zp Yg Z Z Z (O Z Z (Zn (y) A22 Z Z Z (O Z Z (Zr Jt Z Z ab (O Z Z (Exec.gtr Z Z Z (O Z Z (Zm (v := Vb (decide (12 < (a.Vars.length : Int)))) Z Z ?_))))))))))
  by_cases c : (decide (12 < (a.Vars.length : Int))) = true
  ·refine Qz 5 (by rw [c]; rfl) ?_
   refine Zb (V ?_)
   exact ⟨s, (Zv _), y, Z, (Zx (QdY c)).symm⟩
  replace c := Zk c
  refine Qo Z (Zf Z (Zx c)) Z (Zp YJ Z Z Z (Qo Z (Zf Z (Zx c)) Z (Zn (y) A24 Z Z Z (Qo Z (Zf Z (Zx c)) Z (Zr S24 Z Z q (Qo Z (Zf Z (Zx c)) Z (Exec.gtr Z Z Z (O Z Z (QB (v := Vb (decide (20 < (a.Ops.length : Int)))) Z (Zx c) Z (Zb (V ?_)))))))))))
  exact ⟨s, (Zv _), y, Z, (Zx (Qak c)).symm⟩
 intro bs b6 aA
 obtain ⟨z, b, ac, an, ao⟩ := aA
 refine (V ?_)
 rcases Qg hm with ⟨t, hm⟩ | ⟨t, hm⟩
 ·refine Qt ao t (Zc (Zd (O Z Z (Zo (v := Vb false) Z Z (Zb (V (Q0 (Qh ?_))))))))
  have bl := Zu hm
  subst r
  refine ⟨_, QU Z, ?_⟩
  exact ⟨z, b, ac.drop, Z⟩
 refine Qu ao t ?_
 replace t := Zk t
 refine Qp (V (Zc (Zc (Zd (O Z Z (Zp YJ Z an Z (O Z Z (Zn (ac) A24 Z Z Z (O Z Z (Zr S24 Z Z (q.mono b) (O Z Z (Zm (v := U 0) Z Z (Zb (V ?_))))))))))))))
 obtain ⟨ai, a7, aL, aJ, aH⟩ := QK hm
 refine QI (M := fun f' w' => ∃ s', (ai = .next s' ∨ ai = .brk s') ∧ (fun (_ : Unit) => ∃ (ay : PHeap) , PHeap.le z ay ∧ St w0 ay (Res.box o 26 [l, m, n, i] :: H) w' ∧ f' 1 = Vq o ∧ f' 16 = i ∧ f' 17 = U ((a.Ops.length : Int))) s') ?_ ?_
 ·refine Qk (Jp (fun k' s' f' w' => (fun (_ : Unit) => ∃ (az : PHeap) , PHeap.le z az ∧ St w0 az (Res.box o 26 [l, m, n, i] :: H) w' ∧ f' 1 = Vq o ∧ f' 16 = i ∧ f' 17 = U ((a.Ops.length : Int)) ∧ f' 18 = U (k' : Int)) s') a7 ?_ ?_ ?_)
  ·exact ⟨z, (Zv _), ac, an, Z, Z, Z⟩
  ·intro aO b1 aj bt b7 aI a8 j aM
   obtain ⟨a0, af, ak, aS, ap, aq, ah⟩ := a8
   refine Zc (Zd (O Z Z (Zq Z ah aq (Zb (V (Zc (QG (Zx (decide_eq_true (by omega))) (Qp (V (Zc (Qk (Zc (Zd ?_)))))))))))))
   obtain ⟨aa, aW, j⟩ := Zg j
   refine O Z Z (Qq S24 Z ap ah (q.mono (Zt b af)) aW ?_)
   intro bj bx a6
   refine O Z Z (Zw (E := encOp) ak A60 Z Z Z a6 ?_)
   intro b4 aX
   obtain ⟨a2, a3, rfl, ba, av⟩ := Yu.1 aX
   refine O Z Z (Exec.alloc (cs := [Value.string (⟨#[]⟩), U 0, Vn, Vn]) ak Z60 Z Z ?_)
   intro bk b8 aD
   refine O Z Z (Qe (ds := [Value.string (aa.Name), U (aa.Cost), a2, a3]) (es := [Value.string (aa.Name), U (aa.Cost), a2, a3]) aD A60 Z Z Z Z (Zj Z (Zj Z (Zj ba.one (Zj av.one Q5)))) (Nat.le_of_ble_eq_true Z) Z ?_)
   intro b9 ad
   refine Zb (V (Zc (Zd (O Z Z (Zp Qd8 Z Z Z (O Z Z (Zn (ad) A58 Z Z Z (O Z Z (Zr S58 Z Z av (O Z Z (Exec.gtr Z Z Z (Zb (V ?_)))))))))))))
   rcases Qg j with ⟨u, j⟩ | ⟨u, j⟩
   ·refine Qt Z u (Zc (Zd (O Z Z (Zo (v := Vb false) Z Z (Zb (V (Q0 (Q8 (Qh (Qh (Q8 (Qh (Qh ?_)))))))))))))
    have bm := Zu j
    subst aj
    have aK := aL _ (aM (by intro _ h; cases h))
    have bn := Zu aK
    subst r
    refine ⟨_, QU Z, ?_⟩
    exact ⟨a0, (Zt b af), (ad.drop).drop, Z⟩
   refine Qu Z u ?_
   replace u := Zk u
   refine Qp (Qy (V (Zd (O Z Z (Exec.add Z ah Z (O Z Z (Zm (v := U (IntKind.i64.wrap ((aO : Int) + 1))) Z Z (Zb (V ?_)))))))))
   have bo := Zu j
   subst aj
   refine ⟨_, Z, ?_⟩; exact ⟨a0, af, ad.drop, aS, ap, aq, (Eq.trans Z (Q9 aI (SliceRep.le (q.mono b))))⟩
  intro b2 bu bA a9 aN
  obtain ⟨bb, aP, aE, aT, aU, ar, bg⟩ := a9
  refine Zc (Zd (O Z Z (Zq Z bg ar (Zb (V (Zc (Q7 (Zx (decide_eq_false (by omega))) (QC (Qj (Qj (Q4 (V ?_))))))))))))
  refine ⟨_, .inl aN, ?_⟩; exact ⟨bb, aP, aE, aT, aU, ar⟩
 rintro bv bB ⟨b3, am, aB⟩
 have hm := am.elim (aJ _) (aH _)
 clear am
 obtain ⟨bc, p, al, au, bz, b0⟩ := aB
 refine (V (Zc ?_))
 obtain ⟨x, g, hm⟩ := Zg hm
 refine QI (M := fun f' w' => (fun (x : Bool) => ∃ (a1 : PHeap) , PHeap.le bc a1 ∧ St w0 a1 (H) w' ∧ f' 2 = Vb x) x) ?_ ?_
 ·refine Zd (O Z Z (Qm (ds := [l, m, n, i]) (al) A26 Z au Z ?_))
  obtain ⟨bi, aY, g⟩ := Zg g
  refine O Z Z (Tc Z Z Z (Zi Z Ql) (QgN aY al (ab.mono (Zt b p)) (a4.mono (Zt b p)) (a5.mono (Zt b p)) (q.mono (Zt b p))).r ?_)
  rintro _ bC ⟨bd, ag, ae, rfl⟩
  refine O Z Z (Zm (v := Vb bi) Z Z ?_)
  rcases Qg g with ⟨d, g⟩ | ⟨d, g⟩
  ·refine Qo Z (Zf Z (Zx d)) Z (Zp Yg Z au Z (Qo Z (Zf Z (Zx d)) Z (Zn (ae) A22 Z Z Z ?_)))
   obtain ⟨bF, aZ, g⟩ := Zg g
   refine Qo Z (Zf Z (Zx d)) Z (Tc Z Z Z (Zi Z (Zi Z Ql)) (QdE aZ ae (ab.mono (Zt (Zt b p) ag))).r ?_)
   rintro _ bD ⟨be, aQ, aF, rfl⟩
   refine Qo Z (Zf Z (Zx d)) Z (Exec.leq Z Z Z ?_)
   refine Qz 2 (by rw [d]; rfl) ?_
   refine Zb (V ?_)
   have bp := Zu g
   subst x
   exact ⟨be, (Zt ag aQ), aF.drop, Z⟩
  replace d := Zk d
  refine Qz 6 (by rw [d]; rfl) ?_
  refine Zb (V ?_)
  have bq := Zu g
  subst x
  exact ⟨bd, ag, ae.drop, Z⟩
 intro bw bE aC
 obtain ⟨bf, aR, aG, aV⟩ := aC
 refine (V (Q0 ?_))
 have br := Zu hm
 subst r
 refine ⟨_, QU Z, ?_⟩
 exact ⟨bf, (Zt (Zt b p) aR), aG, aV⟩
theorem QgL {w0 w : World} {s : PHeap} {H : List Res} {j : Task} {k : Value} {l : Value} {m : Value} {n : Value} {r : Bool} (hm : QaZ j = some r) (hS : St w0 s (H) w) (o : SliceRep (Qa .i64) s k j.Vars) (ab : SliceRep (Qa .i64) s l j.Init) (ac : SliceRep encFact s m j.Goal) (t : SliceRep encOp s n j.Ops) :
  Calls Tryz.prog 11 #[Value.agg #[k, l, m, n]] w fun e w' => ∃ v, e = .returned v ∧ ((fun (ak : Bool) => ∃ (x : PHeap) , PHeap.le s x ∧ St w0 x (H) w' ∧ v = Value.bool (ak)) r) := by
 unfold QaZ at hm
 refine Qx Tryz.func11 Z Z (Zc (Zd (O Z Z (Exec.box (cs := [k, l, m, n]) hS Z Z Z ?_))))
 intro am av u
 refine O Z Z (Zo (v := Vb false) Z Z (Zb (V (Zc ?_))))
 obtain ⟨h, a, hm⟩ := Zg hm
 refine QI (M := fun f' w' => (fun (h : Bool) => ∃ (y : PHeap) , PHeap.le s y ∧ St w0 y (H) w' ∧ f' 2 = Vb h) h) ?_ ?_
 ·refine Zd (O Z Z (Qm (ds := [k, l, m, n]) (u) A26 Z Z Z ?_))
  obtain ⟨al, ah, a⟩ := Zg a
  refine O Z Z (Tc Z Z Z (Zi Z Ql) (Qgz ah u o ab ac t).r ?_)
  rintro _ aw ⟨z, g, i, rfl⟩
  refine O Z Z (Zm (v := Vb al) Z Z ?_)
  rcases Qg a with ⟨b, a⟩ | ⟨b, a⟩
  ·refine Qo Z (Zf Z (Zx b)) Z (Zp Yg Z Z Z (Qo Z (Zf Z (Zx b)) Z (Zn (i) A22 Z Z Z (Qo Z (Zf Z (Zx b)) Z (Zr Jt Z Z (o.mono g) (Qo Z (Zf Z (Zx b)) Z (Exec.gtr Z Z Z ?_)))))))
   refine Qz 2 (by rw [b]; rfl) ?_
   rcases Qg a with ⟨c, a⟩ | ⟨c, a⟩
   ·refine Qo Z (Zf Z (Zx c)) Z (Zp Yg Z Z Z (Qo Z (Zf Z (Zx c)) Z (Zn (i) A22 Z Z Z ?_)))
    obtain ⟨az, ai, a⟩ := Zg a
    refine Qo Z (Zf Z (Zx c)) Z (Tc Z Z Z (Zi Z (Zi Z Ql)) (QdE ai i (o.mono g)).r ?_)
    rintro _ ax ⟨aa, q, p, rfl⟩
    refine Qo Z (Zf Z (Zx c)) Z (Exec.leq Z Z Z ?_)
    refine Qz 2 (by rw [c]; rfl) ?_
    rcases Qg a with ⟨d, a⟩ | ⟨d, a⟩
    ·refine Qo Z (Zf Z (Zx d)) Z (Zp YJ Z Z Z (Qo Z (Zf Z (Zx d)) Z (Zn (p) A24 Z Z Z (Qo Z (Zf Z (Zx d)) Z (Zr S24 Z Z (t.mono (Zt g q)) (Qo Z (Zf Z (Zx d)) Z (Exec.leq Z Z Z ?_)))))))
     refine Qz 2 (by rw [d]; rfl) ?_
     refine Zb (V ?_)
     have an := Zu a
     subst h
     exact ⟨aa, (Zt g q), p.drop, Z⟩
    replace d := Zk d
    refine Qz 6 (by rw [d]; rfl) ?_
    refine Zb (V ?_)
    have ao := Zu a
    subst h
    exact ⟨aa, (Zt g q), p.drop, Z⟩
   replace c := Zk c
   refine Qz 12 (by rw [c]; rfl) ?_
   refine Zb (V ?_)
   have ap := Zu a
   subst h
   exact ⟨z, g, i.drop, Z⟩
  replace b := Zk b
  refine Qz 18 (by rw [b]; rfl) ?_
  refine Zb (V ?_)
  have aq := Zu a
  subst h
  exact ⟨z, g, i.drop, Z⟩
 intro au ay ad
 obtain ⟨aj, af, ae, ag⟩ := ad
 refine (V (Q0 ?_))
 have ar := Zu hm
 subst r
 refine ⟨_, QU Z, ?_⟩
 exact ⟨aj, af, ae, ag⟩
theorem Qfq {w0 w : World} {s : PHeap} {H : List Res} {t : (List Int)} {c : Int} {a : Value} {r : Bool} (hm : YP t c = some r) (hS : St w0 s (H) w) (q : SliceRep (Qa .i64) s a t) :
  Calls Tryz.prog 12 #[a, U c] w fun e w' => ∃ v, e = .returned v ∧ ((fun (bm : Bool) => ∃ (ar : PHeap) , PHeap.le s ar ∧ St w0 ar (H) w' ∧ v = Value.bool (bm)) r) := by
 unfold YP at hm
 refine Qx Tryz.func12 Z Z (Zc (Zd (O Z Z (Zo (v := Vb false) Z Z (Zb (V (Zc (Zc (Zd (O Z Z (Zm (v := a) Z Z (O Z Z (Zr Jt Z Z q (O Z Z (Zm (v := U c) Z Z (O Z Z (Exec.neq Z Z Z (Zb (V ?_)))))))))))))))))))
 rcases Qg hm with ⟨i, hm⟩ | ⟨i, hm⟩
 ·refine Qt Z i (Zc (Zd (O Z Z (Zo (v := Vb false) Z Z (Zb (V (Q0 (Qh ?_))))))))
  have bo := Zu hm
  subst r
  refine ⟨_, QU Z, ?_⟩
  exact ⟨s, (Zv _), hS, Z⟩
 refine Qu Z i ?_
 replace i := Zk i
 refine Qp (V (Zc (Zc (Zd (O Z Z (Zm (v := U c) Z Z (O Z Z (Zm (v := U 0) Z Z (Zb (V ?_))))))))))
 obtain ⟨bB, bd, hm⟩ := Zg hm
 obtain ⟨ad, a2, aJ, aH, aE⟩ := QK hm
 refine QI (M := fun f' w' => ∃ s', (ad = .next s' ∨ ad = .brk s') ∧ (fun (_ : Unit) => ∃ (au : PHeap) , PHeap.le s au ∧ St w0 au (H) w' ∧ f' 0 = a ∧ f' 13 = U c) s') ?_ ?_
 ·refine Qk (Jp (fun k' s' f' w' => (fun (_ : Unit) => ∃ (av : PHeap) , PHeap.le s av ∧ St w0 av (H) w' ∧ f' 0 = a ∧ f' 13 = U c ∧ f' 14 = U (k' : Int)) s') a2 ?_ ?_ ?_)
  ·exact ⟨s, (Zv _), hS, Z, Z, Z⟩
  ·intro b b8 ae bw bD aF a4 d aK
   obtain ⟨aw, o, aA, ak, al, ac⟩ := a4
   refine Zc (Zd (O Z Z (Zq Z ac al (Zb (V (Zc (QG (Zx (decide_eq_true (by omega))) (Qp (V (Zc (Qk (Zc (Zd (O Z Z (Zm (v := U ((b : Int))) Z ac (O Z Z (Zo (v := U ((b : Int))) Z Z (Zb (V (Zc (Zd (O Z Z (Zo (v := U 0) Z Z (Zb (V (Zc (Zc (Zd (O Z Z (Zm (v := a) Z ak (O Z Z (Zr Jt Z Z (q.mono o) (O Z Z (Zm (v := U 0) Z Z (Zb (V ?_))))))))))))))))))))))))))))))))))))
   obtain ⟨g, a3, d⟩ := Zg d
   refine Qk (J0 (fun k' s' f' w' => (fun (g : Int) => ∃ (ax : PHeap) , PHeap.le aw ax ∧ St w0 ax (H) w' ∧ f' 0 = a ∧ f' 5 = U ((b : Int)) ∧ f' 6 = U g ∧ f' 13 = U c ∧ f' 14 = U ((b : Int)) ∧ f' 17 = a ∧ f' 18 = U ((t.length : Int)) ∧ f' 19 = U (k' : Int)) s') a3 ?_ ?_ ?_)
   ·exact ⟨aw, (Zv _), aA, ak, Z, Z, al, ac, Z, Z, Z⟩
   ·intro ah g bg bx bE aG a5 m
    obtain ⟨ab, ai, x, am, y, an, ao, ap, z, aa, u⟩ := a5
    refine Zc (Zd (O Z Z (Zq Z u aa (Zb (V (Zc (QG (Zx (decide_eq_true (by omega))) (Qp (V (Zc (Qk (Zc (Zd ?_)))))))))))))
    obtain ⟨a0, be, m⟩ := Zg m
    refine O Z Z (Qq Jt Z z u (q.mono (Zt o ai)) be ?_)
    intro bn b3 a1
    refine O Z Z (Zw (E := (Qa .i64)) x A3 Z Z Z a1 ?_)
    intro bC bf
    obtain rfl := Qr.1 bf
    refine O Z Z (Zo (v := U a0) Z Z (Zb (V (Zc (Zd (O Z Z (Zm (v := U ((b : Int))) Z y (O Z Z (Zm (v := U a0) Z Z (O Z Z (Exec.eql Z Z Z (Zb (V ?_)))))))))))))
    obtain ⟨p, n, m⟩ := Zg m
    refine QI (M := fun f' w' => (fun (p : Int) => ∃ (ay : PHeap) , PHeap.le ab ay ∧ St w0 ay (H) w' ∧ f' 0 = a ∧ f' 5 = U ((b : Int)) ∧ f' 6 = U p ∧ f' 13 = U c ∧ f' 14 = U ((b : Int)) ∧ f' 17 = a ∧ f' 18 = U ((t.length : Int)) ∧ f' 19 = U ((ah : Int))) p) ?_ ?_
    ·rcases Qg n with ⟨j, n⟩ | ⟨j, n⟩
     ·refine Qt Z j (Zd (O Z Z (Zm (v := U g) Z an (O Z Z (Exec.add Z Z Z (O Z Z (Zo (v := U (IntKind.i64.wrap (g + 1))) Z Z (Zb (V ?_)))))))))
      have bp := Zu n
      subst p
      exact ⟨ab, (Zv _), x, am, y, Z, ao, ap, z, aa, u⟩
     refine Qu Z j ?_
     replace j := Zk j
     refine Qp (V ?_)
     have bq := Zu n
     subst p
     exact ⟨ab, (Zv _), x, am, y, an, ao, ap, z, aa, u⟩
    intro bz bF a8
    obtain ⟨bh, aM, aB, aP, aQ, aR, aS, aT, aU, aV, aW⟩ := a8
    refine (Qy (V (Zd (O Z Z (Exec.add Z aW Z (O Z Z (Zm (v := U (IntKind.i64.wrap ((ah : Int) + 1))) Z Z (Zb (V ?_)))))))))
    have br := Zu m
    subst bg
    exact ⟨bh, (Zt ai aM), aB, aP, aQ, aR, aS, aT, aU, aV, (Eq.trans Z (Q9 aG (SliceRep.le (q.mono o))))⟩
   intro b0 bG a6
   obtain ⟨az, aj, af, aX, b4, aY, aZ, ba, b5, bb, bk⟩ := a6
   refine Zc (Zd (O Z Z (Zq Z bk bb (Zb (V (Zc (Q7 (Zx (decide_eq_false (by omega))) (QC (Qj (Qj (Q4 (V (Zc (Zd (O Z Z (Zm (v := U g) Z aY (O Z Z (Exec.neq Z Z Z (Zb (V ?_))))))))))))))))))))
   rcases Qg d with ⟨l, d⟩ | ⟨l, d⟩
   ·refine Qt Z l (Zc (Zd (O Z Z (Zo (v := Vb false) Z Z (Zb (V (Q0 (Q8 (Qh (Qh (Q8 (Qh (Qh ?_)))))))))))))
    have bs := Zu d
    subst ae
    have aI := aJ _ (aK (by intro _ h; cases h))
    have bt := Zu aI
    subst r
    refine ⟨_, QU Z, ?_⟩
    exact ⟨az, (Zt o aj), af, Z⟩
   refine Qu Z l ?_
   replace l := Zk l
   refine Qp (Qy (V (Zd (O Z Z (Exec.add Z ba Z (O Z Z (Zm (v := U (IntKind.i64.wrap ((b : Int) + 1))) Z Z (Zb (V ?_)))))))))
   have bu := Zu d
   subst ae
   refine ⟨_, Z, ?_⟩; exact ⟨az, (Zt o aj), af, aX, aZ, (Eq.trans Z (Q9 aF (by have h := QF bd; simp at h; simp only [maxLen]; omega)))⟩
  intro b9 b1 bH a7 aL
  obtain ⟨bi, aN, aC, bc, aq, bl⟩ := a7
  refine Zc (Zd (O Z Z (Zq Z bl aq (Zb (V (Zc (Q7 (Zx (decide_eq_false (by omega))) (QC (Qj (Qj (Q4 (V ?_))))))))))))
  refine ⟨_, .inl aL, ?_⟩; exact ⟨bi, aN, aC, bc, aq⟩
 rintro b2 bI ⟨bA, ag, a9⟩
 have hm := ag.elim (aH _) (aE _)
 clear ag
 obtain ⟨bj, aO, aD, b6, b7⟩ := a9
 refine (V (Zc (Zd (O Z Z (Zo (v := Vb true) Z Z (Zb (V (Q0 ?_))))))))
 have bv := Zu hm
 subst r
 refine ⟨_, QU Z, ?_⟩
 exact ⟨bj, aO, aD, Z⟩
theorem Qbn {w0 w : World} {s : PHeap} {H : List Res} {o : (List Int)} {l : Value} {r : (List (List Int))} (hm : KU o = some r) (hS : St w0 s (H) w) (x : SliceRep (Qa .i64) s l o) :
  Calls Tryz.prog 18 #[l] w fun e w' => ∃ v, e = .returned v ∧ ((fun (bZ : (List (List Int))) => ∃ (ad : PHeap) (a4 : Value), PHeap.le s ad ∧ St w0 ad (H) w' ∧ v = a4 ∧ SliceRep (QE (Qa .i64)) ad a4 bZ) r) := by
 unfold KU at hm
 refine Qx Tryz.func18 Z Z (Zc (Zd (O Z Z (Zo (v := Vn) Z Z (Zb (V (Zc (Zd (O Z Z (Exec.buildSlice (Te := 3) (cs := []) hS Z Qw (fun _ => by kernel_rfl) ?_))))))))))
 intro y c3 aG
 have aH := St.boxArr (E := (Qa .i64)) (xs := []) aG rfl (by simp [maxLen])
 obtain ⟨ay, t, aI, bL⟩ := aH.freezeArr
 refine O Z Z (Exec.buildSlice (Te := 22) (cs := [Vs (some ⟨y, 0, none⟩) 0 0]) aI Z (Qb (c := [Vs (some ⟨y, 0, none⟩) 0 0]) (Qi Z Z) Qw) (fun _ => by kernel_rfl) ?_)
 intro aj c4 aJ
 refine O Z Z (Zo (v := Vs (some ⟨aj, 0, none⟩) 1 1) Z Z (Zb (V (Zc (Zc (Zd (O Z Z (Zm (v := l) Z Z (O Z Z (Zr Jt Z Z (x.mono t) (O Z Z (Zm (v := U 0) Z Z (Zb (V ?_))))))))))))))
 obtain ⟨j, a7, hm⟩ := Zg hm
 refine Qk (J0 (fun k' s' f' w' => (fun (j : (List (List Int))) => ∃ (az : PHeap) (a : Value), PHeap.le ay az ∧ St w0 az (Res.arr (QE (Qa .i64)) 22 a j :: H) w' ∧ f' 3 = a ∧ f' 12 = l ∧ f' 13 = U ((o.length : Int)) ∧ f' 14 = U (k' : Int)) s') a7 ?_ ?_ ?_)
 ·have aK := St.boxArr (E := (QE (Qa .i64))) (xs := [[]]) aJ ⟨[Vs (some ⟨y, 0, none⟩) 0 0], [], rfl, ⟨_, rfl, bL⟩, rfl⟩ (by simp [maxLen])
  exact ⟨ay, (Vs (some ⟨aj, 0, none⟩) 1 1), (Zv _), aK, Z, Z, Z, Z⟩
 ·intro aa j bO cj c5 ba aA n
  obtain ⟨a0, a, am, q, bk, ao, ap, ag⟩ := aA
  refine Zc (Zd (O Z Z (Zq Z ag ap (Zb (V (Zc (QG (Zx (decide_eq_true (by omega))) (Qp (V (Zc (Qk (Zc (Zd ?_)))))))))))))
  obtain ⟨p, bE, n⟩ := Zg n
  refine O Z Z (Qq Jt Z ao ag (x.mono (Zt t am)) bE ?_)
  intro ca ct a6
  refine O Z Z (Zw (E := (Qa .i64)) q A3 Z Z Z a6 ?_)
  intro c1 bF
  obtain rfl := Qr.1 bF
  refine O Z Z (Zo (v := U p) Z Z (Zb (V (Zc (Zd (O Z Z (Zo (v := Vn) Z Z (Zb (V (Zc (Zc (Zd (O Z Z (Zm (v := a) Z bk (O Z Z (QR (q) S44 Z Z (O Z Z (Zm (v := U 0) Z Z (Zb (V ?_))))))))))))))))))))
  obtain ⟨ac, a8, n⟩ := Zg n
  refine Qk (J0 (fun k' s' f' w' => (fun (ac : (List (List Int))) => ∃ (a1 : PHeap) (d : Value), PHeap.le a0 a1 ∧ St w0 a1 (Res.arr (QE (Qa .i64)) 22 d ac :: Res.arr (QE (Qa .i64)) 22 a j :: H) w' ∧ f' 5 = U p ∧ f' 6 = d ∧ f' 12 = l ∧ f' 13 = U ((o.length : Int)) ∧ f' 14 = U ((aa : Int)) ∧ f' 18 = a ∧ f' 19 = U ((j.length : Int)) ∧ f' 20 = U (k' : Int)) s') a8 ?_ ?_ ?_)
  ·have aL := q.nilArr (QE (Qa .i64)) 22
   exact ⟨a0, Vn, (Zv _), (aL.f1).f1, Z, Z, ao, ap, ag, Z, Z, Z⟩
  ·intro al ac bP ck c6 bb aB g
   obtain ⟨a2, d, bd, z, aq, bl, bm, bn, bo, ar, au, ah⟩ := aB
   refine Zc (Zd (O Z Z (Zq Z ah au (Zb (V (Zc (QG (Zx (decide_eq_true (by omega))) (Qp (V (Zc (Qk (Zc (Zd ?_)))))))))))))
   obtain ⟨bV, u, g⟩ := Zg g
   obtain ⟨cp, ce, ak⟩ := (z.f1).arr_at u
   refine O Z Z (Qd S44 Z (Eq.trans ar ak) ah (Qf u).1 (Qf u).2.1 (O Z Z (Qv (F := (QE (Qa .i64))) (z.f1) ak A22 Z Z Z u (Sub.refl _) ?_)))
   intro ae bG
   have bM := Jy.1 bG
   refine O Z Z (Zo (v := ae) Z Z (Zb (V (Zc (Zd (O Z Z (Zm (v := U p) Z aq (O Z Z (Zm (v := U 0) Z Z (Zb (V ?_)))))))))))
   obtain ⟨c0, bH, g⟩ := Zg g
   obtain ⟨ab, a9, g⟩ := Zg g
   refine Qk (J0 (fun k' s' f' w' => (fun (ab : (List (List Int))) => ∃ (a3 : PHeap) (m : Value), PHeap.le a2 a3 ∧ St w0 a3 (Res.arr (QE (Qa .i64)) 22 m ab :: Res.arr (QE (Qa .i64)) 22 a j :: H) w' ∧ f' 5 = U p ∧ f' 6 = m ∧ f' 8 = ae ∧ f' 12 = l ∧ f' 13 = U ((o.length : Int)) ∧ f' 14 = U ((aa : Int)) ∧ f' 18 = a ∧ f' 19 = U ((j.length : Int)) ∧ f' 20 = U ((al : Int)) ∧ f' 24 = U p ∧ f' 25 = U (k' : Int)) s') a9 ?_ ?_ ?_)
   ·have aM := z.f1
    exact ⟨a2, d, (Zv _), aM.f1, aq, bl, Z, bm, bn, bo, ar, au, ah, Z, Z⟩
   ·intro b ab bQ cl c7 bc aC i
    obtain ⟨cy, m, an, aN, bp, bq, av, br, bs, bt, bu, bv, bw, aw, ai⟩ := aC
    refine Zc (Zd (O Z Z (Zq Z ai aw (Zb (V (Zc (QG (Zx (decide_eq_true (by omega))) (Qp (V (Zc (Qk (Zc (Zd (O Z Z (Zm (v := U ((b : Int))) Z ai (O Z Z (Zo (v := U ((b : Int))) Z Z (Zb (V (Zd (O Z Z (Zm (v := m) Z bq (O Z Z (Exec.buildSlice (Te := 3) (cs := []) aN Z Qw (fun _ => by kernel_rfl) ?_))))))))))))))))))))))))
    intro cb c8 aO
    refine O Z Z (Zm (v := ae) Z av ?_)
    have aP := St.boxArr (E := (Qa .i64)) (xs := []) aO rfl (by simp [maxLen])
    obtain ⟨cq, bI, i⟩ := Zg i
    refine O Z Z (Qbo (E := (Qa .i64)) (ys := bV) aP Jt Z3 Z (by decide) Z Z Z (bM.mono an) bI ?_)
    intro c2 c9 aQ
    refine O Z Z (Zm (v := U ((b : Int))) Z Z (O Z Z (Exec.buildSlice (Te := 3) (cs := [U ((b : Int))]) aQ Z (Qb (c := [U ((b : Int))]) (Qi Z Z) Qw) (fun _ => by kernel_rfl) ?_)))
    intro cc cA aR
    obtain ⟨be, bJ, i⟩ := Zg i
    refine O Z Z (QT (E := (Qa .i64)) (ys := [(b : Int)]) aR.f1 Jt Z3 Z (by decide) Z Z Z Z ⟨[U ((b : Int))], [], Z, Z, Z⟩ Z bJ ?_)
    intro af cB aS
    obtain ⟨bR, bf, aT, ax⟩ := aS.freezeArr
    refine O Z Z (Exec.buildSlice (Te := 22) (cs := [af]) aT Z (Qb (c := [af]) (Qi Z (QX ax.one)) Qw) (fun _ => by kernel_rfl) ?_)
    intro cd cC aU
    obtain ⟨cr, bK, i⟩ := Zg i
    refine O Z Z (QT (E := (QE (Qa .i64))) (ys := [be]) aU.f1 S44 Z22 Z (by decide) Z Z Z Z ⟨[af], [], Z, ⟨_, Z, ax⟩, Z⟩ Z bK ?_)
    intro a5 cD aV
    refine O Z Z (Zo (v := a5) Z Z (Zb (Qy (V (Zd (O Z Z (Exec.add Z ai Z (O Z Z (Zm (v := U (IntKind.i64.wrap ((b : Int) + 1))) Z Z (Zb (V ?_)))))))))))
    have cf := Zu i
    subst bQ
    exact ⟨bR, a5, (Zt an bf), (aV.f1).f1, bp, Z, av, br, bs, bt, bu, bv, bw, aw, (Eq.trans Z (Q9 bc (by have h := QF bH; simp at h; simp only [maxLen]; omega)))⟩
   intro cm cE aD
   obtain ⟨bS, m, bg, aW, bx, bz, cu, b0, b1, b2, b3, b4, b5, b6, bW⟩ := aD
   refine Zc (Zd (O Z Z (Zq Z bW b6 (Zb (V (Zc (Q7 (Zx (decide_eq_false (by omega))) (QC (Qj (Qj (Q4 (Qy (V (Zd (O Z Z (Exec.add Z b5 Z (O Z Z (Zm (v := U (IntKind.i64.wrap ((al : Int) + 1))) Z Z (Zb (V ?_))))))))))))))))))))
   have cg := Zu g
   subst bP
   exact ⟨bS, m, (Zt bd bg), (aW.f1).f1, bx, bz, b0, b1, b2, b3, b4, (Eq.trans Z (Q9 bb q.arr_le))⟩
  intro cn cF aE
  obtain ⟨bT, d, bh, aX, cv, b7, b8, b9, bA, cw, bB, bX⟩ := aE
  refine Zc (Zd (O Z Z (Zq Z bX bB (Zb (V (Zc (Q7 (Zx (decide_eq_false (by omega))) (QC (Qj (Qj (Q4 (V (Zd (O Z Z (Zm (v := d) Z b7 (O Z Z (Zo (v := d) Z Z (Zb (Qy (V (Zd (O Z Z (Exec.add Z bA Z (O Z Z (Zm (v := U (IntKind.i64.wrap ((aa : Int) + 1))) Z Z (Zb (V ?_)))))))))))))))))))))))))))
  have ch := Zu n
  subst bO
  exact ⟨bT, d, (Zt am bh), (aX.f1).drop, Z, b8, b9, (Eq.trans Z (Q9 ba (SliceRep.le (x.mono t))))⟩
 intro co cG aF
 obtain ⟨cz, a, bi, aY, bC, cx, bD, bY⟩ := aF
 refine Zc (Zd (O Z Z (Zq Z bY bD (Zb (V (Zc (Q7 (Zx (decide_eq_false (by omega))) (QC (Qj (Qj (Q4 (V (Zc (Zd (O Z Z (Zm (v := a) Z bC (O Z Z (Zo (v := a) Z Z (Zb (V (Q0 ?_)))))))))))))))))))))
 have ci := Zu hm
 subst r
 refine ⟨_, QU Z, ?_⟩
 obtain ⟨bU, bj, aZ, bN⟩ := aY.freezeArr
 exact ⟨bU, a, (Zt (Zt t bi) bj), aZ, Z, bN⟩
theorem QbH {w0 w : World} {s : PHeap} {H : List Res} {n : (List Fact)} {z : (List Int)} {l : Value} {j : Value} {r : Bool} (hm : Yi n z = some r) (hS : St w0 s (H) w) (aa : SliceRep encFact s l n) (ab : SliceRep (Qa .i64) s j z) :
  Calls Tryz.prog 22 #[l, j] w fun e w' => ∃ v, e = .returned v ∧ ((fun (aQ : Bool) => ∃ (al : PHeap) , PHeap.le s al ∧ St w0 al (H) w' ∧ v = Value.bool (aQ)) r) := by
 unfold Yi at hm
 refine Qx Tryz.func22 Z Z (Zc (Zd (O Z Z (Zo (v := Vb false) Z Z (Zb (V (Zc (Zc (Zd (O Z Z (Zm (v := l) Z Z (O Z Z (Zr S23 Z Z aa (O Z Z (Zm (v := U 0) Z Z (Zb (V ?_)))))))))))))))))
 obtain ⟨ac, au, a7, a5, a3⟩ := QK hm
 refine QI (M := fun f' w' => ∃ s', (ac = .next s' ∨ ac = .brk s') ∧ (fun (_ : Unit) => ∃ (am : PHeap) , PHeap.le s am ∧ St w0 am (H) w' ∧ f' 1 = j ∧ f' 7 = l ∧ f' 8 = U ((n.length : Int))) s') ?_ ?_
 ·refine Qk (Jp (fun k' s' f' w' => (fun (_ : Unit) => ∃ (an : PHeap) , PHeap.le s an ∧ St w0 an (H) w' ∧ f' 1 = j ∧ f' 7 = l ∧ f' 8 = U ((n.length : Int)) ∧ f' 9 = U (k' : Int)) s') au ?_ ?_ ?_)
  ·exact ⟨s, (Zv _), hS, Z, Z, Z, Z⟩
  ·intro ah bl ad bc bq a4 av d a8
   obtain ⟨y, p, ae, q, u, x, t⟩ := av
   refine Zc (Zd (O Z Z (Zq Z t x (Zb (V (Zc (QG (Zx (decide_eq_true (by omega))) (Qp (V (Zc (Qk (Zc (Zd ?_)))))))))))))
   obtain ⟨i, aI, d⟩ := Zg d
   refine O Z Z (Qq S23 Z u t (aa.mono p) aI ?_)
   intro aR bg aq
   refine O Z Z (Zw (E := encFact) ae A90 Z Z Z aq ?_)
   intro bo aJ
   obtain rfl := KL.1 aJ
   refine O Z Z (Exec.alloc (cs := [U 0, U 0]) ae Z90 Z Z ?_)
   intro aS br az
   refine O Z Z (Qe (ds := [U (i.Var), U (i.Val)]) (es := [U (i.Var), U (i.Val)]) az A90 Z Z Z Z (Zj Z (Zj Z Q5)) (Nat.le_of_ble_eq_true Z) Z ?_)
   intro bs a0
   refine Zb (V (Zc ?_))
   obtain ⟨m, b, d⟩ := Zg d
   refine QI (M := fun f' w' => (fun (m : Bool) => ∃ (ao : PHeap) , PHeap.le y ao ∧ St w0 ao (H) w' ∧ f' 1 = j ∧ f' 7 = l ∧ f' 8 = U ((n.length : Int)) ∧ f' 9 = U ((ah : Int)) ∧ f' 32 = Vb m) m) ?_ ?_
   ·refine K1 (n0 := 20) (qs 0 20 .done) K8 (by kernel_rfl) (by kernel_rfl) ?_
    have g := a0.drew
    refine Qn Z Z (Zp Yf Z Z Z ⟨Z, ?_⟩)
    refine Qn Z Z (Zn (g) A3 Z Z Z ⟨Z, ?_⟩)
    refine Qn Z Z (Zq Z Z Z ⟨Z, ?_⟩)
    refine Qn Z Z (Zm (v := Vb (decide (i.Var < 0))) Z Z ⟨Z, ?_⟩)
    rcases Qg b with ⟨c, b⟩ | ⟨c, b⟩
    ·refine QZ 16 (by rw [c]; rfl) ?_
     refine QD (Zb (V ?_))
     have aU := Zu b
     subst m
     exact ⟨y, (Zv _), g.drop, q, u, x, t, Z⟩
    replace c := Zk c
    refine QA Z Z (Zf Z (Zx c)) (Zp Yf Z Z Z ⟨Z, ?_⟩)
    refine QA Z Z (Zf Z (Zx c)) (Zn (g) A3 Z Z Z ⟨Z, ?_⟩)
    refine QA Z Z (Zf Z (Zx c)) (Zm (v := j) Z q ⟨Z, ?_⟩)
    refine QA Z Z (Zf Z (Zx c)) (Zr Jt Z Z (ab.mono p) ⟨Z, ?_⟩)
    refine QA Z Z (Zf Z (Zx c)) (Exec.geq Z Z Z ⟨Z, ?_⟩)
    refine Qn Z Z (QB (v := Vb (decide ((z.length : Int) ≤ i.Var))) Z (Zx c) Z ⟨Z, ?_⟩)
    refine Qn Z Z (Zm (v := Vb (decide ((z.length : Int) ≤ i.Var))) Z Z ⟨Z, ?_⟩)
    rcases Qg b with ⟨a, b⟩ | ⟨a, b⟩
    ·refine QZ 9 (by rw [a]; rfl) ?_
     refine QD (Zb (V ?_))
     have aV := Zu b
     subst m
     exact ⟨y, (Zv _), g.drop, q, u, x, t, Z⟩
    replace a := Zk a
    refine QA Z Z (Zf Z (Zx a)) (Zm (v := j) Z q ⟨Z, ?_⟩)
    refine QA Z Z (Zf Z (Zx a)) (Zp Yf Z Z Z ⟨Z, ?_⟩)
    refine QA Z Z (Zf Z (Zx a)) (Zn (g) A3 Z Z Z ⟨Z, ?_⟩)
    obtain ⟨aO, aK, b⟩ := Zg b
    refine QA Z Z (Zf Z (Zx a)) (QP Jt Z Z Z (ab.mono p) aK ?_)
    intro aT bh ar aW
    refine ⟨Z, ?_⟩
    refine QA Z Z (Zf Z (Zx a)) (Zw (E := (Qa .i64)) g A3 Z Z Z ar ?_)
    intro bp aL
    obtain rfl := Qr.1 aL
    refine ⟨Z, ?_⟩
    refine QA Z Z (Zf Z (Zx a)) (Zp Qea Z Z Z ⟨Z, ?_⟩)
    refine QA Z Z (Zf Z (Zx a)) (Zn (g) A3 Z Z Z ⟨Z, ?_⟩)
    refine QA Z Z (Zf Z (Zx a)) (Exec.neq Z Z Z ⟨Z, ?_⟩)
    refine Qn Z Z (QB (v := Vb (!decide (aO = i.Val))) Z (Zx a) Z ⟨Z, ?_⟩)
    refine QD (Zb (V ?_))
    have aX := Zu b
    subst m
    exact ⟨y, (Zv _), g.drop, q, u, x, t, Z⟩
   intro bd bt ax
   obtain ⟨ap, ai, af, aC, aD, aE, aF, aj⟩ := ax
   refine (V ?_)
   rcases Qg d with ⟨o, d⟩ | ⟨o, d⟩
   ·refine Qt aj o (Zc (Zd (O Z Z (Zo (v := Vb false) Z Z (Zb (V (Q0 (Q8 (Qh (Qh (Q8 (Qh (Qh ?_)))))))))))))
    have aY := Zu d
    subst ad
    have a6 := a7 _ (a8 (by intro _ h; cases h))
    have aZ := Zu a6
    subst r
    refine ⟨_, QU Z, ?_⟩
    exact ⟨ap, (Zt p ai), af, Z⟩
   refine Qu aj o ?_
   replace o := Zk o
   refine Qp (Qy (V (Zd (O Z Z (Exec.add Z aF Z (O Z Z (Zm (v := U (IntKind.i64.wrap ((ah : Int) + 1))) Z Z (Zb (V ?_)))))))))
   have ba := Zu d
   subst ad
   refine ⟨_, Z, ?_⟩; exact ⟨ap, (Zt p ai), af, aC, aD, aE, (Eq.trans Z (Q9 a4 (SliceRep.le aa)))⟩
  intro bm be bu aw a9
  obtain ⟨aM, aA, a1, aG, aH, ak, aP⟩ := aw
  refine Zc (Zd (O Z Z (Zq Z aP ak (Zb (V (Zc (Q7 (Zx (decide_eq_false (by omega))) (QC (Qj (Qj (Q4 (V ?_))))))))))))
  refine ⟨_, .inl a9, ?_⟩; exact ⟨aM, aA, a1, aG, aH, ak⟩
 rintro bf bv ⟨bn, ag, ay⟩
 have hm := ag.elim (a5 _) (a3 _)
 clear ag
 obtain ⟨aN, aB, a2, bi, bj, bk⟩ := ay
 refine (V (Zc (Zd (O Z Z (Zo (v := Vb true) Z Z (Zb (V (Q0 ?_))))))))
 have bb := Zu hm
 subst r
 refine ⟨_, QU Z, ?_⟩
 exact ⟨aN, aB, a2, Z⟩
theorem Qg1 {w0 w : World} {s : PHeap} {H : List Res} {u : Task} {ar : (List Int)} {h : Int} {x : Value} {y : Value} {z : Value} {aa : Value} {i : Value} {r : (List Int) × Bool} (hm : Qay u ar h = some r) (hS : St w0 s (H) w) (b1 : SliceRep (Qa .i64) s x u.Vars) (b2 : SliceRep (Qa .i64) s y u.Init) (b3 : SliceRep encFact s z u.Goal) (ad : SliceRep encOp s aa u.Ops) (ae : SliceRep (Qa .i64) s i ar) :
  Calls Tryz.prog 44 #[Value.agg #[x, y, z, aa], i, U h] w fun e w' => ∃ v, e = .returned v ∧ ((J5 fun (bx : (List Int)) (bz : Bool) => ∃ (ao : PHeap) (a7 : Value), PHeap.le s ao ∧ St w0 ao (H) w' ∧ v = Value.tuple #[a7, Value.bool (bz)] ∧ SliceRep (Qa .i64) ao a7 bx) r) := by
 unfold Qay at hm
 refine Qx Tryz.func44 Z Z (Zc (Zd (O Z Z (Exec.box (cs := [x, y, z, aa]) hS Z Z Z ?_))))
 intro au bY l
 refine O Z Z (Zo (v := Vn) Z Z (O Z Z (Zo (v := Vb false) Z Z (Zb (V (Zc (Zc ?_)))))))
 obtain ⟨m, b, hm⟩ := Zg hm
 refine QI (M := fun f' w' => (fun (m : Bool) => ∃ (a3 : PHeap) , PHeap.le s a3 ∧ St w0 a3 (Res.box au 26 [x, y, z, aa] :: H) w' ∧ f' 1 = i ∧ f' 2 = U h ∧ f' 3 = Vq au ∧ f' 30 = Vb m) m) ?_ ?_
 ·refine Zd (O Z Z (Zm (v := U h) Z Z (O Z Z (Zq Z Z Z (O Z Z (Zm (v := Vb (decide (h < 0))) Z Z ?_))))))
  rcases Qg b with ⟨c, b⟩ | ⟨c, b⟩
  ·refine Qz 17 (by rw [c]; rfl) ?_
   refine Zb (V ?_)
   have bA := Zu b
   subst m
   exact ⟨s, (Zv _), l, Z, Z, Z, Z⟩
  replace c := Zk c
  refine Qo Z (Zf Z (Zx c)) Z (Zm (v := U h) Z Z (Qo Z (Zf Z (Zx c)) Z (Zp YJ Z Z Z (Qo Z (Zf Z (Zx c)) Z (Zn (l) A24 Z Z Z (Qo Z (Zf Z (Zx c)) Z (Zr S24 Z Z ad (Qo Z (Zf Z (Zx c)) Z (Exec.geq Z Z Z ?_)))))))))
  refine Qz 2 (by rw [c]; rfl) ?_
  rcases Qg b with ⟨a, b⟩ | ⟨a, b⟩
  ·refine Qz 10 (by rw [a]; rfl) ?_
   refine Zb (V ?_)
   have bB := Zu b
   subst m
   exact ⟨s, (Zv _), l, Z, Z, Z, Z⟩
  replace a := Zk a
  refine Qo Z (Zf Z (Zx a)) Z (Zp YJ Z Z Z (Qo Z (Zf Z (Zx a)) Z (Zn (l) A24 Z Z Z (Qo Z (Zf Z (Zx a)) Z (Zm (v := U h) Z Z ?_)))))
  obtain ⟨ck, bg, b⟩ := Zg b
  refine Qo Z (Zf Z (Zx a)) Z (Qq S24 Z Z Z ad bg ?_)
  intro b4 bP aA
  refine Qo Z (Zf Z (Zx a)) Z (Zp Qiq Z Z Z (Qo Z (Zf Z (Zx a)) Z (Zw (E := (QE encFact)) l A23 Z Z Z (aA.sub (Sub.iso (Qdo (Qdo (QhJ (Sub.refl _)) Z) Z)) Z) ?_)))
  intro bW bh
  have bq := Jy.1 bh
  refine Qo Z (Zf Z (Zx a)) Z (Zm (v := i) Z Z ?_)
  obtain ⟨b0, bi, b⟩ := Zg b
  refine Qo Z (Zf Z (Zx a)) Z (Tc Z Z Z (Zi Z (Zi Z Ql)) (QbH bi l bq ae).r ?_)
  rintro _ bZ ⟨bs, aS, aI, rfl⟩
  refine Qo Z (Zf Z (Zx a)) Z (Exec.not Z Z (O Z Z (QB (v := Vb (!b0)) Z (Zx a) Z (Zb (V ?_)))))
  have bC := Zu b
  subst m
  exact ⟨bs, aS, aI, Z, Z, Z, Z⟩
 intro bI ca aG
 obtain ⟨ap, q, aw, a0, aX, aY, a1⟩ := aG
 refine (V ?_)
 rcases Qg hm with ⟨o, hm⟩ | ⟨o, hm⟩
 ·refine Qt a1 o (Zc (Zd (O Z Z (Zo (v := Vn) Z Z (O Z Z (Zo (v := Vb false) Z Z (Zb (V (Q0 (Qh ?_))))))))))
  have bD := Zu hm
  subst r
  refine ⟨_, Qbx Z, ?_⟩
  exact ⟨ap, Vn, q, aw.drop, (KY Z Z), (SliceRep.nil _ _)⟩
 refine Qu a1 o ?_
 replace o := Zk o
 refine Qp (V (Zc (Zd (O Z Z (Exec.buildSlice (Te := 3) (cs := []) aw Z Qw (fun _ => by kernel_rfl) ?_)))))
 intro b5 cb aJ
 refine O Z Z (Zm (v := i) Z a0 ?_)
 have aK := St.boxArr (E := (Qa .i64)) (xs := []) aJ rfl (by simp [maxLen])
 obtain ⟨bN, bj, hm⟩ := Zg hm
 refine O Z Z (Qbo (E := (Qa .i64)) (ys := ar) aK Jt Z3 Z (by decide) Z Z Z (ae.mono q) bj ?_)
 intro g cc af
 refine O Z Z (Zo (v := g) Z Z (Zb (V (Zc (Zc (Zd (O Z Z (Zp YJ Z aY Z (O Z Z (Zn (af.f1) A24 Z Z Z (O Z Z (Zm (v := U h) Z aX ?_))))))))))))
 obtain ⟨a9, bk, hm⟩ := Zg hm
 refine O Z Z (Qq S24 Z Z Z (ad.mono q) bk ?_)
 intro b6 bQ aB
 refine O Z Z (Zp Qd8 Z Z Z (O Z Z (Zw (E := (QE encEffect)) af A58 Z Z Z (aB.sub (Sub.iso (Qdo (Qdo (Qdo (Sub.refl _) Z) Z) Z)) Z) ?_)))
 intro a8 bl
 have an := Jy.1 bl
 refine O Z Z (Zr S58 Z Z an (O Z Z (Zm (v := U 0) Z Z (Zb (V ?_)))))
 obtain ⟨ag, aD, hm⟩ := Zg hm
 refine Qk (J0 (fun k' s' f' w' => (fun (ag : (List Int)) => ∃ (a4 : PHeap) , PHeap.le ap a4 ∧ St w0 a4 (Res.arr (Qa .i64) 3 g ag :: H) w' ∧ f' 1 = i ∧ f' 8 = g ∧ f' 39 = a8 ∧ f' 40 = U ((a9.Effs.length : Int)) ∧ f' 41 = U (k' : Int)) s') aD ?_ ?_ ?_)
 ·have aL := (af.f1).drop
  exact ⟨ap, (Zv _), aL, a0, Z, Z, Z, Z⟩
 ·intro az ag bt bJ cd aR aE j
  obtain ⟨bU, ah, ax, ai, aj, ak, al, ab⟩ := aE
  refine Zc (Zd (O Z Z (Zq Z ab al (Zb (V (Zc (QG (Zx (decide_eq_true (by omega))) (Qp (V (Zc (Qk (Zc (Zd ?_)))))))))))))
  obtain ⟨ac, bm, j⟩ := Zg j
  refine O Z Z (Qq S58 Z ak ab (an.mono ah) bm ?_)
  intro b7 bR aC
  refine O Z Z (Zw (E := encEffect) ax A95 Z Z Z aC ?_)
  intro bX bn
  obtain ⟨a6, rfl, a2⟩ := KS.1 bn
  refine O Z Z (Exec.alloc (cs := [Vn, U 0, U 0]) ax Z95 Z Z ?_)
  intro b8 ce aM
  refine O Z Z (Qe (ds := [a6, U (ac.Var), U (ac.Val)]) (es := [a6, U (ac.Var), U (ac.Val)]) aM A95 Z Z Z Z (Zj a2.one (Zj Z (Zj Z Q5))) (Nat.le_of_ble_eq_true Z) Z ?_)
  intro cf ay
  refine Zb (V (Zc (Zd (O Z Z (Zp Qhb Z Z Z (O Z Z (Zn (ay) A23 Z Z Z (O Z Z (Zm (v := i) Z ai ?_)))))))))
  obtain ⟨cm, bo, j⟩ := Zg j
  refine O Z Z (Tc Z Z Z (Zi Z (Zi Z Ql)) (QbH bo ay a2 (ae.mono (Zt q ah))).r ?_)
  rintro _ cg ⟨aq, aT, n, rfl⟩
  refine Zb (V ?_)
  obtain ⟨t, d, j⟩ := Zg j
  refine QI (M := fun f' w' => (fun (t : (List Int)) => ∃ (a5 : PHeap) , PHeap.le aq a5 ∧ St w0 a5 (Res.arr (Qa .i64) 3 g t :: H) w' ∧ f' 1 = i ∧ f' 8 = g ∧ f' 39 = a8 ∧ f' 40 = U ((a9.Effs.length : Int)) ∧ f' 41 = U ((az : Int))) t) ?_ ?_
  ·rcases Qg d with ⟨p, d⟩ | ⟨p, d⟩
   ·refine Qt Z p (Zd (O Z Z (Zm (v := g) Z aj (O Z Z (Zp QfB Z Z Z (O Z Z (Zn (n) A3 Z Z Z (O Z Z (Zp QjL Z Z Z (O Z Z (Zn (n) A3 Z Z Z ?_)))))))))))
    obtain ⟨cl, am, d⟩ := Zg d
    obtain ⟨bM, b9, av⟩ := (n.f1).arr_at am
    refine O Z Z (Qd Jt Z av Z (Qf am).1 (Qf am).2.1 ?_)
    obtain ⟨bO, bp, d⟩ := Zg d
    refine O Z Z (QQ n.f1 av A3 Z Z Z Z (Qr.2 Z) bp ?_)
    intro ch aN
    refine Zb (V ?_)
    have bE := Zu d
    subst t
    exact ⟨aq, (Zv _), (aN.f1).drop, ai, aj, ak, al, ab⟩
   refine Qu Z p ?_
   replace p := Zk p
   refine Qp (V ?_)
   have bF := Zu d
   subst t
   exact ⟨aq, (Zv _), n.drop, ai, aj, ak, al, ab⟩
  intro bK ci aH
  obtain ⟨bu, aU, aO, aZ, ba, bb, bc, bd⟩ := aH
  refine (Qy (V (Zd (O Z Z (Exec.add Z bd Z (O Z Z (Zm (v := U (IntKind.i64.wrap ((az : Int) + 1))) Z Z (Zb (V ?_)))))))))
  have bG := Zu j
  subst bt
  exact ⟨bu, (Zt (Zt ah aT) aU), aO, aZ, ba, bb, bc, (Eq.trans Z (Q9 aR (SliceRep.le an)))⟩
 intro bL cj aF
 obtain ⟨bV, aV, aP, bS, be, bT, bf, bw⟩ := aF
 refine Zc (Zd (O Z Z (Zq Z bw bf (Zb (V (Zc (Q7 (Zx (decide_eq_false (by omega))) (QC (Qj (Qj (Q4 (V (Zc (Zd (O Z Z (Zm (v := g) Z be (O Z Z (Zo (v := g) Z Z (O Z Z (Zo (v := Vb true) Z Z (Zb (V (Q0 ?_)))))))))))))))))))))))
 have bH := Zu hm
 subst r
 refine ⟨_, Qbx Z, ?_⟩
 obtain ⟨bv, aW, aQ, br⟩ := aP.freezeArr
 exact ⟨bv, g, (Zt (Zt q aV) aW), aQ, (KY Z Z), br⟩
theorem QgM {w0 w : World} {s : PHeap} {H : List Res} {u : (List Int)} {l : (List Int)} {g : Value} {d : Value} {r : Int} (hm : Qba u l = some r) (hS : St w0 s (H) w) (x : SliceRep (Qa .i64) s g u) (h : SliceRep (Qa .i64) s d l) :
  Calls Tryz.prog 45 #[g, d] w fun e w' => ∃ v, e = .returned v ∧ ((fun (av : Int) => ∃ (q : PHeap) , PHeap.le s q ∧ St w0 q (H) w' ∧ v = U av) r) := by
 unfold Qba at hm
 refine Qx Tryz.func45 Z Z (Zc (Zd (O Z Z (Zo (v := U 0) Z Z (Zb (V (Zc (Zd (O Z Z (Zo (v := U 0) Z Z (Zb (V (Zc (Zc (Zd (O Z Z (Zm (v := d) Z Z (O Z Z (Zr Jt Z Z h (O Z Z (Zm (v := U 0) Z Z (Zb (V ?_)))))))))))))))))))))))
 obtain ⟨a, aa, hm⟩ := Zg hm
 refine Qk (J0 (fun k' s' f' w' => (fun (a : Int) => ∃ (t : PHeap) , PHeap.le s t ∧ St w0 t (H) w' ∧ f' 0 = g ∧ f' 1 = d ∧ f' 5 = U a ∧ f' 8 = U ((l.length : Int)) ∧ f' 9 = U (k' : Int)) s') aa ?_ ?_ ?_)
 ·exact ⟨s, (Zv _), hS, Z, Z, Z, Z, Z⟩
 ·intro c a an a2 aA ae ab b
  obtain ⟨ao, j, i, n, o, ag, p, m⟩ := ab
  refine Zc (Zd (O Z Z (Zq Z m p (Zb (V (Zc (QG (Zx (decide_eq_true (by omega))) (Qp (V (Zc (Qk (Zc (Zd (O Z Z (Zm (v := U ((c : Int))) Z m (O Z Z (Zo (v := U ((c : Int))) Z Z (Zb (V (K1 (n0 := 11) (qs 0 11 .done) K8 (by kernel_rfl) (by kernel_rfl) (Qn Z Z (Zm (v := U a) Z ag ⟨Z, ?_⟩))))))))))))))))))))))
  refine Qn Z Z (Zm (v := g) Z n ⟨Z, ?_⟩)
  refine Qn Z Z (Zm (v := U ((c : Int))) Z Z ⟨Z, ?_⟩)
  obtain ⟨aq, aj, b⟩ := Zg b
  refine Qn Z Z (QP Jt Z Z Z (x.mono j) aj ?_)
  intro aw a4 y ay
  refine ⟨Z, ?_⟩
  refine Qn Z Z (Zw (E := (Qa .i64)) i.drew A3 Z Z Z y ?_)
  intro a8 ak
  obtain rfl := Qr.1 ak
  refine ⟨Z, ?_⟩
  refine Qn Z Z (Exec.mul Z Z Z ⟨Z, ?_⟩)
  refine Qn Z Z (Zm (v := d) Z o ⟨Z, ?_⟩)
  refine Qn Z Z (Zm (v := U ((c : Int))) Z Z ⟨Z, ?_⟩)
  obtain ⟨ar, al, b⟩ := Zg b
  refine Qn Z Z (QP Jt Z Z Z (h.mono j) al ?_)
  intro ax a5 z az
  refine ⟨Z, ?_⟩
  refine Qn Z Z (Zw (E := (Qa .i64)) i.drew A3 Z Z Z z ?_)
  intro a9 am
  obtain rfl := Qr.1 am
  refine ⟨Z, ?_⟩
  refine Qn Z Z (Exec.add Z Z Z ⟨Z, ?_⟩)
  refine QD (O Z Z (Zo (v := U (IntKind.i64.wrap ((IntKind.i64.wrap (a * aq)) + ar))) Z Z (Zb (Qy (V (Zd (O Z Z (Exec.add Z m Z (O Z Z (Zm (v := U (IntKind.i64.wrap ((c : Int) + 1))) Z Z (Zb (V ?_))))))))))))
  have a0 := Zu b
  subst an
  exact ⟨ao, j, i.drew, n, o, Z, p, (Eq.trans Z (Q9 ae (SliceRep.le h)))⟩
 intro a3 aB ac
 obtain ⟨ap, af, ad, a6, a7, ah, ai, au⟩ := ac
 refine Zc (Zd (O Z Z (Zq Z au ai (Zb (V (Zc (Q7 (Zx (decide_eq_false (by omega))) (QC (Qj (Qj (Q4 (V (Zc (Zd (O Z Z (Zm (v := U a) Z ah (O Z Z (Zo (v := U a) Z Z (Zb (V (Q0 ?_)))))))))))))))))))))
 have a1 := Zu hm
 subst r
 refine ⟨_, QU Z, ?_⟩
 exact ⟨ap, af, ad, Z⟩
theorem S54 : Jb Tryz.prog 54 = some (57, 3, 24) := by kernel_rfl
theorem Z57 : JB Tryz.prog 57 = some (Value.agg #[U 0, U 0, U 0]) := by kernel_rfl
end Go.Pw
