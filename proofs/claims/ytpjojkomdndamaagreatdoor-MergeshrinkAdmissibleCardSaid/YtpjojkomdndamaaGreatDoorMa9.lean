/- -/
import Derived.Test.YtpjojkomdndamaaGreatDoorL27
import Derived.Test.YtpjojkomdndamaaGreatDoorMa8
set_option maxRecDepth 100000
set_option maxHeartbeats 4000000
set_option linter.unusedVariables false
namespace Go.Pw
open Go.Proofs
theorem QcI {w0 w : World} {s : PHeap} {H : List Res} {r : Bool} (hm : Yu = some r) (hS : St w0 s (H) w) :
  Calls Tryz.prog 10 #[] w fun e w' => ∃ v, e = .returned v ∧ ((fun (cC : Bool) => ∃ (az : PHeap) , PHeap.le s az ∧ St w0 az (H) w' ∧ v = Value.bool (cC)) r) := by
 unfold Yu at hm
 refine Qy Tryz.func10 Z Z (Zc (Zd (O Z Z (Zo (v := Vb false) Z Z (Zb (V (Zc (Zd (O Z Z (Exec.call Z Z Tryz.func29 Z N29 Qk ((Qa5 Yz hS).mono ?_)))))))))))
 rintro _ dC ⟨_, rfl, ⟨da, dr, ds, dt, du, ah, a3, rfl, cg, ch, ci, cj⟩⟩
 refine ⟨_, Z, ?_⟩
 refine O Z Z (Exec.buildSlice (Te := 3) (cs := [U 0, U 1]) a3 Z (Qb (c := [U 0]) (Qi Z Z) (Qb (c := [U 1]) (Qi Z Z) Qx)) (fun _ => by kernel_rfl) ?_)
 intro cD dD a4
 have a5 := St.boxArr (E := (Qa .i64)) (xs := [0, 1]) a4 ⟨[U 0], [U 1], rfl, rfl, ⟨[U 1], [], rfl, rfl, rfl⟩⟩ (by simp [maxLen])
 obtain ⟨db, p, a6, ck⟩ := a5.freezeArr
 obtain ⟨c9, cb, hm⟩ := Zg hm
 obtain ⟨cU, b⟩ := c9
 replace hm := Jf hm
 refine O Z Z (Exec.call Z Z Tryz.func13 Z N13 (Zi Z (Zi Z (Zi Z Qk))) ((KF cb a6 (cg.mono p) (ch.mono p) (ci.mono p) (cj.mono p) ck).mono ?_))
 rintro _ dE ⟨_, rfl, bS⟩
 refine ⟨_, Z, ?_⟩
 rcases bS with ⟨an, rfl, dc, dv, aa, dw, dx, aw, a7, rfl, ak⟩ | ⟨rfl, dd, ax, a8, rfl⟩
 ·replace hm := Qdq hm
  obtain ⟨dk, y, hm⟩ := Zg hm
  refine O Z Z (Zm (v := Value.tuple #[Vp (some ⟨aa, 0, none⟩), QG 50 (b)]) Z Z (O Z Z (Exec.extract (v := Vp (some ⟨aa, 0, none⟩)) Z Z Z (O Z Z (Exec.extract (v := QG 50 (b)) Z Z Z (O Z Z (Zo (v := Vp (some ⟨aa, 0, none⟩)) Z Z (O Z Z (Zo (v := QG 50 (b)) Z Z (Zb (V (Zc (Zd (O Z Z (Exec.call Z Z Tryz.func29 Z N29 Qk ((Qa5 Yz a7).mono ?_))))))))))))))))
  rintro _ dF ⟨_, rfl, ⟨de, dy, dz, d0, d1, ad, a9, rfl, cl, cm, cn, co⟩⟩
  refine ⟨_, Z, ?_⟩
  refine O Z Z (Exec.buildSlice (Te := 3) (cs := [U 1, U 0]) a9 Z (Qb (c := [U 1]) (Qi Z Z) (Qb (c := [U 0]) (Qi Z Z) Qx)) (fun _ => by kernel_rfl) ?_)
  intro cE dG aA
  have aB := St.boxArr (E := (Qa .i64)) (xs := [1, 0]) aA ⟨[U 1], [U 0], rfl, rfl, ⟨[U 0], [], rfl, rfl, rfl⟩⟩ (by simp [maxLen])
  obtain ⟨df, j, aC, cp⟩ := aB.freezeArr
  obtain ⟨cA, cc, hm⟩ := Zg hm
  obtain ⟨cV, g⟩ := cA
  replace hm := Jf hm
  refine O Z Z (Exec.call Z Z Tryz.func13 Z N13 (Zi Z (Zi Z (Zi Z Qk))) ((KF cc aC (cl.mono j) (cm.mono j) (cn.mono j) (co.mono j) cp).mono ?_))
  rintro _ dH ⟨_, rfl, bT⟩
  refine ⟨_, Z, ?_⟩
  rcases bT with ⟨ao, rfl, cy, d2, ab, d3, d4, ai, aD, rfl, al⟩ | ⟨rfl, cz, bV, aE, rfl⟩
  ·replace hm := Qdq hm
   obtain ⟨dl, af, hm⟩ := Zg hm
   refine O Z Z (Zm (v := Value.tuple #[Vp (some ⟨ab, 0, none⟩), QG 50 (g)]) Z Z (O Z Z (Exec.extract (v := Vp (some ⟨ab, 0, none⟩)) Z Z Z (O Z Z (Exec.extract (v := QG 50 (g)) Z Z Z (O Z Z (Zo (v := Vp (some ⟨ab, 0, none⟩)) Z Z (O Z Z (Zo (v := QG 50 (g)) Z Z (Zb (V (Zc ?_))))))))))))
   obtain ⟨l, a, hm⟩ := Zg hm
   refine QJ (M := fun f' w' => (fun (l : Bool) => ∃ (a0 : PHeap) , PHeap.le cy a0 ∧ St w0 a0 (H) w' ∧ f' 0 = Vb l) l) ?_ ?_
   ·refine Zd (O Z Z (Zm (v := QG 50 (b)) Z Z (O Z Z (Kl (T := 50) Tryz.underlying32 Z Z Z (O Z Z (Zm (v := Vb (b.isNone)) Z Z (Qo Z (Zf Z (Zx (QT y))) Z (Zm (v := QG 50 (g)) Z Z (Qo Z (Zf Z (Zx (QT y))) Z (Kl (T := 50) Tryz.underlying32 Z Z Z (O Z Z (Zs (v := Vb (g.isNone)) Z (Zx (QT y)) Z (O Z Z (Zm (v := Vb (g.isNone)) Z Z (Qo Z (Zf Z (Zx (QT af))) Z (Zm (v := Vp (some ⟨aa, 0, none⟩)) Z Z (Qo Z (Zf Z (Zx (QT af))) Z (Exec.buildSlice (Te := 3) (cs := [U 0, U 0]) aD Z (Qb (c := [U 0]) (Qi Z Z) (Qb (c := [U 0]) (Qi Z Z) Qx)) (fun _ => by kernel_rfl) ?_))))))))))))))))))
    intro cF dI aF
    have aG := St.boxArr (E := (Qa .i64)) (xs := [0, 0]) aF ⟨[U 0], [U 0], rfl, rfl, ⟨[U 0], [], rfl, rfl, rfl⟩⟩ (by simp [maxLen])
    obtain ⟨dg, d, aH, cq⟩ := aG.freezeArr
    obtain ⟨a1, cd, a⟩ := Zg a
    have aI := aH.f5
    have aJ := aI.f5
    have aK := aJ.f5
    refine Qo Z (Zf Z (Zx (QT af))) Z (Exec.call Z Z Tryz.func19 Z N19 (Zi Z (Zi Z Qk)) ((Kb cd aK (ak.mono (Zt (Zt (Zt ad j) ai) d)) cq).mono ?_))
    rintro _ dJ ⟨_, rfl, ⟨c0, h, ap, rfl⟩⟩
    refine ⟨_, Z, ?_⟩
    refine Qo Z (Zf Z (Zx (QT af))) Z (Exec.eql Z Z Z (O Z Z (Zs (v := Vb (decide (a1 = 3))) Z (Zx (QT af)) Z (O Z Z (Zm (v := Vb (decide (a1 = 3))) Z Z ?_)))))
    rcases Qg a with ⟨m, a⟩ | ⟨m, a⟩
    ·refine Qo Z (Zf Z (Zx m)) Z (Zm (v := Vp (some ⟨aa, 0, none⟩)) Z Z ?_)
     have aL := ap.f2
     have aM := aL.f2
     have aN := aM.f2
     refine Qo Z (Zf Z (Zx m)) Z (Exec.call Z Z Tryz.func15 Z N15 (Zi Z Qk) ((KR (Ke an) aN (ak.mono (Zt (Zt (Zt (Zt ad j) ai) d) h))).mono ?_))
     rintro _ dK ⟨_, rfl, ⟨c1, k, aq, rfl⟩⟩
     refine ⟨_, Z, ?_⟩
     refine Qo Z (Zf Z (Zx m)) Z (Exec.eql Z Z Z ?_)
     refine Q0 2 (by rw [m]; rfl) ?_
     rcases Qg a with ⟨q, a⟩ | ⟨q, a⟩
     ·refine Qo Z (Zf Z (Zx q)) Z (Zm (v := Vp (some ⟨aa, 0, none⟩)) Z Z ?_)
      have aO := aq.f2
      have aP := aO.f2
      have aQ := aP.f2
      refine Qo Z (Zf Z (Zx q)) Z (Exec.call Z Z Tryz.func16 Z N16 (Zi Z Qk) ((KG (Kc an) aQ (ak.mono (Zt (Zt (Zt (Zt (Zt ad j) ai) d) h) k))).mono ?_))
      rintro _ dL ⟨_, rfl, ⟨c2, t, ar, rfl⟩⟩
      refine ⟨_, Z, ?_⟩
      refine Q0 2 (by rw [q]; rfl) ?_
      rcases Qg a with ⟨i, a⟩ | ⟨i, a⟩
      ·refine Qo Z (Zf Z (Zx i)) Z (Zm (v := Vp (some ⟨ab, 0, none⟩)) Z Z (Qo Z (Zf Z (Zx i)) Z (Exec.buildSlice (Te := 3) (cs := [U 0, U 0]) ar Z (Qb (c := [U 0]) (Qi Z Z) (Qb (c := [U 0]) (Qi Z Z) Qx)) (fun _ => by kernel_rfl) ?_)))
       intro cG dM aR
       have aS := St.boxArr (E := (Qa .i64)) (xs := [0, 0]) aR ⟨[U 0], [U 0], rfl, rfl, ⟨[U 0], [], rfl, rfl, rfl⟩⟩ (by simp [maxLen])
       obtain ⟨dh, u, aT, cr⟩ := aS.freezeArr
       obtain ⟨dU, ce, a⟩ := Zg a
       have aU := aT.f5
       have aV := aU.f5
       have aW := aV.f5
       refine Qo Z (Zf Z (Zx i)) Z (Exec.call Z Z Tryz.func19 Z N19 (Zi Z (Zi Z Qk)) ((Kb ce aW (al.mono (Zt (Zt (Zt (Zt d h) k) t) u)) cr).mono ?_))
       rintro _ dN ⟨_, rfl, ⟨c3, ae, au, rfl⟩⟩
       refine ⟨_, Z, ?_⟩
       refine Qo Z (Zf Z (Zx i)) Z (Exec.eql Z Z Z ?_)
       refine Q0 2 (by rw [i]; rfl) ?_
       rcases Qg a with ⟨n, a⟩ | ⟨n, a⟩
       ·refine Qo Z (Zf Z (Zx n)) Z (Zm (v := Vp (some ⟨ab, 0, none⟩)) Z Z ?_)
        have aX := au.f2
        have aY := aX.f2
        have aZ := aY.f2
        refine Qo Z (Zf Z (Zx n)) Z (Exec.call Z Z Tryz.func15 Z N15 (Zi Z Qk) ((KR (Ke ao) aZ (al.mono (Zt (Zt (Zt (Zt (Zt d h) k) t) u) ae))).mono ?_))
        rintro _ dO ⟨_, rfl, ⟨c4, aj, av, rfl⟩⟩
        refine ⟨_, Z, ?_⟩
        refine Qo Z (Zf Z (Zx n)) Z (Exec.eql Z Z Z ?_)
        refine Q0 2 (by rw [n]; rfl) ?_
        rcases Qg a with ⟨o, a⟩ | ⟨o, a⟩
        ·refine Qo Z (Zf Z (Zx o)) Z (Zm (v := Vp (some ⟨ab, 0, none⟩)) Z Z ?_)
         have ba := av.f2
         have bb := ba.f2
         have bc := bb.f2
         refine Qo Z (Zf Z (Zx o)) Z (Exec.call Z Z Tryz.func16 Z N16 (Zi Z Qk) ((KG (Kc ao) bc (al.mono (Zt (Zt (Zt (Zt (Zt (Zt d h) k) t) u) ae) aj))).mono ?_))
         rintro _ dP ⟨_, rfl, ⟨c5, bW, bd, rfl⟩⟩
         refine ⟨_, Z, ?_⟩
         refine Qo Z (Zf Z (Zx o)) Z (Exec.not Z Z ?_)
         refine Q0 2 (by rw [o]; rfl) ?_
         refine Zb (V ?_)
         have cJ := Zu a
         subst l
         have be := bd.drop
         have bf := be.drop
         have bg := bf.drop
         have bh := bg.drop
         have bi := bh.drop
         have bj := bi.drop
         exact ⟨c5, (Zt (Zt (Zt (Zt (Zt (Zt (Zt d h) k) t) u) ae) aj) bW), bj, Z⟩
        replace o := Zk o
        refine Q0 5 (by rw [o]; rfl) ?_
        refine Zb (V ?_)
        have cK := Zu a
        subst l
        have bk := av.drop
        have bl := bk.drop
        have bm := bl.drop
        have bn := bm.drop
        have bo := bn.drop
        have bp := bo.drop
        exact ⟨c4, (Zt (Zt (Zt (Zt (Zt (Zt d h) k) t) u) ae) aj), bp, Z⟩
       replace n := Zk n
       refine Q0 10 (by rw [n]; rfl) ?_
       refine Zb (V ?_)
       have cL := Zu a
       subst l
       have bq := au.drop
       have br := bq.drop
       have bs := br.drop
       have bt := bs.drop
       have bu := bt.drop
       have bv := bu.drop
       exact ⟨c3, (Zt (Zt (Zt (Zt (Zt d h) k) t) u) ae), bv, Z⟩
      replace i := Zk i
      refine Q0 16 (by rw [i]; rfl) ?_
      refine Zb (V ?_)
      have cM := Zu a
      subst l
      have bw := ar.drop
      have bx := bw.drop
      have bz := bx.drop
      have b0 := bz.drop
      have b1 := b0.drop
      have b2 := b1.drop
      exact ⟨c2, (Zt (Zt (Zt d h) k) t), b2, Z⟩
     replace q := Zk q
     refine Q0 20 (by rw [q]; rfl) ?_
     refine Zb (V ?_)
     have cN := Zu a
     subst l
     have b3 := aq.drop
     have b4 := b3.drop
     have b5 := b4.drop
     have b6 := b5.drop
     have b7 := b6.drop
     have b8 := b7.drop
     exact ⟨c1, (Zt (Zt d h) k), b8, Z⟩
    replace m := Zk m
    refine Q0 25 (by rw [m]; rfl) ?_
    refine Zb (V ?_)
    have cO := Zu a
    subst l
    have b9 := ap.drop
    have bA := b9.drop
    have bB := bA.drop
    have bC := bB.drop
    have bD := bC.drop
    have bE := bD.drop
    exact ⟨c0, (Zt d h), bE, Z⟩
   intro cT dQ a2
   obtain ⟨c6, bX, bF, ca⟩ := a2
   refine (V (Q1 ?_))
   have cP := Zu hm
   subst r
   refine ⟨_, QX Z, ?_⟩
   exact ⟨c6, (Zt (Zt (Zt (Zt (Zt (Zt ah p) aw) ad) j) ai) bX), bF, ca⟩
  replace hm := Qdr hm
  obtain ⟨dm, ag, hm⟩ := Zg hm
  refine O Z Z (Zm (v := Value.tuple #[Vp none, QG 50 (g)]) Z Z (O Z Z (Exec.extract (v := Vp none) Z Z Z (O Z Z (Exec.extract (v := QG 50 (g)) Z Z Z (O Z Z (Zo (v := Vp none) Z Z (O Z Z (Zo (v := QG 50 (g)) Z Z (Zb (V (Zc (Zd (O Z Z (Zm (v := QG 50 (b)) Z Z (O Z Z (Kl (T := 50) Tryz.underlying32 Z Z Z (O Z Z (Zm (v := Vb (b.isNone)) Z Z (Qo Z (Zf Z (Zx (QT y))) Z (Zm (v := QG 50 (g)) Z Z (Qo Z (Zf Z (Zx (QT y))) Z (Kl (T := 50) Tryz.underlying32 Z Z Z (O Z Z (Zs (v := Vb (g.isNone)) Z (Zx (QT y)) Z (O Z Z (Zm (v := Vb (g.isNone)) Z Z (Zl Z (Zf Z (Zx (Y3 (QT ag)))) Z Z (Zl Z (Zf Z (Zx (Y3 (QT ag)))) Z Z (Zl Z (Zf Z (Zx (Y3 (QT ag)))) Z Z (Zl Z (Zf Z (Zx (Y3 (QT ag)))) Z Z (O Z Z (Q5 (v := Vb false) Z (Zx (Y3 (QT ag))) Z (Q0 26 Z (Zb (V (Q1 ?_)))))))))))))))))))))))))))))))))))))
  have cQ := Zu hm
  subst r
  refine ⟨_, QX Z, ?_⟩
  have bG := aE.drop
  have bH := bG.drop
  have bI := bH.drop
  exact ⟨cz, (Zt (Zt (Zt (Zt (Zt ah p) aw) ad) j) bV), bI, Z⟩
 replace hm := Qdr hm
 obtain ⟨dn, z, hm⟩ := Zg hm
 refine O Z Z (Zm (v := Value.tuple #[Vp none, QG 50 (b)]) Z Z (O Z Z (Exec.extract (v := Vp none) Z Z Z (O Z Z (Exec.extract (v := QG 50 (b)) Z Z Z (O Z Z (Zo (v := Vp none) Z Z (O Z Z (Zo (v := QG 50 (b)) Z Z (Zb (V (Zc (Zd (O Z Z (Exec.call Z Z Tryz.func29 Z N29 Qk ((Qa5 Yz a8).mono ?_))))))))))))))))
 rintro _ dR ⟨_, rfl, ⟨di, d5, d6, d7, d8, ay, bJ, rfl, ct, cu, cv, cw⟩⟩
 refine ⟨_, Z, ?_⟩
 refine O Z Z (Exec.buildSlice (Te := 3) (cs := [U 1, U 0]) bJ Z (Qb (c := [U 1]) (Qi Z Z) (Qb (c := [U 0]) (Qi Z Z) Qx)) (fun _ => by kernel_rfl) ?_)
 intro cH dS bK
 have bL := St.boxArr (E := (Qa .i64)) (xs := [1, 0]) bK ⟨[U 1], [U 0], rfl, rfl, ⟨[U 0], [], rfl, rfl, rfl⟩⟩ (by simp [maxLen])
 obtain ⟨dj, x, bM, cx⟩ := bL.freezeArr
 obtain ⟨cB, cf, hm⟩ := Zg hm
 obtain ⟨cW, ac⟩ := cB
 replace hm := Jf hm
 refine O Z Z (Exec.call Z Z Tryz.func13 Z N13 (Zi Z (Zi Z (Zi Z Qk))) ((KF cf bM (ct.mono x) (cu.mono x) (cv.mono x) (cw.mono x) cx).mono ?_))
 rintro _ dT ⟨_, rfl, bU⟩
 refine ⟨_, Z, ?_⟩
 rcases bU with ⟨cI, rfl, c7, d9, am, dA, dB, bY, bN, rfl, cZ⟩ | ⟨rfl, c8, bZ, bO, rfl⟩
 ·replace hm := Qdq hm
  obtain ⟨dp, cX, hm⟩ := Zg hm
  refine O Z Z (Zm (v := Value.tuple #[Vp (some ⟨am, 0, none⟩), QG 50 (ac)]) Z Z (O Z Z (Exec.extract (v := Vp (some ⟨am, 0, none⟩)) Z Z Z (O Z Z (Exec.extract (v := QG 50 (ac)) Z Z Z (O Z Z (Zo (v := Vp (some ⟨am, 0, none⟩)) Z Z (O Z Z (Zo (v := QG 50 (ac)) Z Z (Zb (V (Zc (Zd (O Z Z (Zm (v := QG 50 (b)) Z Z (O Z Z (Kl (T := 50) Tryz.underlying32 Z Z Z (O Z Z (Zm (v := Vb (b.isNone)) Z Z (Zl Z (Zf Z (Zx (Y3 (QT z)))) Z Z (Zl Z (Zf Z (Zx (Y3 (QT z)))) Z Z (O Z Z (Q5 (v := Vb false) Z (Zx (Y3 (QT z))) Z (Q0 32 Z (Zb (V (Q1 ?_)))))))))))))))))))))))))))
  have cR := Zu hm
  subst r
  refine ⟨_, QX Z, ?_⟩
  have bP := bN.drop
  have bQ := bP.drop
  have bR := bQ.drop
  exact ⟨c7, (Zt (Zt (Zt (Zt (Zt ah p) ax) ay) x) bY), bR, Z⟩
 replace hm := Qdr hm
 obtain ⟨dq, cY, hm⟩ := Zg hm
 refine O Z Z (Zm (v := Value.tuple #[Vp none, QG 50 (ac)]) Z Z (O Z Z (Exec.extract (v := Vp none) Z Z Z (O Z Z (Exec.extract (v := QG 50 (ac)) Z Z Z (O Z Z (Zo (v := Vp none) Z Z (O Z Z (Zo (v := QG 50 (ac)) Z Z (Zb (V (Zc (Zd (O Z Z (Zm (v := QG 50 (b)) Z Z (O Z Z (Kl (T := 50) Tryz.underlying32 Z Z Z (O Z Z (Zm (v := Vb (b.isNone)) Z Z (Zl Z (Zf Z (Zx (Y3 (QT z)))) Z Z (Zl Z (Zf Z (Zx (Y3 (QT z)))) Z Z (O Z Z (Q5 (v := Vb false) Z (Zx (Y3 (QT z))) Z (Q0 32 Z (Zb (V (Q1 ?_)))))))))))))))))))))))))))
 have cS := Zu hm
 subst r
 refine ⟨_, QX Z, ?_⟩
 exact ⟨c8, (Zt (Zt (Zt (Zt (Zt ah p) ax) ay) x) bZ), bO, Z⟩
theorem N28 : (Tryz.f28.name == "runtime.NumGoroutine") = false := by kernel_rfl
theorem Qgs {w0 w : World} {s : PHeap} {H : List Res} {ap : (List Int)} {p : (List Int)} {i : Value} {c : Value} {r : Bool} (hm : YC ap p = some r) (hS : St w0 s (H) w) (ab : SliceRep (Qa .i64) s i ap) (j : SliceRep (Qa .i64) s c p) :
  Calls Tryz.prog 28 #[i, c] w fun e w' => ∃ v, e = .returned v ∧ ((fun (aR : Bool) => ∃ (ak : PHeap) , PHeap.le s ak ∧ St w0 ak (H) w' ∧ v = Value.bool (aR)) r) := by
 unfold YC at hm
 refine Qy Tryz.func28 Z Z (Zc (Zd (O Z Z (Zo (v := Vb false) Z Z (Zb (V (Zc (Zc (Zd (O Z Z (Zm (v := c) Z Z (O Z Z (Zr Jt Z Z j (O Z Z (Zm (v := i) Z Z (O Z Z (Zr Jt Z Z ab (O Z Z (Exec.neq Z Z Z (Zb (V ?_)))))))))))))))))))))
 rcases Qg hm with ⟨m, hm⟩ | ⟨m, hm⟩
 ·refine Qv Z m (Zc (Zd (O Z Z (Zo (v := Vb false) Z Z (Zb (V (Q1 (Qj ?_))))))))
  have aV := Zu hm
  subst r
  refine ⟨_, QX Z, ?_⟩
  exact ⟨s, (Zv _), hS, Z⟩
 refine Qw Z m ?_
 replace m := Zk m
 refine Qp (V (Zc (Zc (Zd (O Z Z (Zm (v := c) Z Z (O Z Z (Zr Jt Z Z j (O Z Z (Zm (v := U 0) Z Z (Zb (V ?_))))))))))))
 obtain ⟨ac, aw, a8, a6, a4⟩ := QO hm
 refine QJ (M := fun f' w' => ∃ s', (ac = .next s' ∨ ac = .brk s') ∧ (fun (_ : Unit) => ∃ (al : PHeap) , PHeap.le s al ∧ St w0 al (H) w' ∧ f' 0 = i ∧ f' 1 = c ∧ f' 12 = U ((p.length : Int))) s') ?_ ?_
 ·refine Qm (J4 (fun k' s' f' w' => (fun (_ : Unit) => ∃ (am : PHeap) , PHeap.le s am ∧ St w0 am (H) w' ∧ f' 0 = i ∧ f' 1 = c ∧ f' 12 = U ((p.length : Int)) ∧ f' 13 = U (k' : Int)) s') aw ?_ ?_ ?_)
  ·exact ⟨s, (Zv _), hS, Z, Z, Z, Z⟩
  ·intro g bp ad bf bv a5 ax d a9
   obtain ⟨aa, o, a1, y, u, z, x⟩ := ax
   refine Zc (Zd (O Z Z (Zq Z x z (Zb (V (Zc (QK (Zx (decide_eq_true (by omega))) (Qp (V (Zc (Qm (Zc (Zd (O Z Z (Zm (v := U ((g : Int))) Z x (O Z Z (Zo (v := U ((g : Int))) Z Z (Zb (V (Zc ?_))))))))))))))))))))
   obtain ⟨t, b, d⟩ := Zg d
   refine QJ (M := fun f' w' => (fun (t : Bool) => ∃ (an : PHeap) , PHeap.le aa an ∧ St w0 an (H) w' ∧ f' 0 = i ∧ f' 1 = c ∧ f' 12 = U ((p.length : Int)) ∧ f' 13 = U ((g : Int)) ∧ f' 31 = Vb t) t) ?_ ?_
   ·refine K3 (n0 := 16) (.q 0 (.q 1 (.q 2 (.q 3 (.q 4 (.q 5 (.q 6 (.q 7 (.q 8 (.q 9 (.q 10 (.q 11 (.q 12 (.q 13 (.q 14 (.q 15 .done)))))))))))))))) K8 (by kernel_rfl) (by kernel_rfl) ?_
    have l := a1.drew
    refine Qh Z Z (Zm (v := c) Z u ⟨Z, ?_⟩)
    refine Qh Z Z (Zm (v := U ((g : Int))) Z Z ⟨Z, ?_⟩)
    obtain ⟨aq, aj, b⟩ := Zg b
    refine Qh Z Z (QP Jt Z Z Z (j.mono o) aj ?_)
    intro aS bj ar aW
    refine ⟨Z, ?_⟩
    refine Qh Z Z (Zw (E := (Qa .i64)) l A3 Z Z Z ar ?_)
    intro bs aJ
    obtain rfl := Qs.1 aJ
    refine ⟨Z, ?_⟩
    refine Qh Z Z (Zq Z Z Z ⟨Z, ?_⟩)
    refine Qh Z Z (Zm (v := Vb (decide (aq < 0))) Z Z ⟨Z, ?_⟩)
    rcases Qg b with ⟨a, b⟩ | ⟨a, b⟩
    ·refine Qq Z Z (Zf Z (Zx a)) Z (Qq Z Z (Zf Z (Zx a)) Z (Qq Z Z (Zf Z (Zx a)) Z (Qq Z Z (Zf Z (Zx a)) Z (Qq Z Z (Zf Z (Zx a)) Z (Qq Z Z (Zf Z (Zx a)) Z (Qq Z Z (Zf Z (Zx a)) Z (Qq Z Z (Zf Z (Zx a)) Z (Qq Z Z (Zf Z (Zx a)) Z (Qh Z Z (Zs (v := Vb true) Z (Zx a) Z ⟨Z, ?_⟩))))))))))
     refine QC (Zb (V ?_))
     have aX := Zu b
     subst t
     exact ⟨aa, (Zv _), l, y, u, z, x, Z⟩
    replace a := Zk a
    refine Q9 Z Z (Zf Z (Zx a)) (Zm (v := c) Z u ⟨Z, ?_⟩)
    refine Q9 Z Z (Zf Z (Zx a)) (Zm (v := U ((g : Int))) Z Z ⟨Z, ?_⟩)
    refine Q9 Z Z (Zf Z (Zx a)) (QP Jt Z Z Z (j.mono o) aj ?_)
    intro aT bk au aY
    refine ⟨Z, ?_⟩
    refine Q9 Z Z (Zf Z (Zx a)) (Zw (E := (Qa .i64)) l A3 Z Z Z au ?_)
    intro bt aK
    obtain rfl := Qs.1 aK
    refine ⟨Z, ?_⟩
    refine Q9 Z Z (Zf Z (Zx a)) (Zm (v := i) Z y ⟨Z, ?_⟩)
    refine Q9 Z Z (Zf Z (Zx a)) (Zm (v := U ((g : Int))) Z Z ⟨Z, ?_⟩)
    obtain ⟨aP, aL, b⟩ := Zg b
    refine Q9 Z Z (Zf Z (Zx a)) (QP Jt Z Z Z (ab.mono o) aL ?_)
    intro aU bl av aZ
    refine ⟨Z, ?_⟩
    refine Q9 Z Z (Zf Z (Zx a)) (Zw (E := (Qa .i64)) l A3 Z Z Z av ?_)
    intro bu aM
    obtain rfl := Qs.1 aM
    refine ⟨Z, ?_⟩
    refine Q9 Z Z (Zf Z (Zx a)) (Exec.geq Z Z Z ⟨Z, ?_⟩)
    refine Qh Z Z (Q5 (v := Vb (decide (aP ≤ aq))) Z (Zx a) Z ⟨Z, ?_⟩)
    refine QC (Zb (V ?_))
    have ba := Zu b
    subst t
    exact ⟨aa, (Zv _), l, y, u, z, x, Z⟩
   intro bg bw az
   obtain ⟨ao, ag, ae, aD, aE, aF, aG, ah⟩ := az
   refine (V ?_)
   rcases Qg d with ⟨n, d⟩ | ⟨n, d⟩
   ·refine Qv ah n (Zc (Zd (O Z Z (Zo (v := Vb false) Z Z (Zb (V (Q1 (QD (Qj (Qj (QD (Qj (Qj ?_)))))))))))))
    have bb := Zu d
    subst ad
    have a7 := a8 _ (a9 (by intro _ h; cases h))
    have bc := Zu a7
    subst r
    refine ⟨_, QX Z, ?_⟩
    exact ⟨ao, (Zt o ag), ae, Z⟩
   refine Qw ah n ?_
   replace n := Zk n
   refine Qp (Qz (V (Zd (O Z Z (Exec.add Z aG Z (O Z Z (Zm (v := U (IntKind.i64.wrap ((g : Int) + 1))) Z Z (Zb (V ?_)))))))))
   have bd := Zu d
   subst ad
   refine ⟨_, Z, ?_⟩; exact ⟨ao, (Zt o ag), ae, aD, aE, aF, (Eq.trans Z (QB a5 (SliceRep.le j)))⟩
  intro bq bh bx ay aA
  obtain ⟨aN, aB, a2, aH, aI, ai, aQ⟩ := ay
  refine Zc (Zd (O Z Z (Zq Z aQ ai (Zb (V (Zc (QA (Zx (decide_eq_false (by omega))) (QF (Ql (Ql (Q7 (V ?_))))))))))))
  refine ⟨_, .inl aA, ?_⟩; exact ⟨aN, aB, a2, aH, aI, ai⟩
 rintro bi bz ⟨br, af, a0⟩
 have hm := af.elim (a6 _) (a4 _)
 clear af
 obtain ⟨aO, aC, a3, bm, bn, bo⟩ := a0
 refine (V (Zc (Zd (O Z Z (Zo (v := Vb true) Z Z (Zb (V (Q1 ?_))))))))
 have be := Zu hm
 subst r
 refine ⟨_, QX Z, ?_⟩
 exact ⟨aO, aC, a3, Z⟩
theorem N46 : (Tryz.f46.name == "runtime.NumGoroutine") = false := by kernel_rfl
theorem YS {w0 w : World} {s : PHeap} {H : List Res} {ag : (List Int)} {ad : (List Fact)} {ab : Value} {m : Value} {r : Bool} (hm : K7 ag ad = some r) (hS : St w0 s (H) w) (ah : SliceRep (Qa .i64) s ab ag) (af : SliceRep encFact s m ad) :
  Calls Tryz.prog 46 #[ab, m] w fun e w' => ∃ v, e = .returned v ∧ ((fun (bh : Bool) => ∃ (aq : PHeap) , PHeap.le s aq ∧ St w0 aq (H) w' ∧ v = Value.bool (bh)) r) := by
 unfold K7 at hm
 refine Qy Tryz.func46 Z Z (Zc (Zd (O Z Z (Zo (v := Vb false) Z Z (Zb (V (Zc (Zc (Zd (O Z Z (Zm (v := m) Z Z (O Z Z (Zr S23 Z Z af (O Z Z (Zm (v := U 0) Z Z (Zb (V ?_)))))))))))))))))
 obtain ⟨ai, a2, aL, aJ, aH⟩ := QO hm
 refine QJ (M := fun f' w' => ∃ s', (ai = .next s' ∨ ai = .brk s') ∧ (fun (_ : Unit) => ∃ (ar : PHeap) , PHeap.le s ar ∧ St w0 ar (H) w' ∧ f' 0 = ab ∧ f' 1 = m ∧ f' 7 = m ∧ f' 8 = U ((ad.length : Int))) s') ?_ ?_
 ·refine Qm (J4 (fun k' s' f' w' => (fun (_ : Unit) => ∃ (au : PHeap) , PHeap.le s au ∧ St w0 au (H) w' ∧ f' 0 = ab ∧ f' 1 = m ∧ f' 7 = m ∧ f' 8 = U ((ad.length : Int)) ∧ f' 9 = U (k' : Int)) s') a2 ?_ ?_ ?_)
  ·exact ⟨s, (Zv _), hS, Z, Z, Z, Z, Z⟩
  ·intro u bA aj bz bG aI a3 n aM
   obtain ⟨aa, ac, ak, t, x, y, z, o⟩ := a3
   refine Zc (Zd (O Z Z (Zq Z o z (Zb (V (Zc (QK (Zx (decide_eq_true (by omega))) (Qp (V (Zc (Qm (Zc (Zd (O Z Z (Zm (v := U ((u : Int))) Z o ?_)))))))))))))))
   obtain ⟨j, aY, n⟩ := Zg n
   refine O Z Z (Qu S23 Z y o (af.mono ac) aY ?_)
   intro bi b3 az
   refine O Z Z (Zw (E := encFact) ak A90 Z Z Z az ?_)
   intro bD aZ
   obtain rfl := Ye.1 aZ
   refine O Z Z (Exec.alloc (cs := [U 0, U 0]) ak Z90 Z Z ?_)
   intro bj bH a7
   refine O Z Z (Zo (v := U ((u : Int))) Z Z (O Z Z (Qf (ds := [U (j.Var), U (j.Val)]) (es := [U (j.Var), U (j.Val)]) a7 A90 Z Z Z Z (Zj Z (Zj Z Q6)) (Nat.le_of_ble_eq_true Z) Z ?_)))
   intro bI a8
   refine Zb (V (Zc ?_))
   obtain ⟨p, a, n⟩ := Zg n
   refine QJ (M := fun f' w' => (fun (p : Bool) => ∃ (av : PHeap) , PHeap.le aa av ∧ St w0 av (H) w' ∧ f' 0 = ab ∧ f' 1 = m ∧ f' 7 = m ∧ f' 8 = U ((ad.length : Int)) ∧ f' 9 = U ((u : Int)) ∧ f' 53 = Vb p) p) ?_ ?_
   ·refine K3 (n0 := 40) (.q 0 (.q 1 (.q 2 (.q 3 (.q 4 (.q 5 (.q 6 (.q 7 (.q 8 (.q 9 (.q 10 (.q 11 (.q 12 (.q 13 (.q 14 (.q 15 (.q 16 (.q 17 (.q 18 (.q 19 (.q 20 (.q 21 (.q 22 (.q 23 (.q 24 (.q 25 (.q 26 (.q 27 (.q 28 (.q 29 (.q 30 (.q 31 (.q 32 (.q 33 (.q 34 (.q 35 (.q 36 (.q 37 (.q 38 (.q 39 .done)))))))))))))))))))))))))))))))))))))))) K8 (by kernel_rfl) (by kernel_rfl) ?_
    have i := a8.drew
    refine Qh Z Z (Zp Yj Z Z Z ⟨Z, ?_⟩)
    refine Qh Z Z (Zn (i) A3 Z Z Z ⟨Z, ?_⟩)
    refine Qh Z Z (Zq Z Z Z ⟨Z, ?_⟩)
    refine Qh Z Z (Zm (v := Vb (decide (j.Var < 0))) Z Z ⟨Z, ?_⟩)
    rcases Qg a with ⟨d, a⟩ | ⟨d, a⟩
    ·refine Qq Z Z (Zf Z (Zx d)) Z (Qq Z Z (Zf Z (Zx d)) Z (Qq Z Z (Zf Z (Zx d)) Z (Qq Z Z (Zf Z (Zx d)) Z (Qq Z Z (Zf Z (Zx d)) Z (Qh Z Z (Zs (v := Vb true) Z (Zx d) Z ⟨Z, ?_⟩))))))
     refine Qh Z Z (Zm (v := Vb true) Z Z ⟨Z, ?_⟩)
     refine Qq Z Z (Zf Z Z) Z (Qq Z Z (Zf Z Z) Z (Qq Z Z (Zf Z Z) Z (Qh Z Z (Zs (v := Vb true) Z Z Z ⟨Z, ?_⟩))))
     refine Qh Z Z (Zm (v := Vb true) Z Z ⟨Z, ?_⟩)
     refine Qq Z Z (Zf Z Z) Z (Qq Z Z (Zf Z Z) Z (Qq Z Z (Zf Z Z) Z (Qq Z Z (Zf Z Z) Z (Qq Z Z (Zf Z Z) Z (Qq Z Z (Zf Z Z) Z (Qq Z Z (Zf Z Z) Z (Qq Z Z (Zf Z Z) Z (Qh Z Z (Zs (v := Vb true) Z Z Z ⟨Z, ?_⟩)))))))))
     refine Qh Z Z (Zm (v := Vb true) Z Z ⟨Z, ?_⟩)
     refine Qq Z Z (Zf Z Z) Z (Qq Z Z (Zf Z Z) Z (Qq Z Z (Zf Z Z) Z (QZ Z Z (Zh Z Z) (QZ Z Z (Zh Z Z) (QZ Z Z (Zh Z Z) (QZ Z Z (Zh Z Z) (QZ Z Z (Zh Z Z) (QZ Z Z (Zh Z Z) (QZ Z Z (Zh Z Z) (QZ Z Z (Zh Z Z) (QZ Z Z (Zh Z Z) (Qq Z Z (Zf Z Z) Z (Qh Z Z (Zs (v := Vb true) Z Z Z ⟨Z, ?_⟩))))))))))))))
     refine QC (Zb (V ?_))
     have bm := Zu a
     subst p
     have a9 := i.drop
     exact ⟨aa, (Zv _), a9, t, x, y, z, o, Z⟩
    replace d := Zk d
    refine Q9 Z Z (Zf Z (Zx d)) (Zp Yj Z Z Z ⟨Z, ?_⟩)
    refine Q9 Z Z (Zf Z (Zx d)) (Zn (i) A3 Z Z Z ⟨Z, ?_⟩)
    refine Q9 Z Z (Zf Z (Zx d)) (Zm (v := ab) Z t ⟨Z, ?_⟩)
    refine Q9 Z Z (Zf Z (Zx d)) (Zr Jt Z Z (ah.mono ac) ⟨Z, ?_⟩)
    refine Q9 Z Z (Zf Z (Zx d)) (Exec.geq Z Z Z ⟨Z, ?_⟩)
    refine Qh Z Z (Q5 (v := Vb (decide ((ag.length : Int) ≤ j.Var))) Z (Zx d) Z ⟨Z, ?_⟩)
    refine Qh Z Z (Zm (v := Vb (decide ((ag.length : Int) ≤ j.Var))) Z Z ⟨Z, ?_⟩)
    rcases Qg a with ⟨l, a⟩ | ⟨l, a⟩
    ·refine Qq Z Z (Zf Z (Zx l)) Z (Qq Z Z (Zf Z (Zx l)) Z (Qq Z Z (Zf Z (Zx l)) Z (Qh Z Z (Zs (v := Vb true) Z (Zx l) Z ⟨Z, ?_⟩))))
     refine Qh Z Z (Zm (v := Vb true) Z Z ⟨Z, ?_⟩)
     refine Qq Z Z (Zf Z Z) Z (Qq Z Z (Zf Z Z) Z (Qq Z Z (Zf Z Z) Z (Qq Z Z (Zf Z Z) Z (Qq Z Z (Zf Z Z) Z (Qq Z Z (Zf Z Z) Z (Qq Z Z (Zf Z Z) Z (Qq Z Z (Zf Z Z) Z (Qh Z Z (Zs (v := Vb true) Z Z Z ⟨Z, ?_⟩)))))))))
     refine Qh Z Z (Zm (v := Vb true) Z Z ⟨Z, ?_⟩)
     refine Qq Z Z (Zf Z Z) Z (Qq Z Z (Zf Z Z) Z (Qq Z Z (Zf Z Z) Z (QZ Z Z (Zh Z Z) (QZ Z Z (Zh Z Z) (QZ Z Z (Zh Z Z) (QZ Z Z (Zh Z Z) (QZ Z Z (Zh Z Z) (QZ Z Z (Zh Z Z) (QZ Z Z (Zh Z Z) (QZ Z Z (Zh Z Z) (QZ Z Z (Zh Z Z) (Qq Z Z (Zf Z Z) Z (Qh Z Z (Zs (v := Vb true) Z Z Z ⟨Z, ?_⟩))))))))))))))
     refine QC (Zb (V ?_))
     have bn := Zu a
     subst p
     have aA := i.drop
     exact ⟨aa, (Zv _), aA, t, x, y, z, o, Z⟩
    replace l := Zk l
    refine Q9 Z Z (Zf Z (Zx l)) (Zp QdX Z Z Z ⟨Z, ?_⟩)
    refine Q9 Z Z (Zf Z (Zx l)) (Zn (i) A3 Z Z Z ⟨Z, ?_⟩)
    refine Q9 Z Z (Zf Z (Zx l)) (Zq Z Z Z ⟨Z, ?_⟩)
    refine Qh Z Z (Q5 (v := Vb (decide (j.Val < 0))) Z (Zx l) Z ⟨Z, ?_⟩)
    refine Qh Z Z (Zm (v := Vb (decide (j.Val < 0))) Z Z ⟨Z, ?_⟩)
    rcases Qg a with ⟨c, a⟩ | ⟨c, a⟩
    ·refine Qq Z Z (Zf Z (Zx c)) Z (Qq Z Z (Zf Z (Zx c)) Z (Qq Z Z (Zf Z (Zx c)) Z (Qq Z Z (Zf Z (Zx c)) Z (Qq Z Z (Zf Z (Zx c)) Z (Qq Z Z (Zf Z (Zx c)) Z (Qq Z Z (Zf Z (Zx c)) Z (Qq Z Z (Zf Z (Zx c)) Z (Qh Z Z (Zs (v := Vb true) Z (Zx c) Z ⟨Z, ?_⟩)))))))))
     refine Qh Z Z (Zm (v := Vb true) Z Z ⟨Z, ?_⟩)
     refine Qq Z Z (Zf Z Z) Z (Qq Z Z (Zf Z Z) Z (Qq Z Z (Zf Z Z) Z (QZ Z Z (Zh Z Z) (QZ Z Z (Zh Z Z) (QZ Z Z (Zh Z Z) (QZ Z Z (Zh Z Z) (QZ Z Z (Zh Z Z) (QZ Z Z (Zh Z Z) (QZ Z Z (Zh Z Z) (QZ Z Z (Zh Z Z) (QZ Z Z (Zh Z Z) (Qq Z Z (Zf Z Z) Z (Qh Z Z (Zs (v := Vb true) Z Z Z ⟨Z, ?_⟩))))))))))))))
     refine QC (Zb (V ?_))
     have bo := Zu a
     subst p
     have aB := i.drop
     exact ⟨aa, (Zv _), aB, t, x, y, z, o, Z⟩
    replace c := Zk c
    refine Q9 Z Z (Zf Z (Zx c)) (Zp QdX Z Z Z ⟨Z, ?_⟩)
    refine Q9 Z Z (Zf Z (Zx c)) (Zn (i) A3 Z Z Z ⟨Z, ?_⟩)
    refine Q9 Z Z (Zf Z (Zx c)) (Zm (v := ab) Z t ⟨Z, ?_⟩)
    refine Q9 Z Z (Zf Z (Zx c)) (Zp Yj Z Z Z ⟨Z, ?_⟩)
    refine Q9 Z Z (Zf Z (Zx c)) (Zn (i) A3 Z Z Z ⟨Z, ?_⟩)
    obtain ⟨ax, ba, a⟩ := Zg a
    refine Q9 Z Z (Zf Z (Zx c)) (QP Jt Z Z Z (ah.mono ac) ba ?_)
    intro bk b4 a0 bp
    refine ⟨Z, ?_⟩
    refine Q9 Z Z (Zf Z (Zx c)) (Zw (E := (Qa .i64)) i A3 Z Z Z a0 ?_)
    intro bE bb
    obtain rfl := Qs.1 bb
    refine ⟨Z, ?_⟩
    refine Q9 Z Z (Zf Z (Zx c)) (Exec.geq Z Z Z ⟨Z, ?_⟩)
    refine Qh Z Z (Q5 (v := Vb (decide (ax ≤ j.Val))) Z (Zx c) Z ⟨Z, ?_⟩)
    refine Qh Z Z (Zm (v := Vb (decide (ax ≤ j.Val))) Z Z ⟨Z, ?_⟩)
    rcases Qg a with ⟨g, a⟩ | ⟨g, a⟩
    ·refine Qq Z Z (Zf Z (Zx g)) Z (Qq Z Z (Zf Z (Zx g)) Z (Qq Z Z (Zf Z (Zx g)) Z (QZ Z Z (Zh Z Z) (QZ Z Z (Zh Z Z) (QZ Z Z (Zh Z Z) (QZ Z Z (Zh Z Z) (QZ Z Z (Zh Z Z) (QZ Z Z (Zh Z Z) (QZ Z Z (Zh Z Z) (QZ Z Z (Zh Z Z) (QZ Z Z (Zh Z Z) (Qq Z Z (Zf Z (Zx g)) Z (Qh Z Z (Zs (v := Vb true) Z (Zx g) Z ⟨Z, ?_⟩))))))))))))))
     refine QC (Zb (V ?_))
     have bq := Zu a
     subst p
     have aC := i.drop
     exact ⟨aa, (Zv _), aC, t, x, y, z, o, Z⟩
    replace g := Zk g
    refine Q9 Z Z (Zf Z (Zx g)) (Zm (v := U ((u : Int))) Z Z ⟨Z, ?_⟩)
    refine Q9 Z Z (Zf Z (Zx g)) (Exec.gtr Z Z Z ⟨Z, ?_⟩)
    refine Q9 Z Z (Zf Z (Zx g)) (Zm (v := Vb (decide (0 < (u : Int)))) Z Z ⟨Z, ?_⟩)
    rcases Qg a with ⟨b, a⟩ | ⟨b, a⟩
    ·refine Q9 Z Z (Zf Z (Zx b)) (Zm (v := m) Z x ⟨Z, ?_⟩)
     refine Q9 Z Z (Zf Z (Zx b)) (Zm (v := U ((u : Int))) Z Z ⟨Z, ?_⟩)
     refine Q9 Z Z (Zf Z (Zx b)) (Exec.sub Z Z Z ⟨Z, ?_⟩)
     obtain ⟨ay, bc, a⟩ := Zg a
     refine Q9 Z Z (Zf Z (Zx b)) (QP S23 Z Z Z (af.mono ac) bc ?_)
     intro bl b5 a1 br
     refine ⟨Z, ?_⟩
     refine Q9 Z Z (Zf Z (Zx b)) (Zp Yj Z Z Z ⟨Z, ?_⟩)
     refine Q9 Z Z (Zf Z (Zx b)) (Zw (E := (Qa .i64)) i A3 Z Z Z (a1.sub (Sub.iso (QhB (Sub.refl _))) Z) ?_)
     intro bF bd
     obtain rfl := Qs.1 bd
     refine ⟨Z, ?_⟩
     refine Q9 Z Z (Zf Z (Zx b)) (Zp Yj Z Z Z ⟨Z, ?_⟩)
     refine Q9 Z Z (Zf Z (Zx b)) (Zn (i) A3 Z Z Z ⟨Z, ?_⟩)
     refine Q9 Z Z (Zf Z (Zx b)) (Exec.geq Z Z Z ⟨Z, ?_⟩)
     refine Q9 Z Z (Zf Z (Zx g)) (Zs (v := Vb (decide (j.Var ≤ ay.Var))) Z (Zx b) Z ⟨Z, ?_⟩)
     refine Qh Z Z (Q5 (v := Vb (decide (j.Var ≤ ay.Var))) Z (Zx g) Z ⟨Z, ?_⟩)
     refine QC (Zb (V ?_))
     have bs := Zu a
     subst p
     have aD := i.drop
     exact ⟨aa, (Zv _), aD, t, x, y, z, o, Z⟩
    replace b := Zk b
    refine Qq Z Z (Zf Z (Zx b)) Z (Qq Z Z (Zf Z (Zx b)) Z (Qq Z Z (Zf Z (Zx b)) Z (Qq Z Z (Zf Z (Zx b)) Z (Qq Z Z (Zf Z (Zx b)) Z (Qq Z Z (Zf Z (Zx b)) Z (Qq Z Z (Zf Z (Zx b)) Z (Qq Z Z (Zf Z (Zx b)) Z (Qq Z Z (Zf Z (Zx b)) Z (Q9 Z Z (Zf Z (Zx g)) (Q5 (v := Vb false) Z (Zx b) Z ⟨Z, ?_⟩))))))))))
    refine Qh Z Z (Q5 (v := Vb false) Z (Zx g) Z ⟨Z, ?_⟩)
    refine QC (Zb (V ?_))
    have bt := Zu a
    subst p
    have aE := i.drop
    exact ⟨aa, (Zv _), aE, t, x, y, z, o, Z⟩
   intro b0 bJ a5
   obtain ⟨aw, an, al, aQ, aR, aS, aT, aU, ao⟩ := a5
   refine (V ?_)
   rcases Qg n with ⟨ae, n⟩ | ⟨ae, n⟩
   ·refine Qv ao ae (Zc (Zd (O Z Z (Zo (v := Vb false) Z Z (Zb (V (Q1 (QD (Qj (Qj (QD (Qj (Qj ?_)))))))))))))
    have bu := Zu n
    subst aj
    have aK := aL _ (aM (by intro _ h; cases h))
    have bv := Zu aK
    subst r
    refine ⟨_, QX Z, ?_⟩
    exact ⟨aw, (Zt ac an), al, Z⟩
   refine Qw ao ae ?_
   replace ae := Zk ae
   refine Qp (Qz (V (Zd (O Z Z (Exec.add Z aU Z (O Z Z (Zm (v := U (IntKind.i64.wrap ((u : Int) + 1))) Z Z (Zb (V ?_)))))))))
   have bw := Zu n
   subst aj
   refine ⟨_, Z, ?_⟩; exact ⟨aw, (Zt ac an), al, aQ, aR, aS, aT, (Eq.trans Z (QB aI (SliceRep.le af)))⟩
  intro bB b1 bK a4 aN
  obtain ⟨be, aO, aF, aV, aW, aX, ap, bg⟩ := a4
  refine Zc (Zd (O Z Z (Zq Z bg ap (Zb (V (Zc (QA (Zx (decide_eq_false (by omega))) (QF (Ql (Ql (Q7 (V ?_))))))))))))
  refine ⟨_, .inl aN, ?_⟩; exact ⟨be, aO, aF, aV, aW, aX, ap⟩
 rintro b2 bL ⟨bC, am, a6⟩
 have hm := am.elim (aJ _) (aH _)
 clear am
 obtain ⟨bf, aP, aG, b6, b7, b8, b9⟩ := a6
 refine (V (Zc (Zd (O Z Z (Zo (v := Vb true) Z Z (Zb (V (Q1 ?_))))))))
 have bx := Zu hm
 subst r
 refine ⟨_, QX Z, ?_⟩
 exact ⟨bf, aP, aG, Z⟩
theorem N47 : (Tryz.f47.name == "runtime.NumGoroutine") = false := by kernel_rfl
theorem Qe3 {w0 w : World} {s : PHeap} {H : List Res} {bd : (List Int)} {a : Op} {i : Value} {ad : Value} {n : Value} {r : Bool} (hm : Yr bd a = some r) (hS : St w0 s (H) w) (av : SliceRep (Qa .i64) s i bd) (bf : SliceRep encFact s ad a.Pre) (al : SliceRep encEffect s n a.Effs) :
  Calls Tryz.prog 47 #[i, Value.agg #[Value.string (a.Name), U (a.Cost), ad, n]] w fun e w' => ∃ v, e = .returned v ∧ ((fun (cw : Bool) => ∃ (aS : PHeap) , PHeap.le s aS ∧ St w0 aS (H) w' ∧ v = Value.bool (cw)) r) := by
 unfold Yr at hm
 refine Qy Tryz.func47 Z Z (Zc (Zd (O Z Z (Exec.box (cs := [Value.string (a.Name), U (a.Cost), ad, n]) hS Z Z Z ?_))))
 intro x dh j
 refine O Z Z (Zo (v := Vb false) Z Z (Zb (V (Zc (Zc ?_)))))
 obtain ⟨z, b, hm⟩ := Zg hm
 refine QJ (M := fun f' w' => (fun (z : Bool) => ∃ (aT : PHeap) , PHeap.le s aT ∧ St w0 aT (Res.box x 60 [Value.string (a.Name), U (a.Cost), ad, n] :: H) w' ∧ f' 0 = i ∧ f' 3 = Vp (some ⟨x, 0, none⟩) ∧ f' 34 = Vb z) z) ?_ ?_
 ·refine Zd (O Z Z (Zp QgW Z Z Z (O Z Z (Zn (j) A3 Z Z Z (O Z Z (Zq Z Z Z (O Z Z (Zm (v := Vb (decide (a.Cost < 0))) Z Z ?_))))))))
  rcases Qg b with ⟨y, b⟩ | ⟨y, b⟩
  ·refine Q0 23 (by rw [y]; rfl) ?_
   refine Zb (V ?_)
   have c3 := Zu b
   subst z
   exact ⟨s, (Zv _), j, Z, Z, Z⟩
  replace y := Zk y
  refine Qo Z (Zf Z (Zx y)) Z (Zp QgW Z Z Z (Qo Z (Zf Z (Zx y)) Z (Zn (j) A3 Z Z Z (Qo Z (Zf Z (Zx y)) Z (Exec.gtr Z Z Z ?_)))))
  refine Q0 2 (by rw [y]; rfl) ?_
  rcases Qg b with ⟨o, b⟩ | ⟨o, b⟩
  ·refine Q0 18 (by rw [o]; rfl) ?_
   refine Zb (V ?_)
   have c4 := Zu b
   subst z
   exact ⟨s, (Zv _), j, Z, Z, Z⟩
  replace o := Zk o
  refine Qo Z (Zf Z (Zx o)) Z (Zp QdY Z Z Z (Qo Z (Zf Z (Zx o)) Z (Zn (j) A58 Z Z Z (Qo Z (Zf Z (Zx o)) Z (Zr S58 Z Z al (Qo Z (Zf Z (Zx o)) Z (Exec.gtr Z Z Z ?_)))))))
  refine Q0 2 (by rw [o]; rfl) ?_
  rcases Qg b with ⟨p, b⟩ | ⟨p, b⟩
  ·refine Q0 12 (by rw [p]; rfl) ?_
   refine Zb (V ?_)
   have c5 := Zu b
   subst z
   exact ⟨s, (Zv _), j, Z, Z, Z⟩
  replace p := Zk p
  refine Qo Z (Zf Z (Zx p)) Z (Zp Qij Z Z Z (Qo Z (Zf Z (Zx p)) Z (Zn (j) A9 Z Z Z (Qo Z (Zf Z (Zx p)) Z (Qaz Tryz.underlying9 Z Z (Qo Z (Zf Z (Zx p)) Z (Exec.gtr Z Z Z ?_)))))))
  refine Q0 2 (by rw [p]; rfl) ?_
  rcases Qg b with ⟨l, b⟩ | ⟨l, b⟩
  ·refine Q0 6 (by rw [l]; rfl) ?_
   refine Zb (V ?_)
   have c6 := Zu b
   subst z
   exact ⟨s, (Zv _), j, Z, Z, Z⟩
  replace l := Zk l
  refine Qo Z (Zf Z (Zx l)) Z (Zm (v := i) Z Z (Qo Z (Zf Z (Zx l)) Z (Zp Qii Z Z Z (Qo Z (Zf Z (Zx l)) Z (Zn (j) A23 Z Z Z ?_)))))
  obtain ⟨cx, cf, b⟩ := Zg b
  refine Qo Z (Zf Z (Zx l)) Z (Exec.call Z Z Tryz.func46 Z N46 (Zi Z (Zi Z Qk)) ((YS cf j av bf).mono ?_))
  rintro _ di ⟨_, rfl, ⟨cm, bL, bs, rfl⟩⟩
  refine ⟨_, Z, ?_⟩
  refine Qo Z (Zf Z (Zx l)) Z (Exec.not Z Z (O Z Z (Q5 (v := Vb (!cx)) Z (Zx l) Z (Zb (V ?_)))))
  have c7 := Zu b
  subst z
  exact ⟨cm, bL, bs, Z, Z, Z⟩
 intro cK dj bn
 obtain ⟨aq, u, aw, bQ, aJ, aK⟩ := bn
 refine (V ?_)
 rcases Qg hm with ⟨af, hm⟩ | ⟨af, hm⟩
 ·refine Qv aK af (Zc (Zd (O Z Z (Zo (v := Vb false) Z Z (Zb (V (Q1 (Qj ?_))))))))
  have c8 := Zu hm
  subst r
  refine ⟨_, QX Z, ?_⟩
  have bt := aw.drop
  exact ⟨aq, u, bt, Z⟩
 refine Qw aK af ?_
 replace af := Zk af
 refine Qp (V (Zc (Zc (Zd (O Z Z (Zp Qij Z aJ Z (O Z Z (Zn (aw) A9 Z Z Z (O Z Z (Qaz Tryz.underlying9 Z Z (O Z Z (Zm (v := U 0) Z Z (Zb (V ?_))))))))))))))
 obtain ⟨df, cg, hm⟩ := Zg hm
 obtain ⟨a3, bh, bF, bB, b7⟩ := QO hm
 refine QJ (M := fun f' w' => ∃ s', (a3 = .next s' ∨ a3 = .brk s') ∧ (fun (_ : Unit) => ∃ (aU : PHeap) , PHeap.le aq aU ∧ St w0 aU (Res.box x 60 [Value.string (a.Name), U (a.Cost), ad, n] :: H) w' ∧ f' 0 = i ∧ f' 3 = Vp (some ⟨x, 0, none⟩) ∧ f' 37 = U ((a.Name.size : Int))) s') ?_ ?_
 ·refine Qm (J4 (fun k' s' f' w' => (fun (_ : Unit) => ∃ (aV : PHeap) , PHeap.le aq aV ∧ St w0 aV (Res.box x 60 [Value.string (a.Name), U (a.Cost), ad, n] :: H) w' ∧ f' 0 = i ∧ f' 3 = Vp (some ⟨x, 0, none⟩) ∧ f' 37 = U ((a.Name.size : Int)) ∧ f' 38 = U (k' : Int)) s') bh ?_ ?_ ?_)
  ·exact ⟨aq, (Zv _), aw, bQ, aJ, Z, Z⟩
  ·intro ae cZ a4 cL dk b9 bj aa bH
   obtain ⟨a1, aF, am, aL, ao, ay, ar⟩ := bj
   refine Zc (Zd (O Z Z (Zq Z ar ay (Zb (V (Zc (QK (Zx (decide_eq_true (by omega))) (Qp (V (Zc (Qm (Zc (Zd (O Z Z (Zm (v := U ((ae : Int))) Z ar (O Z Z (Zo (v := U ((ae : Int))) Z Z (Zb (V (Zc ?_))))))))))))))))))))
   obtain ⟨aj, ab, aa⟩ := Zg aa
   refine QJ (M := fun f' w' => (fun (aj : Bool) => ∃ (aW : PHeap) , PHeap.le a1 aW ∧ St w0 aW (Res.box x 60 [Value.string (a.Name), U (a.Cost), ad, n] :: H) w' ∧ f' 0 = i ∧ f' 3 = Vp (some ⟨x, 0, none⟩) ∧ f' 37 = U ((a.Name.size : Int)) ∧ f' 38 = U ((ae : Int)) ∧ f' 52 = Vb aj) aj) ?_ ?_
   ·refine Zd (O Z Z (Zp Qij Z ao Z (O Z Z (Zn (am) A9 Z Z Z (O Z Z (Zm (v := U ((ae : Int))) Z Z ?_))))))
    obtain ⟨be, aQ, ab⟩ := Zg ab
    refine O Z Z (Qa1 Tryz.underlying9 Z Z Z aQ (O Z Z (Zq Z Z Z (O Z Z (Zm (v := Vb (decide (be < 32))) Z Z ?_)))))
    rcases Qg ab with ⟨m, ab⟩ | ⟨m, ab⟩
    ·refine Q0 6 (by rw [m]; rfl) ?_
     refine Zb (V ?_)
     have c9 := Zu ab
     subst aj
     exact ⟨a1, (Zv _), am, aL, ao, ay, ar, Z⟩
    replace m := Zk m
    refine Qo Z (Zf Z (Zx m)) Z (Zp Qij Z ao Z (Qo Z (Zf Z (Zx m)) Z (Zn (am) A9 Z Z Z (Qo Z (Zf Z (Zx m)) Z (Zm (v := U ((ae : Int))) Z Z (Qo Z (Zf Z (Zx m)) Z (Qa1 Tryz.underlying9 Z Z Z aQ (Qo Z (Zf Z (Zx m)) Z (Exec.gtr Z Z Z (O Z Z (Q5 (v := Vb (decide (126 < be))) Z (Zx m) Z (Zb (V ?_)))))))))))))
    have cA := Zu ab
    subst aj
    exact ⟨a1, (Zv _), am, aL, ao, ay, ar, Z⟩
   intro cM dl bo
   obtain ⟨aX, aG, a7, bR, bS, bT, bU, aM⟩ := bo
   refine (V ?_)
   rcases Qg aa with ⟨ag, aa⟩ | ⟨ag, aa⟩
   ·refine Qv aM ag (Zc (Zd (O Z Z (Zo (v := Vb false) Z Z (Zb (V (Q1 (QD (Qj (Qj (QD (Qj (Qj ?_)))))))))))))
    have cB := Zu aa
    subst a4
    have bD := bF _ (bH (by intro _ h; cases h))
    have cC := Zu bD
    subst r
    refine ⟨_, QX Z, ?_⟩
    have bu := a7.drop
    exact ⟨aX, (Zt (Zt u aF) aG), bu, Z⟩
   refine Qw aM ag ?_
   replace ag := Zk ag
   refine Qp (Qz (V (Zd (O Z Z (Exec.add Z bU Z (O Z Z (Zm (v := U (IntKind.i64.wrap ((ae : Int) + 1))) Z Z (Zb (V ?_)))))))))
   have cD := Zu aa
   subst a4
   refine ⟨_, Z, ?_⟩; exact ⟨aX, (Zt aF aG), a7, bR, bS, bT, (Eq.trans Z (QB b9 (by have h := QT cg; simp at h; simp only [maxLen]; omega)))⟩
  intro da cN dm bk bI
  obtain ⟨cn, bM, bv, bV, bW, aN, cu⟩ := bk
  refine Zc (Zd (O Z Z (Zq Z cu aN (Zb (V (Zc (QA (Zx (decide_eq_false (by omega))) (QF (Ql (Ql (Q7 (V ?_))))))))))))
  refine ⟨_, .inl bI, ?_⟩; exact ⟨cn, bM, bv, bV, bW, aN⟩
 rintro cO dn ⟨db, aC, bp⟩
 have hm := aC.elim (bB _) (b7 _)
 clear aC
 obtain ⟨a2, ac, a8, bX, bY, cU⟩ := bp
 refine (V (Zc (Zc (Zd (O Z Z (Zp QdY Z bY Z (O Z Z (Zn (a8) A58 Z Z Z (O Z Z (Zr S58 Z Z (al.mono (Zt u ac)) (O Z Z (Zm (v := U 0) Z Z (Zb (V ?_))))))))))))))
 obtain ⟨a5, bi, bG, bC, b8⟩ := QO hm
 refine QJ (M := fun f' w' => ∃ s', (a5 = .next s' ∨ a5 = .brk s') ∧ (fun (_ : Unit) => ∃ (aY : PHeap) , PHeap.le a2 aY ∧ St w0 aY (H) w' ∧ f' 0 = i ∧ f' 55 = n ∧ f' 56 = U ((a.Effs.length : Int))) s') ?_ ?_
 ·refine Qm (J4 (fun k' s' f' w' => (fun (_ : Unit) => ∃ (aZ : PHeap) , PHeap.le a2 aZ ∧ St w0 aZ (H) w' ∧ f' 0 = i ∧ f' 55 = n ∧ f' 56 = U ((a.Effs.length : Int)) ∧ f' 57 = U (k' : Int)) s') bi ?_ ?_ ?_)
  ·have bw := a8.drop
   exact ⟨a2, (Zv _), bw, bX, Z, Z, Z⟩
  ·intro aE dc a6 cP dp bA bl q bJ
   obtain ⟨co, ai, a9, ap, az, a0, au⟩ := bl
   refine Zc (Zd (O Z Z (Zq Z au a0 (Zb (V (Zc (QK (Zx (decide_eq_true (by omega))) (Qp (V (Zc (Qm (Zc (Zd ?_)))))))))))))
   obtain ⟨d, ch, q⟩ := Zg q
   refine O Z Z (Qu S58 Z az au (al.mono (Zt (Zt u ac) ai)) ch ?_)
   intro c0 cT bg
   refine O Z Z (Zw (E := encEffect) a9 A95 Z Z Z bg ?_)
   intro dg ci
   obtain ⟨bc, rfl, aR⟩ := Yv.1 ci
   refine O Z Z (Exec.alloc (cs := [Vs none 0 0, U 0, U 0]) a9 Z95 Z Z ?_)
   intro c1 dq bx
   refine O Z Z (Qf (ds := [bc, U (d.Var), U (d.Val)]) (es := [bc, U (d.Var), U (d.Val)]) bx A95 Z Z Z Z (Zj aR.one (Zj Z (Zj Z Q6))) (Nat.le_of_ble_eq_true Z) Z ?_)
   intro dr aA
   refine Zb (V (Zc ?_))
   obtain ⟨ak, t, q⟩ := Zg q
   refine QJ (M := fun f' w' => (fun (ak : Bool) => ∃ (ba : PHeap) , PHeap.le co ba ∧ St w0 ba (H) w' ∧ f' 0 = i ∧ f' 55 = n ∧ f' 56 = U ((a.Effs.length : Int)) ∧ f' 57 = U ((aE : Int)) ∧ f' 76 = Vb ak) ak) ?_ ?_
   ·refine Zd (O Z Z (Zm (v := i) Z ap (O Z Z (Zp Qih Z Z Z (O Z Z (Zn (aA) A23 Z Z Z ?_))))))
    obtain ⟨cy, cj, t⟩ := Zg t
    refine O Z Z (Exec.call Z Z Tryz.func46 Z N46 (Zi Z (Zi Z Qk)) ((YS cj aA (av.mono (Zt (Zt u ac) ai)) aR).mono ?_))
    rintro _ dt ⟨_, rfl, ⟨cp, ax, an, rfl⟩⟩
    refine ⟨_, Z, ?_⟩
    refine O Z Z (Exec.not Z Z (O Z Z (Zm (v := Vb (!cy)) Z Z ?_)))
    rcases Qg t with ⟨g, t⟩ | ⟨g, t⟩
    ·refine Q0 10 (by rw [g]; rfl) ?_
     refine Zb (V ?_)
     have cE := Zu t
     subst ak
     have bz := an.drop
     exact ⟨cp, ax, bz, ap, az, a0, au, Z⟩
    replace g := Zk g
    refine Qo Z (Zf Z (Zx g)) Z (Zm (v := i) Z ap (Qo Z (Zf Z (Zx g)) Z (Zp QgV Z Z Z (Qo Z (Zf Z (Zx g)) Z (Zn (an) A3 Z Z Z (Qo Z (Zf Z (Zx g)) Z (Zp QjG Z Z Z (Qo Z (Zf Z (Zx g)) Z (Zn (an) A3 Z Z Z (Qo Z (Zf Z (Zx g)) Z (Exec.build Z (Qb (c := [U (d.Var)]) (Qi Z Z) (Qb (c := [U (d.Val)]) (Qi Z Z) Qx)) (v := Value.agg #[U (d.Var), U (d.Val)]) (fun _ => by kernel_rfl) (Qo Z (Zf Z (Zx g)) Z (Exec.buildSlice (Te := 90) (cs := [U (d.Var), U (d.Val)]) an Z (Qb (c := [U (d.Var), U (d.Val)]) (Qi Z Z) Qx) (fun _ => by kernel_rfl) ?_)))))))))))))
    intro c2 du b0
    have b1 := St.boxArr (E := encFact) (xs := [(⟨d.Var, d.Val⟩ : Fact)]) b0 ⟨[U (d.Var), U (d.Val)], [], rfl, ⟨[U (d.Var)], [U (d.Val)], rfl, rfl, rfl⟩, rfl⟩ (by simp [maxLen])
    obtain ⟨cY, aH, b2, cl⟩ := b1.freezeArr
    obtain ⟨cz, ck, t⟩ := Zg t
    refine Qo Z (Zf Z (Zx g)) Z (Exec.call Z Z Tryz.func46 Z N46 (Zi Z (Zi Z Qk)) ((YS ck b2 (av.mono (Zt (Zt (Zt (Zt u ac) ai) ax) aH)) cl).mono ?_))
    rintro _ dv ⟨_, rfl, ⟨cq, bN, b3, rfl⟩⟩
    refine ⟨_, Z, ?_⟩
    refine Qo Z (Zf Z (Zx g)) Z (Exec.not Z Z (O Z Z (Q5 (v := Vb (!cz)) Z (Zx g) Z (Zb (V ?_)))))
    have cF := Zu t
    subst ak
    have b4 := b3.drop
    exact ⟨cq, (Zt (Zt ax aH) bN), b4, ap, az, a0, au, Z⟩
   intro cQ dw bq
   obtain ⟨bb, aI, aB, bZ, ca, cb, cc, aO⟩ := bq
   refine (V ?_)
   rcases Qg q with ⟨ah, q⟩ | ⟨ah, q⟩
   ·refine Qv aO ah (Zc (Zd (O Z Z (Zo (v := Vb false) Z Z (Zb (V (Q1 (QD (Qj (Qj (QD (Qj (Qj ?_)))))))))))))
    have cG := Zu q
    subst a6
    have bE := bG _ (bJ (by intro _ h; cases h))
    have cH := Zu bE
    subst r
    refine ⟨_, QX Z, ?_⟩
    exact ⟨bb, (Zt (Zt (Zt u ac) ai) aI), aB, Z⟩
   refine Qw aO ah ?_
   replace ah := Zk ah
   refine Qp (Qz (V (Zd (O Z Z (Exec.add Z cc Z (O Z Z (Zm (v := U (IntKind.i64.wrap ((aE : Int) + 1))) Z Z (Zb (V ?_)))))))))
   have cI := Zu q
   subst a6
   refine ⟨_, Z, ?_⟩; exact ⟨bb, (Zt ai aI), aB, bZ, ca, cb, (Eq.trans Z (QB bA (SliceRep.le (al.mono (Zt u ac)))))⟩
  intro dd cR dx bm bK
  obtain ⟨cr, bO, b5, cd, ce, aP, cv⟩ := bm
  refine Zc (Zd (O Z Z (Zq Z cv aP (Zb (V (Zc (QA (Zx (decide_eq_false (by omega))) (QF (Ql (Ql (Q7 (V ?_))))))))))))
  refine ⟨_, .inl bK, ?_⟩; exact ⟨cr, bO, b5, cd, ce, aP⟩
 rintro cS dy ⟨de, aD, br⟩
 have hm := aD.elim (bC _) (b8 _)
 clear aD
 obtain ⟨ct, bP, b6, cV, cW, cX⟩ := br
 refine (V (Zc (Zd (O Z Z (Zo (v := Vb true) Z Z (Zb (V (Q1 ?_))))))))
 have cJ := Zu hm
 subst r
 refine ⟨_, QX Z, ?_⟩
 exact ⟨ct, (Zt (Zt u ac) bP), b6, Z⟩
theorem N27 : (Tryz.f27.name == "runtime.NumGoroutine") = false := by kernel_rfl
theorem QgG {w0 w : World} {s : PHeap} {H : List Res} {b : Task} {d : Value} {m : Value} {n : Value} {g : Value} {r : Bool} (hm : QaZ b = some r) (hS : St w0 s (H) w) (u : SliceRep (Qa .i64) s d b.Vars) (bb : SliceRep (Qa .i64) s m b.Init) (bc : SliceRep encFact s n b.Goal) (ag : SliceRep encOp s g b.Ops) :
  Calls Tryz.prog 27 #[Value.agg #[d, m, n, g]] w fun e w' => ∃ v, e = .returned v ∧ ((fun (cj : Bool) => ∃ (aR : PHeap) , PHeap.le s aR ∧ St w0 aR (H) w' ∧ v = Value.bool (cj)) r) := by
 unfold QaZ at hm
 refine Qy Tryz.func27 Z Z (Zc (Zd (O Z Z (Exec.box (cs := [d, m, n, g]) hS Z Z Z ?_))))
 intro c cQ ah
 refine O Z Z (Zo (v := Vb false) Z Z (Zb (V (Zc (Zc (QJ (M := fun f' w' => ∃ (aS : PHeap) , PHeap.le s aS ∧ St w0 aS (Res.box c 26 [d, m, n, g] :: H) w' ∧ f' 1 = Vp (some ⟨c, 0, none⟩) ∧ f' 16 = Vb (((decide (64 < (b.Vars.length : Int))) || decide (4096 < (b.Ops.length : Int))))) ?_ ?_))))))
 ·refine Zd (O Z Z (Zp Yk Z Z Z (O Z Z (Zn (ah) A22 Z Z Z (O Z Z (Zr Jt Z Z u (O Z Z (Exec.gtr Z Z Z (O Z Z (Zm (v := Vb (decide (64 < (b.Vars.length : Int)))) Z Z ?_))))))))))
  by_cases l : (decide (64 < (b.Vars.length : Int))) = true
  ·refine Q0 5 (by rw [l]; rfl) ?_
   refine Zb (V ?_)
   exact ⟨s, (Zv _), ah, Z, (Zx (QdV l)).symm⟩
  replace l := Zk l
  refine Qo Z (Zf Z (Zx l)) Z (Zp Qaa Z Z Z (Qo Z (Zf Z (Zx l)) Z (Zn (ah) A24 Z Z Z (Qo Z (Zf Z (Zx l)) Z (Zr S24 Z Z ag (Qo Z (Zf Z (Zx l)) Z (Exec.gtr Z Z Z (O Z Z (Q5 (v := Vb (decide (4096 < (b.Ops.length : Int)))) Z (Zx l) Z (Zb (V ?_)))))))))))
  exact ⟨s, (Zv _), ah, Z, (Zx (Qaj l)).symm⟩
 intro c1 cR bl
 obtain ⟨al, a, ao, aE, aF⟩ := bl
 refine (V ?_)
 rcases Qg hm with ⟨ab, hm⟩ | ⟨ab, hm⟩
 ·refine Qv aF ab (Zc (Zd (O Z Z (Zo (v := Vb false) Z Z (Zb (V (Q1 (Qj ?_))))))))
  have cp := Zu hm
  subst r
  refine ⟨_, QX Z, ?_⟩
  have bq := ao.drop
  exact ⟨al, a, bq, Z⟩
 refine Qw aF ab ?_
 replace ab := Zk ab
 refine Qp (V (Zc (Zc (Zd (O Z Z (Zp Yk Z aE Z (O Z Z (Zn (ao) A22 Z Z Z (O Z Z (Zr Jt Z Z (u.mono a) (O Z Z (Zm (v := U 0) Z Z (Zb (V ?_))))))))))))))
 obtain ⟨a2, bf, bB, b7, b3⟩ := QO hm
 refine QJ (M := fun f' w' => ∃ s', (a2 = .next s' ∨ a2 = .brk s') ∧ (fun (_ : Unit) => ∃ (aT : PHeap) , PHeap.le al aT ∧ St w0 aT (Res.box c 26 [d, m, n, g] :: H) w' ∧ f' 1 = Vp (some ⟨c, 0, none⟩) ∧ f' 18 = d ∧ f' 19 = U ((b.Vars.length : Int))) s') ?_ ?_
 ·refine Qm (J4 (fun k' s' f' w' => (fun (_ : Unit) => ∃ (aU : PHeap) , PHeap.le al aU ∧ St w0 aU (Res.box c 26 [d, m, n, g] :: H) w' ∧ f' 1 = Vp (some ⟨c, 0, none⟩) ∧ f' 18 = d ∧ f' 19 = U ((b.Vars.length : Int)) ∧ f' 20 = U (k' : Int)) s') bf ?_ ?_ ?_)
  ·exact ⟨al, (Zv _), ao, aE, Z, Z, Z⟩
  ·intro aB cI a3 c2 cS b5 bh x bD
   obtain ⟨ay, av, ap, aG, aw, ax, an⟩ := bh
   refine Zc (Zd (O Z Z (Zq Z an ax (Zb (V (Zc (QK (Zx (decide_eq_true (by omega))) (Qp (V (Zc (Qm (Zc (Zd ?_)))))))))))))
   obtain ⟨t, bU, x⟩ := Zg x
   refine O Z Z (Qu Jt Z aw an (u.mono (Zt a av)) bU ?_)
   intro cm cA bd
   refine O Z Z (Zw (E := (Qa .i64)) ap A3 Z Z Z bd ?_)
   intro cO bV
   obtain rfl := Qs.1 bV
   refine O Z Z (Zo (v := U t) Z Z (Zb (V (Zc (QJ (M := fun f' w' => ∃ (aV : PHeap) , PHeap.le ay aV ∧ St w0 aV (Res.box c 26 [d, m, n, g] :: H) w' ∧ f' 1 = Vp (some ⟨c, 0, none⟩) ∧ f' 18 = d ∧ f' 19 = U ((b.Vars.length : Int)) ∧ f' 20 = U ((aB : Int)) ∧ f' 29 = Vb (((decide (t < 1)) || decide (64 < t)))) ?_ ?_)))))
   ·refine Zd (O Z Z (Zm (v := U t) Z Z (O Z Z (Zq Z Z Z (O Z Z (Zm (v := Vb (decide (t < 1))) Z Z ?_))))))
    by_cases q : (decide (t < 1)) = true
    ·refine Q0 3 (by rw [q]; rfl) ?_
     refine Zb (V ?_)
     exact ⟨ay, (Zv _), ap, aG, aw, ax, an, (Zx (QdV q)).symm⟩
    replace q := Zk q
    refine Qo Z (Zf Z (Zx q)) Z (Zm (v := U t) Z Z (Qo Z (Zf Z (Zx q)) Z (Exec.gtr Z Z Z (O Z Z (Q5 (v := Vb (decide (64 < t))) Z (Zx q) Z (Zb (V ?_)))))))
    exact ⟨ay, (Zv _), ap, aG, aw, ax, an, (Zx (Qaj q)).symm⟩
   intro c3 cT bm
   obtain ⟨aW, aC, a6, bM, bN, bO, bP, aH⟩ := bm
   refine (V ?_)
   rcases Qg x with ⟨ac, x⟩ | ⟨ac, x⟩
   ·refine Qv aH ac (Zc (Zd (O Z Z (Zo (v := Vb false) Z Z (Zb (V (Q1 (QD (Qj (Qj (QD (Qj (Qj ?_)))))))))))))
    have cq := Zu x
    subst a3
    have b9 := bB _ (bD (by intro _ h; cases h))
    have cr := Zu b9
    subst r
    refine ⟨_, QX Z, ?_⟩
    have br := a6.drop
    exact ⟨aW, (Zt (Zt a av) aC), br, Z⟩
   refine Qw aH ac ?_
   replace ac := Zk ac
   refine Qp (Qz (V (Zd (O Z Z (Exec.add Z bP Z (O Z Z (Zm (v := U (IntKind.i64.wrap ((aB : Int) + 1))) Z Z (Zb (V ?_)))))))))
   have ct := Zu x
   subst a3
   refine ⟨_, Z, ?_⟩; exact ⟨aW, (Zt av aC), a6, bM, bN, bO, (Eq.trans Z (QB b5 (SliceRep.le (u.mono a))))⟩
  intro cJ c4 cU bi bE
  obtain ⟨cb, bI, bs, bQ, bR, aI, ch⟩ := bi
  refine Zc (Zd (O Z Z (Zq Z ch aI (Zb (V (Zc (QA (Zx (decide_eq_false (by omega))) (QF (Ql (Ql (Q7 (V ?_))))))))))))
  refine ⟨_, .inl bE, ?_⟩; exact ⟨cb, bI, bs, bQ, bR, aI⟩
 rintro c5 cV ⟨cK, a9, bn⟩
 have hm := a9.elim (b7 _) (b3 _)
 clear a9
 obtain ⟨cc, j, aq, z, cC, cD⟩ := bn
 refine (V (Zc (Zc ?_)))
 obtain ⟨af, p, hm⟩ := Zg hm
 refine QJ (M := fun f' w' => (fun (af : Bool) => ∃ (aX : PHeap) , PHeap.le cc aX ∧ St w0 aX (Res.box c 26 [d, m, n, g] :: H) w' ∧ f' 1 = Vp (some ⟨c, 0, none⟩) ∧ f' 44 = Vb af) af) ?_ ?_
 ·refine Zd (O Z Z (Zp Yk Z z Z (O Z Z (Zn (aq) A22 Z Z Z (O Z Z (Zp Qlg Z z Z (O Z Z (Zn (aq) A22 Z Z Z ?_))))))))
  obtain ⟨ck, bW, p⟩ := Zg p
  refine O Z Z (Exec.call Z Z Tryz.func28 Z N28 (Zi Z (Zi Z Qk)) ((Qgs bW aq (u.mono (Zt a j)) (bb.mono (Zt a j))).mono ?_))
  rintro _ cW ⟨_, rfl, ⟨cd, aj, ai, rfl⟩⟩
  refine ⟨_, Z, ?_⟩
  refine O Z Z (Exec.not Z Z (O Z Z (Zm (v := Vb (!ck)) Z Z ?_)))
  rcases Qg p with ⟨i, p⟩ | ⟨i, p⟩
  ·refine Q0 7 (by rw [i]; rfl) ?_
   refine Zb (V ?_)
   have cu := Zu p
   subst af
   exact ⟨cd, aj, ai, z, Z⟩
  replace i := Zk i
  refine Qo Z (Zf Z (Zx i)) Z (Zp Yk Z z Z (Qo Z (Zf Z (Zx i)) Z (Zn (ai) A22 Z Z Z (Qo Z (Zf Z (Zx i)) Z (Zp QjI Z z Z (Qo Z (Zf Z (Zx i)) Z (Zn (ai) A23 Z Z Z ?_)))))))
  obtain ⟨cl, bX, p⟩ := Zg p
  refine Qo Z (Zf Z (Zx i)) Z (Exec.call Z Z Tryz.func46 Z N46 (Zi Z (Zi Z Qk)) ((YS bX ai (u.mono (Zt (Zt a j) aj)) (bc.mono (Zt (Zt a j) aj))).mono ?_))
  rintro _ cX ⟨_, rfl, ⟨ce, bJ, bt, rfl⟩⟩
  refine ⟨_, Z, ?_⟩
  refine Qo Z (Zf Z (Zx i)) Z (Exec.not Z Z (O Z Z (Q5 (v := Vb (!cl)) Z (Zx i) Z (Zb (V ?_)))))
  have cv := Zu p
  subst af
  exact ⟨ce, (Zt aj bJ), bt, z, Z⟩
 intro c6 cY bo
 obtain ⟨am, y, ar, aJ, aK⟩ := bo
 refine (V ?_)
 rcases Qg hm with ⟨ad, hm⟩ | ⟨ad, hm⟩
 ·refine Qv aK ad (Zc (Zd (O Z Z (Zo (v := Vb false) Z Z (Zb (V (Q1 (Qj ?_))))))))
  have cw := Zu hm
  subst r
  refine ⟨_, QX Z, ?_⟩
  have bu := ar.drop
  exact ⟨am, (Zt (Zt a j) y), bu, Z⟩
 refine Qw aK ad ?_
 replace ad := Zk ad
 refine Qp (V (Zc (Zc (Zd (O Z Z (Zp Qaa Z aJ Z (O Z Z (Zn (ar) A24 Z Z Z (O Z Z (Zr S24 Z Z (ag.mono (Zt (Zt a j) y)) (O Z Z (Zm (v := U 0) Z Z (Zb (V ?_))))))))))))))
 obtain ⟨a4, bg, bC, b8, b4⟩ := QO hm
 refine QJ (M := fun f' w' => ∃ s', (a4 = .next s' ∨ a4 = .brk s') ∧ (fun (_ : Unit) => ∃ (aY : PHeap) , PHeap.le am aY ∧ St w0 aY (Res.box c 26 [d, m, n, g] :: H) w' ∧ f' 1 = Vp (some ⟨c, 0, none⟩) ∧ f' 46 = g ∧ f' 47 = U ((b.Ops.length : Int))) s') ?_ ?_
 ·refine Qm (J4 (fun k' s' f' w' => (fun (_ : Unit) => ∃ (aZ : PHeap) , PHeap.le am aZ ∧ St w0 aZ (Res.box c 26 [d, m, n, g] :: H) w' ∧ f' 1 = Vp (some ⟨c, 0, none⟩) ∧ f' 46 = g ∧ f' 47 = U ((b.Ops.length : Int)) ∧ f' 48 = U (k' : Int)) s') bg ?_ ?_ ?_)
  ·exact ⟨am, (Zv _), ar, aJ, Z, Z, Z⟩
  ·intro bH cL a5 c7 cZ b6 bj o bF
   obtain ⟨cH, ak, a7, aL, aM, aN, a1⟩ := bj
   refine Zc (Zd (O Z Z (Zq Z a1 aN (Zb (V (Zc (QK (Zx (decide_eq_true (by omega))) (Qp (V (Zc (Qm (Zc (Zd ?_)))))))))))))
   obtain ⟨aa, bY, o⟩ := Zg o
   refine O Z Z (Qu S24 Z aM a1 (ag.mono (Zt (Zt (Zt a j) y) ak)) bY ?_)
   intro cn cB be
   refine O Z Z (Zw (E := encOp) a7 A60 Z Z Z be ?_)
   intro cP bZ
   obtain ⟨az, a0, rfl, aP, aQ⟩ := Y8.1 bZ
   refine O Z Z (Exec.alloc (cs := [Value.string (⟨#[]⟩), U 0, Vs none 0 0, Vs none 0 0]) a7 Z60 Z Z ?_)
   intro co da bv
   refine O Z Z (Qf (ds := [Value.string (aa.Name), U (aa.Cost), az, a0]) (es := [Value.string (aa.Name), U (aa.Cost), az, a0]) bv A60 Z Z Z Z (Zj Z (Zj Z (Zj aP.one (Zj aQ.one Q6)))) (Nat.le_of_ble_eq_true Z) Z ?_)
   intro db au
   refine Zb (V (Zc (Zd (O Z Z (Zp Yk Z aL Z (O Z Z (Zn (au.f1) A22 Z Z Z (O Z Z (Qn (ds := [Value.string (aa.Name), U (aa.Cost), az, a0]) (au) A60 Z Z Z ?_)))))))))
   obtain ⟨df, ca, o⟩ := Zg o
   refine O Z Z (Exec.call Z Z Tryz.func47 Z N47 (Zi Z (Zi Z Qk)) ((Qe3 ca au (u.mono (Zt (Zt (Zt a j) y) ak)) aP aQ).mono ?_))
   rintro _ dc ⟨_, rfl, ⟨ba, aD, a8, rfl⟩⟩
   refine ⟨_, Z, ?_⟩
   refine O Z Z (Exec.not Z Z (Zb (V ?_)))
   rcases Qg o with ⟨ae, o⟩ | ⟨ae, o⟩
   ·refine Qv Z ae (Zc (Zd (O Z Z (Zo (v := Vb false) Z Z (Zb (V (Q1 (QD (Qj (Qj (QD (Qj (Qj ?_)))))))))))))
    have cx := Zu o
    subst a5
    have bA := bC _ (bF (by intro _ h; cases h))
    have cy := Zu bA
    subst r
    refine ⟨_, QX Z, ?_⟩
    have bw := a8.drop
    have bx := bw.drop
    exact ⟨ba, (Zt (Zt (Zt (Zt a j) y) ak) aD), bx, Z⟩
   refine Qw Z ae ?_
   replace ae := Zk ae
   refine Qp (Qz (V (Zd (O Z Z (Exec.add Z a1 Z (O Z Z (Zm (v := U (IntKind.i64.wrap ((bH : Int) + 1))) Z Z (Zb (V ?_)))))))))
   have cz := Zu o
   subst a5
   have bz := a8.drop
   refine ⟨_, Z, ?_⟩; exact ⟨ba, (Zt ak aD), bz, aL, aM, aN, (Eq.trans Z (QB b6 (SliceRep.le (ag.mono (Zt (Zt a j) y)))))⟩
  intro cM c8 dd bk bG
  obtain ⟨cf, bK, b0, bS, bT, aO, ci⟩ := bk
  refine Zc (Zd (O Z Z (Zq Z ci aO (Zb (V (Zc (QA (Zx (decide_eq_false (by omega))) (QF (Ql (Ql (Q7 (V ?_))))))))))))
  refine ⟨_, .inl bG, ?_⟩; exact ⟨cf, bK, b0, bS, bT, aO⟩
 rintro c9 de ⟨cN, aA, bp⟩
 have hm := aA.elim (b8 _) (b4 _)
 clear aA
 obtain ⟨cg, bL, b1, cE, cF, cG⟩ := bp
 refine (V (Zc (Zd (O Z Z (Zo (v := Vb true) Z Z (Zb (V (Q1 ?_))))))))
 have c0 := Zu hm
 subst r
 refine ⟨_, QX Z, ?_⟩
 have b2 := b1.drop
 exact ⟨cg, (Zt (Zt (Zt a j) y) bL), b2, Z⟩
theorem N26 : (Tryz.f26.name == "runtime.NumGoroutine") = false := by kernel_rfl
theorem QdD {w0 w : World} {s : PHeap} {H : List Res} {l : (List Int)} {a : Int} {g : Value} {r : Int} (hm : Qae l a = some r) (hS : St w0 s (H) w) (n : SliceRep (Qa .i64) s g l) :
  Calls Tryz.prog 26 #[g, U a] w fun e w' => ∃ v, e = .returned v ∧ ((fun (a8 : Int) => ∃ (ab : PHeap) , PHeap.le s ab ∧ St w0 ab (H) w' ∧ v = U a8) r) := by
 unfold Qae at hm
 refine Qy Tryz.func26 Z Z (Zc (Zd (O Z Z (Zo (v := U 0) Z Z (Zb (V (Zc (Zd (O Z Z (Zo (v := U 1) Z Z (Zb (V (Zc (Zc (Zd (O Z Z (Zm (v := g) Z Z (O Z Z (Zr Jt Z Z n (O Z Z (Zm (v := U 0) Z Z (Zb (V ?_)))))))))))))))))))))))
 obtain ⟨t, ag, aq, ao, am⟩ := QO hm
 refine QJ (M := fun f' w' => ∃ s', (t = .next s' ∨ t = .brk s') ∧ (fun (i : Int) => ∃ (ac : PHeap) , PHeap.le s ac ∧ St w0 ac (H) w' ∧ f' 1 = U a ∧ f' 5 = U i ∧ f' 8 = g ∧ f' 9 = U ((l.length : Int))) s') ?_ ?_
 ·refine Qm (J4 (fun k' s' f' w' => (fun (c : Int) => ∃ (ad : PHeap) , PHeap.le s ad ∧ St w0 ad (H) w' ∧ f' 1 = U a ∧ f' 5 = U c ∧ f' 8 = g ∧ f' 9 = U ((l.length : Int)) ∧ f' 10 = U (k' : Int)) s') ag ?_ ?_ ?_)
  ·exact ⟨s, (Zv _), hS, Z, Z, Z, Z, Z⟩
  ·intro av c u aE aM an ah b ar
   obtain ⟨ae, p, o, j, ay, y, z, q⟩ := ah
   refine Zc (Zd (O Z Z (Zq Z q z (Zb (V (Zc (QK (Zx (decide_eq_true (by omega))) (Qp (V (Zc (Qm (Zc (Zd ?_)))))))))))))
   obtain ⟨m, a3, b⟩ := Zg b
   refine O Z Z (Qu Jt Z y q (n.mono p) a3 ?_)
   intro a9 aH af
   refine O Z Z (Zw (E := (Qa .i64)) o A3 Z Z Z af ?_)
   intro aL a4
   obtain rfl := Qs.1 a4
   refine O Z Z (Zo (v := U m) Z Z (Zb (V (Zc (Zd (O Z Z (Zm (v := U c) Z ay (O Z Z (Zm (v := U m) Z Z (O Z Z (Qcy Z Z Z (O Z Z (Zm (v := U a) Z j (O Z Z (Exec.add Z Z Z (O Z Z (QeO Z Z Z (O Z Z (Exec.mul Z Z Z (O Z Z (Zo (v := U (IntKind.i64.wrap (c * (min (max m 0) (IntKind.i64.wrap (a + 1)))))) Z Z (Zb (V (Zc (Zd (O Z Z (Zm (v := U (IntKind.i64.wrap (c * (min (max m 0) (IntKind.i64.wrap (a + 1)))))) Z Z (O Z Z (Zm (v := U a) Z j (O Z Z (Exec.gtr Z Z Z (Zb (V ?_)))))))))))))))))))))))))))))))))
   rcases Qg b with ⟨d, b⟩ | ⟨d, b⟩
   ·refine Qv Z d (Zc (Zd (O Z Z (Zm (v := U a) Z j (O Z Z (Exec.add Z Z Z (O Z Z (Zo (v := U (IntKind.i64.wrap (a + 1))) Z Z (Zb (V (Q1 (QD (Qj (Qj (QD (Qj (Qj ?_)))))))))))))))))
    have aA := Zu b
    subst u
    have ap := aq _ (ar (by intro _ h; cases h))
    have aB := Zu ap
    subst r
    refine ⟨_, QX Z, ?_⟩
    exact ⟨ae, p, o, Z⟩
   refine Qw Z d ?_
   replace d := Zk d
   refine Qp (Qz (V (Zd (O Z Z (Exec.add Z q Z (O Z Z (Zm (v := U (IntKind.i64.wrap ((av : Int) + 1))) Z Z (Zb (V ?_)))))))))
   have aC := Zu b
   subst u
   refine ⟨_, Z, ?_⟩; exact ⟨ae, p, o, j, Z, y, z, (Eq.trans Z (QB an (SliceRep.le n)))⟩
  intro c aF aN ai au
  obtain ⟨a5, aw, ak, az, a0, a1, aa, a7⟩ := ai
  refine Zc (Zd (O Z Z (Zq Z a7 aa (Zb (V (Zc (QA (Zx (decide_eq_false (by omega))) (QF (Ql (Ql (Q7 (V ?_))))))))))))
  refine ⟨_, .inl au, ?_⟩; exact ⟨a5, aw, ak, az, a0, a1, aa⟩
 rintro aG aO ⟨i, x, aj⟩
 have hm := x.elim (ao _) (am _)
 clear x
 obtain ⟨a6, ax, al, aI, a2, aJ, aK⟩ := aj
 refine (V (Zc (Zd (O Z Z (Zm (v := U i) Z a2 (O Z Z (Zo (v := U i) Z Z (Zb (V (Q1 ?_))))))))))
 have aD := Zu hm
 subst r
 refine ⟨_, QX Z, ?_⟩
 exact ⟨a6, ax, al, Z⟩
theorem N30 : (Tryz.f30.name == "runtime.NumGoroutine") = false := by kernel_rfl
theorem Qgt {w0 w : World} {s : PHeap} {H : List Res} {a : Task} {l : Value} {m : Value} {n : Value} {i : Value} {r : Bool} (hm : Qau a = some r) (hS : St w0 s (H) w) (ab : SliceRep (Qa .i64) s l a.Vars) (a4 : SliceRep (Qa .i64) s m a.Init) (a5 : SliceRep encFact s n a.Goal) (q : SliceRep encOp s i a.Ops) :
  Calls Tryz.prog 30 #[Value.agg #[l, m, n, i]] w fun e w' => ∃ v, e = .returned v ∧ ((fun (bn : Bool) => ∃ (aw : PHeap) , PHeap.le s aw ∧ St w0 aw (H) w' ∧ v = Value.bool (bn)) r) := by
 unfold Qau at hm
 refine Qy Tryz.func30 Z Z (Zc (Zd (O Z Z (Exec.box (cs := [l, m, n, i]) hS Z Z Z ?_))))
 intro o bB y
 refine O Z Z (Zo (v := Vb false) Z Z (Zb (V (Zc (Zc (QJ (M := fun f' w' => ∃ (ax : PHeap) , PHeap.le s ax ∧ St w0 ax (Res.box o 26 [l, m, n, i] :: H) w' ∧ f' 1 = Vp (some ⟨o, 0, none⟩) ∧ f' 14 = Vb (((decide (12 < (a.Vars.length : Int))) || decide (20 < (a.Ops.length : Int))))) ?_ ?_))))))
 ·refine Zd (O Z Z (Zp Yk Z Z Z (O Z Z (Zn (y) A22 Z Z Z (O Z Z (Zr Jt Z Z ab (O Z Z (Exec.gtr Z Z Z (O Z Z (Zm (v := Vb (decide (12 < (a.Vars.length : Int)))) Z Z ?_))))))))))
  by_cases c : (decide (12 < (a.Vars.length : Int))) = true
  ·refine Q0 5 (by rw [c]; rfl) ?_
   refine Zb (V ?_)
   exact ⟨s, (Zv _), y, Z, (Zx (QdV c)).symm⟩
  replace c := Zk c
  refine Qo Z (Zf Z (Zx c)) Z (Zp Qaa Z Z Z (Qo Z (Zf Z (Zx c)) Z (Zn (y) A24 Z Z Z (Qo Z (Zf Z (Zx c)) Z (Zr S24 Z Z q (Qo Z (Zf Z (Zx c)) Z (Exec.gtr Z Z Z (O Z Z (Q5 (v := Vb (decide (20 < (a.Ops.length : Int)))) Z (Zx c) Z (Zb (V ?_)))))))))))
  exact ⟨s, (Zv _), y, Z, (Zx (Qaj c)).symm⟩
 intro bz bC aA
 obtain ⟨z, b, ac, an, ao⟩ := aA
 refine (V ?_)
 rcases Qg hm with ⟨t, hm⟩ | ⟨t, hm⟩
 ·refine Qv ao t (Zc (Zd (O Z Z (Zo (v := Vb false) Z Z (Zb (V (Q1 (Qj ?_))))))))
  have br := Zu hm
  subst r
  refine ⟨_, QX Z, ?_⟩
  have aD := ac.drop
  exact ⟨z, b, aD, Z⟩
 refine Qw ao t ?_
 replace t := Zk t
 refine Qp (V (Zc (Zc (Zd (O Z Z (Zp Qaa Z an Z (O Z Z (Zn (ac) A24 Z Z Z (O Z Z (Zr S24 Z Z (q.mono b) (O Z Z (Zm (v := U 0) Z Z (Zb (V ?_))))))))))))))
 obtain ⟨ai, a7, aR, aP, aN⟩ := QO hm
 refine QJ (M := fun f' w' => ∃ s', (ai = .next s' ∨ ai = .brk s') ∧ (fun (_ : Unit) => ∃ (ay : PHeap) , PHeap.le z ay ∧ St w0 ay (Res.box o 26 [l, m, n, i] :: H) w' ∧ f' 1 = Vp (some ⟨o, 0, none⟩) ∧ f' 16 = i ∧ f' 17 = U ((a.Ops.length : Int))) s') ?_ ?_
 ·refine Qm (J4 (fun k' s' f' w' => (fun (_ : Unit) => ∃ (az : PHeap) , PHeap.le z az ∧ St w0 az (Res.box o 26 [l, m, n, i] :: H) w' ∧ f' 1 = Vp (some ⟨o, 0, none⟩) ∧ f' 16 = i ∧ f' 17 = U ((a.Ops.length : Int)) ∧ f' 18 = U (k' : Int)) s') a7 ?_ ?_ ?_)
  ·exact ⟨z, (Zv _), ac, an, Z, Z, Z⟩
  ·intro aU b7 aj b0 bD aO a8 j aS
   obtain ⟨a0, af, ak, aY, ap, aq, ah⟩ := a8
   refine Zc (Zd (O Z Z (Zq Z ah aq (Zb (V (Zc (QK (Zx (decide_eq_true (by omega))) (Qp (V (Zc (Qm (Zc (Zd ?_)))))))))))))
   obtain ⟨aa, bc, j⟩ := Zg j
   refine O Z Z (Qu S24 Z ap ah (q.mono (Zt b af)) bc ?_)
   intro bp b4 a6
   refine O Z Z (Zw (E := encOp) ak A60 Z Z Z a6 ?_)
   intro bA bd
   obtain ⟨a2, a3, rfl, bg, av⟩ := Y8.1 bd
   refine O Z Z (Exec.alloc (cs := [Value.string (⟨#[]⟩), U 0, Vs none 0 0, Vs none 0 0]) ak Z60 Z Z ?_)
   intro bq bE aE
   refine O Z Z (Qf (ds := [Value.string (aa.Name), U (aa.Cost), a2, a3]) (es := [Value.string (aa.Name), U (aa.Cost), a2, a3]) aE A60 Z Z Z Z (Zj Z (Zj Z (Zj bg.one (Zj av.one Q6)))) (Nat.le_of_ble_eq_true Z) Z ?_)
   intro bF ad
   refine Zb (V (Zc (Zd (O Z Z (Zp QdY Z Z Z (O Z Z (Zn (ad) A58 Z Z Z (O Z Z (Zr S58 Z Z av (O Z Z (Exec.gtr Z Z Z (Zb (V ?_)))))))))))))
   rcases Qg j with ⟨u, j⟩ | ⟨u, j⟩
   ·refine Qv Z u (Zc (Zd (O Z Z (Zo (v := Vb false) Z Z (Zb (V (Q1 (QD (Qj (Qj (QD (Qj (Qj ?_)))))))))))))
    have bs := Zu j
    subst aj
    have aQ := aR _ (aS (by intro _ h; cases h))
    have bt := Zu aQ
    subst r
    refine ⟨_, QX Z, ?_⟩
    have aF := ad.drop
    have aG := aF.drop
    exact ⟨a0, (Zt b af), aG, Z⟩
   refine Qw Z u ?_
   replace u := Zk u
   refine Qp (Qz (V (Zd (O Z Z (Exec.add Z ah Z (O Z Z (Zm (v := U (IntKind.i64.wrap ((aU : Int) + 1))) Z Z (Zb (V ?_)))))))))
   have bu := Zu j
   subst aj
   have aH := ad.drop
   refine ⟨_, Z, ?_⟩; exact ⟨a0, af, aH, aY, ap, aq, (Eq.trans Z (QB aO (SliceRep.le (q.mono b))))⟩
  intro b8 b1 bG a9 aT
  obtain ⟨bh, aV, aI, aZ, ba, ar, bm⟩ := a9
  refine Zc (Zd (O Z Z (Zq Z bm ar (Zb (V (Zc (QA (Zx (decide_eq_false (by omega))) (QF (Ql (Ql (Q7 (V ?_))))))))))))
  refine ⟨_, .inl aT, ?_⟩; exact ⟨bh, aV, aI, aZ, ba, ar⟩
 rintro b2 bH ⟨b9, am, aB⟩
 have hm := am.elim (aP _) (aN _)
 clear am
 obtain ⟨bi, p, al, au, b5, b6⟩ := aB
 refine (V (Zc ?_))
 obtain ⟨x, g, hm⟩ := Zg hm
 refine QJ (M := fun f' w' => (fun (x : Bool) => ∃ (a1 : PHeap) , PHeap.le bi a1 ∧ St w0 a1 (H) w' ∧ f' 2 = Vb x) x) ?_ ?_
 ·refine Zd (O Z Z (Qn (ds := [l, m, n, i]) (al) A26 Z au Z ?_))
  obtain ⟨bo, be, g⟩ := Zg g
  refine O Z Z (Exec.call Z Z Tryz.func27 Z N27 (Zi Z Qk) ((QgG be al (ab.mono (Zt b p)) (a4.mono (Zt b p)) (a5.mono (Zt b p)) (q.mono (Zt b p))).mono ?_))
  rintro _ bI ⟨_, rfl, ⟨bj, ag, ae, rfl⟩⟩
  refine ⟨_, Z, ?_⟩
  refine O Z Z (Zm (v := Vb bo) Z Z ?_)
  rcases Qg g with ⟨d, g⟩ | ⟨d, g⟩
  ·refine Qo Z (Zf Z (Zx d)) Z (Zp Yk Z au Z (Qo Z (Zf Z (Zx d)) Z (Zn (ae) A22 Z Z Z ?_)))
   obtain ⟨bL, bf, g⟩ := Zg g
   refine Qo Z (Zf Z (Zx d)) Z (Exec.call Z Z Tryz.func26 Z N26 (Zi Z (Zi Z Qk)) ((QdD bf ae (ab.mono (Zt (Zt b p) ag))).mono ?_))
   rintro _ bJ ⟨_, rfl, ⟨bk, aW, aJ, rfl⟩⟩
   refine ⟨_, Z, ?_⟩
   refine Qo Z (Zf Z (Zx d)) Z (Exec.leq Z Z Z ?_)
   refine Q0 2 (by rw [d]; rfl) ?_
   refine Zb (V ?_)
   have bv := Zu g
   subst x
   have aK := aJ.drop
   exact ⟨bk, (Zt ag aW), aK, Z⟩
  replace d := Zk d
  refine Q0 6 (by rw [d]; rfl) ?_
  refine Zb (V ?_)
  have bw := Zu g
  subst x
  have aL := ae.drop
  exact ⟨bj, ag, aL, Z⟩
 intro b3 bK aC
 obtain ⟨bl, aX, aM, bb⟩ := aC
 refine (V (Q1 ?_))
 have bx := Zu hm
 subst r
 refine ⟨_, QX Z, ?_⟩
 exact ⟨bl, (Zt (Zt b p) aX), aM, bb⟩
theorem N11 : (Tryz.f11.name == "runtime.NumGoroutine") = false := by kernel_rfl
theorem QgE {w0 w : World} {s : PHeap} {H : List Res} {j : Task} {k : Value} {l : Value} {m : Value} {n : Value} {r : Bool} (hm : QaX j = some r) (hS : St w0 s (H) w) (o : SliceRep (Qa .i64) s k j.Vars) (ab : SliceRep (Qa .i64) s l j.Init) (ac : SliceRep encFact s m j.Goal) (t : SliceRep encOp s n j.Ops) :
  Calls Tryz.prog 11 #[Value.agg #[k, l, m, n]] w fun e w' => ∃ v, e = .returned v ∧ ((fun (ao : Bool) => ∃ (x : PHeap) , PHeap.le s x ∧ St w0 x (H) w' ∧ v = Value.bool (ao)) r) := by
 unfold QaX at hm
 refine Qy Tryz.func11 Z Z (Zc (Zd (O Z Z (Exec.box (cs := [k, l, m, n]) hS Z Z Z ?_))))
 intro aq az u
 refine O Z Z (Zo (v := Vb false) Z Z (Zb (V (Zc ?_))))
 obtain ⟨h, a, hm⟩ := Zg hm
 refine QJ (M := fun f' w' => (fun (h : Bool) => ∃ (y : PHeap) , PHeap.le s y ∧ St w0 y (H) w' ∧ f' 2 = Vb h) h) ?_ ?_
 ·refine Zd (O Z Z (Qn (ds := [k, l, m, n]) (u) A26 Z Z Z ?_))
  obtain ⟨ap, al, a⟩ := Zg a
  refine O Z Z (Exec.call Z Z Tryz.func30 Z N30 (Zi Z Qk) ((Qgt al u o ab ac t).mono ?_))
  rintro _ a0 ⟨_, rfl, ⟨z, g, i, rfl⟩⟩
  refine ⟨_, Z, ?_⟩
  refine O Z Z (Zm (v := Vb ap) Z Z ?_)
  rcases Qg a with ⟨b, a⟩ | ⟨b, a⟩
  ·refine Qo Z (Zf Z (Zx b)) Z (Zp Yk Z Z Z (Qo Z (Zf Z (Zx b)) Z (Zn (i) A22 Z Z Z (Qo Z (Zf Z (Zx b)) Z (Zr Jt Z Z (o.mono g) (Qo Z (Zf Z (Zx b)) Z (Exec.gtr Z Z Z ?_)))))))
   refine Q0 2 (by rw [b]; rfl) ?_
   rcases Qg a with ⟨c, a⟩ | ⟨c, a⟩
   ·refine Qo Z (Zf Z (Zx c)) Z (Zp Yk Z Z Z (Qo Z (Zf Z (Zx c)) Z (Zn (i) A22 Z Z Z ?_)))
    obtain ⟨a3, am, a⟩ := Zg a
    refine Qo Z (Zf Z (Zx c)) Z (Exec.call Z Z Tryz.func26 Z N26 (Zi Z (Zi Z Qk)) ((QdD am i (o.mono g)).mono ?_))
    rintro _ a1 ⟨_, rfl, ⟨aa, q, p, rfl⟩⟩
    refine ⟨_, Z, ?_⟩
    refine Qo Z (Zf Z (Zx c)) Z (Exec.leq Z Z Z ?_)
    refine Q0 2 (by rw [c]; rfl) ?_
    rcases Qg a with ⟨d, a⟩ | ⟨d, a⟩
    ·refine Qo Z (Zf Z (Zx d)) Z (Zp Qaa Z Z Z (Qo Z (Zf Z (Zx d)) Z (Zn (p) A24 Z Z Z (Qo Z (Zf Z (Zx d)) Z (Zr S24 Z Z (t.mono (Zt g q)) (Qo Z (Zf Z (Zx d)) Z (Exec.leq Z Z Z ?_)))))))
     refine Q0 2 (by rw [d]; rfl) ?_
     refine Zb (V ?_)
     have ar := Zu a
     subst h
     have ae := p.drop
     exact ⟨aa, (Zt g q), ae, Z⟩
    replace d := Zk d
    refine Q0 6 (by rw [d]; rfl) ?_
    refine Zb (V ?_)
    have au := Zu a
    subst h
    have af := p.drop
    exact ⟨aa, (Zt g q), af, Z⟩
   replace c := Zk c
   refine Q0 12 (by rw [c]; rfl) ?_
   refine Zb (V ?_)
   have av := Zu a
   subst h
   have ag := i.drop
   exact ⟨z, g, ag, Z⟩
  replace b := Zk b
  refine Q0 18 (by rw [b]; rfl) ?_
  refine Zb (V ?_)
  have aw := Zu a
  subst h
  have ah := i.drop
  exact ⟨z, g, ah, Z⟩
 intro ay a2 ad
 obtain ⟨an, aj, ai, ak⟩ := ad
 refine (V (Q1 ?_))
 have ax := Zu hm
 subst r
 refine ⟨_, QX Z, ?_⟩
 exact ⟨an, aj, ai, ak⟩
theorem N18 : (Tryz.f18.name == "runtime.NumGoroutine") = false := by kernel_rfl
theorem Qbl {w0 w : World} {s : PHeap} {H : List Res} {o : (List Int)} {l : Value} {r : (List (List Int))} (hm : KT o = some r) (hS : St w0 s (H) w) (x : SliceRep (Qa .i64) s l o) :
  Calls Tryz.prog 18 #[l] w fun e w' => ∃ v, e = .returned v ∧ ((fun (cj : (List (List Int))) => ∃ (ad : PHeap) (a4 : Value), PHeap.le s ad ∧ St w0 ad (H) w' ∧ v = a4 ∧ SliceRep (QE (Qa .i64)) ad a4 cj) r) := by
 unfold KT at hm
 refine Qy Tryz.func18 Z Z (Zc (Zd (O Z Z (Zo (v := Vs none 0 0) Z Z (Zb (V (Zc (Zd (O Z Z (Exec.buildSlice (Te := 3) (cs := []) hS Z Qx (fun _ => by kernel_rfl) ?_))))))))))
 intro y cD aG
 have aH := St.boxArr (E := (Qa .i64)) (xs := []) aG rfl (by simp [maxLen])
 obtain ⟨ay, t, aI, bV⟩ := aH.freezeArr
 refine O Z Z (Exec.buildSlice (Te := 22) (cs := [Vs (some ⟨y, 0, none⟩) 0 0]) aI Z (Qb (c := [Vs (some ⟨y, 0, none⟩) 0 0]) (Qi Z Z) Qx) (fun _ => by kernel_rfl) ?_)
 intro aj cE aJ
 refine O Z Z (Zo (v := Vs (some ⟨aj, 0, none⟩) 1 1) Z Z (Zb (V (Zc (Zc (Zd (O Z Z (Zm (v := l) Z Z (O Z Z (Zr Jt Z Z (x.mono t) (O Z Z (Zm (v := U 0) Z Z (Zb (V ?_))))))))))))))
 obtain ⟨j, a7, hm⟩ := Zg hm
 refine Qm (J3 (fun k' s' f' w' => (fun (j : (List (List Int))) => ∃ (az : PHeap) (a : Value), PHeap.le ay az ∧ St w0 az (Res.arr (QE (Qa .i64)) 22 a j :: H) w' ∧ f' 3 = a ∧ f' 12 = l ∧ f' 13 = U ((o.length : Int)) ∧ f' 14 = U (k' : Int)) s') a7 ?_ ?_ ?_)
 ·have aK := St.boxArr (E := (QE (Qa .i64))) (xs := [[]]) aJ ⟨[Vs (some ⟨y, 0, none⟩) 0 0], [], rfl, ⟨_, rfl, bV⟩, rfl⟩ (by simp [maxLen])
  exact ⟨ay, (Vs (some ⟨aj, 0, none⟩) 1 1), (Zv _), aK, Z, Z, Z, Z⟩
 ·intro aa j bY cu cF bk aA n
  obtain ⟨a0, a, am, q, bu, ao, ap, ag⟩ := aA
  refine Zc (Zd (O Z Z (Zq Z ag ap (Zb (V (Zc (QK (Zx (decide_eq_true (by omega))) (Qp (V (Zc (Qm (Zc (Zd ?_)))))))))))))
  obtain ⟨p, bO, n⟩ := Zg n
  refine O Z Z (Qu Jt Z ao ag (x.mono (Zt t am)) bO ?_)
  intro ck c3 a6
  refine O Z Z (Zw (E := (Qa .i64)) q A3 Z Z Z a6 ?_)
  intro cB bP
  obtain rfl := Qs.1 bP
  refine O Z Z (Zo (v := U p) Z Z (Zb (V (Zc (Zd (O Z Z (Zo (v := Vs none 0 0) Z Z (Zb (V (Zc (Zc (Zd (O Z Z (Zm (v := a) Z bu (O Z Z (QQ (q) S44 Z Z (O Z Z (Zm (v := U 0) Z Z (Zb (V ?_))))))))))))))))))))
  obtain ⟨ac, a8, n⟩ := Zg n
  refine Qm (J3 (fun k' s' f' w' => (fun (ac : (List (List Int))) => ∃ (a1 : PHeap) (d : Value), PHeap.le a0 a1 ∧ St w0 a1 (Res.arr (QE (Qa .i64)) 22 d ac :: Res.arr (QE (Qa .i64)) 22 a j :: H) w' ∧ f' 5 = U p ∧ f' 6 = d ∧ f' 12 = l ∧ f' 13 = U ((o.length : Int)) ∧ f' 14 = U ((aa : Int)) ∧ f' 18 = a ∧ f' 19 = U ((j.length : Int)) ∧ f' 20 = U (k' : Int)) s') a8 ?_ ?_ ?_)
  ·have aL := q.nilArr (QE (Qa .i64)) 22
   have aM := aL.f1
   have aN := aM.f1
   exact ⟨a0, (Vs none 0 0), (Zv _), aN, Z, Z, ao, ap, ag, Z, Z, Z⟩
  ·intro al ac bZ cv cG bl aB g
   obtain ⟨a2, d, bn, z, aq, bv, bw, bx, bz, ar, au, ah⟩ := aB
   refine Zc (Zd (O Z Z (Zq Z ah au (Zb (V (Zc (QK (Zx (decide_eq_true (by omega))) (Qp (V (Zc (Qm (Zc (Zd ?_)))))))))))))
   obtain ⟨cf, u, g⟩ := Zg g
   obtain ⟨c0, co, ak⟩ := (z.f1).arr_at u
   refine O Z Z (Qc S44 Z (Eq.trans ar ak) ah (Qe u).1 (Qe u).2.1 (O Z Z (Qt (F := (QE (Qa .i64))) (z.f1) ak A22 Z Z Z u (Sub.refl _) ?_)))
   intro ae bQ
   have bW := Jw.1 bQ
   refine O Z Z (Zo (v := ae) Z Z (Zb (V (Zc (Zd (O Z Z (Zm (v := U p) Z aq (O Z Z (Zm (v := U 0) Z Z (Zb (V ?_)))))))))))
   obtain ⟨cA, bR, g⟩ := Zg g
   obtain ⟨ab, a9, g⟩ := Zg g
   refine Qm (J3 (fun k' s' f' w' => (fun (ab : (List (List Int))) => ∃ (a3 : PHeap) (m : Value), PHeap.le a2 a3 ∧ St w0 a3 (Res.arr (QE (Qa .i64)) 22 m ab :: Res.arr (QE (Qa .i64)) 22 a j :: H) w' ∧ f' 5 = U p ∧ f' 6 = m ∧ f' 8 = ae ∧ f' 12 = l ∧ f' 13 = U ((o.length : Int)) ∧ f' 14 = U ((aa : Int)) ∧ f' 18 = a ∧ f' 19 = U ((j.length : Int)) ∧ f' 20 = U ((al : Int)) ∧ f' 24 = U p ∧ f' 25 = U (k' : Int)) s') a9 ?_ ?_ ?_)
   ·have aO := z.f1
    have aP := aO.f1
    exact ⟨a2, d, (Zv _), aP, aq, bv, Z, bw, bx, bz, ar, au, ah, Z, Z⟩
   ·intro b ab ca cw cH bm aC i
    obtain ⟨c8, m, an, aQ, b0, b1, av, b2, b3, b4, b5, b6, b7, aw, ai⟩ := aC
    refine Zc (Zd (O Z Z (Zq Z ai aw (Zb (V (Zc (QK (Zx (decide_eq_true (by omega))) (Qp (V (Zc (Qm (Zc (Zd (O Z Z (Zm (v := U ((b : Int))) Z ai (O Z Z (Zo (v := U ((b : Int))) Z Z (Zb (V (Zd (O Z Z (Zm (v := m) Z b1 (O Z Z (Exec.buildSlice (Te := 3) (cs := []) aQ Z Qx (fun _ => by kernel_rfl) ?_))))))))))))))))))))))))
    intro cl cI aR
    refine O Z Z (Zm (v := ae) Z av ?_)
    have aS := St.boxArr (E := (Qa .i64)) (xs := []) aR rfl (by simp [maxLen])
    obtain ⟨c1, bS, i⟩ := Zg i
    refine O Z Z (Qbm (E := (Qa .i64)) (ys := cf) aS Jt Z3 Z (by decide) Z Z Z (bW.mono an) bS ?_)
    intro cC cJ aT
    refine O Z Z (Zm (v := U ((b : Int))) Z Z (O Z Z (Exec.buildSlice (Te := 3) (cs := [U ((b : Int))]) aT Z (Qb (c := [U ((b : Int))]) (Qi Z Z) Qx) (fun _ => by kernel_rfl) ?_)))
    intro cm cK aU
    obtain ⟨bo, bT, i⟩ := Zg i
    have aV := aU.f1
    refine O Z Z (QR (E := (Qa .i64)) (ys := [(b : Int)]) aV Jt Z3 Z (by decide) Z Z Z Z ⟨[U ((b : Int))], [], Z, Z, Z⟩ Z bT ?_)
    intro af cL aW
    obtain ⟨cb, bp, aX, ax⟩ := aW.freezeArr
    refine O Z Z (Exec.buildSlice (Te := 22) (cs := [af]) aX Z (Qb (c := [af]) (Qi Z (QV ax.one)) Qx) (fun _ => by kernel_rfl) ?_)
    intro cn cM aY
    obtain ⟨c2, bU, i⟩ := Zg i
    have aZ := aY.f1
    refine O Z Z (QR (E := (QE (Qa .i64))) (ys := [bo]) aZ S44 Z22 Z (by decide) Z Z Z Z ⟨[af], [], Z, ⟨_, Z, ax⟩, Z⟩ Z bU ?_)
    intro a5 cN ba
    refine O Z Z (Zo (v := a5) Z Z (Zb (Qz (V (Zd (O Z Z (Exec.add Z ai Z (O Z Z (Zm (v := U (IntKind.i64.wrap ((b : Int) + 1))) Z Z (Zb (V ?_)))))))))))
    have cp := Zu i
    subst ca
    have bb := ba.f1
    have bc := bb.f1
    exact ⟨cb, a5, (Zt an bp), bc, b0, Z, av, b2, b3, b4, b5, b6, b7, aw, (Eq.trans Z (QB bm (by have h := QT bR; simp at h; simp only [maxLen]; omega)))⟩
   intro cx cO aD
   obtain ⟨cc, m, bq, bd, b8, b9, c4, bA, bB, bC, bD, bE, bF, bG, cg⟩ := aD
   refine Zc (Zd (O Z Z (Zq Z cg bG (Zb (V (Zc (QA (Zx (decide_eq_false (by omega))) (QF (Ql (Ql (Q7 (Qz (V (Zd (O Z Z (Exec.add Z bF Z (O Z Z (Zm (v := U (IntKind.i64.wrap ((al : Int) + 1))) Z Z (Zb (V ?_))))))))))))))))))))
   have cq := Zu g
   subst bZ
   have be := bd.f1
   have bf := be.f1
   exact ⟨cc, m, (Zt bn bq), bf, b8, b9, bA, bB, bC, bD, bE, (Eq.trans Z (QB bl q.arr_le))⟩
  intro cy cP aE
  obtain ⟨cd, d, br, bg, c5, bH, bI, bJ, bK, c6, bL, ch⟩ := aE
  refine Zc (Zd (O Z Z (Zq Z ch bL (Zb (V (Zc (QA (Zx (decide_eq_false (by omega))) (QF (Ql (Ql (Q7 (V (Zd (O Z Z (Zm (v := d) Z bH (O Z Z (Zo (v := d) Z Z (Zb (Qz (V (Zd (O Z Z (Exec.add Z bK Z (O Z Z (Zm (v := U (IntKind.i64.wrap ((aa : Int) + 1))) Z Z (Zb (V ?_)))))))))))))))))))))))))))
  have cr := Zu n
  subst bY
  have bh := (bg.f1).drop
  exact ⟨cd, d, (Zt am br), bh, Z, bI, bJ, (Eq.trans Z (QB bk (SliceRep.le (x.mono t))))⟩
 intro cz cQ aF
 obtain ⟨c9, a, bs, bi, bM, c7, bN, ci⟩ := aF
 refine Zc (Zd (O Z Z (Zq Z ci bN (Zb (V (Zc (QA (Zx (decide_eq_false (by omega))) (QF (Ql (Ql (Q7 (V (Zc (Zd (O Z Z (Zm (v := a) Z bM (O Z Z (Zo (v := a) Z Z (Zb (V (Q1 ?_)))))))))))))))))))))
 have ct := Zu hm
 subst r
 refine ⟨_, QX Z, ?_⟩
 obtain ⟨ce, bt, bj, bX⟩ := bi.freezeArr
 exact ⟨ce, a, (Zt (Zt t bs) bt), bj, Z, bX⟩
theorem N22 : (Tryz.f22.name == "runtime.NumGoroutine") = false := by kernel_rfl
theorem QbE {w0 w : World} {s : PHeap} {H : List Res} {n : (List Fact)} {aa : (List Int)} {l : Value} {j : Value} {r : Bool} (hm : Yg n aa = some r) (hS : St w0 s (H) w) (ab : SliceRep encFact s l n) (ac : SliceRep (Qa .i64) s j aa) :
  Calls Tryz.prog 22 #[l, j] w fun e w' => ∃ v, e = .returned v ∧ ((fun (aU : Bool) => ∃ (am : PHeap) , PHeap.le s am ∧ St w0 am (H) w' ∧ v = Value.bool (aU)) r) := by
 unfold Yg at hm
 refine Qy Tryz.func22 Z Z (Zc (Zd (O Z Z (Zo (v := Vb false) Z Z (Zb (V (Zc (Zc (Zd (O Z Z (Zm (v := l) Z Z (O Z Z (Zr S23 Z Z ab (O Z Z (Zm (v := U 0) Z Z (Zb (V ?_)))))))))))))))))
 obtain ⟨ad, av, aB, a9, a7⟩ := QO hm
 refine QJ (M := fun f' w' => ∃ s', (ad = .next s' ∨ ad = .brk s') ∧ (fun (_ : Unit) => ∃ (an : PHeap) , PHeap.le s an ∧ St w0 an (H) w' ∧ f' 1 = j ∧ f' 7 = l ∧ f' 8 = U ((n.length : Int))) s') ?_ ?_
 ·refine Qm (J4 (fun k' s' f' w' => (fun (_ : Unit) => ∃ (ao : PHeap) , PHeap.le s ao ∧ St w0 ao (H) w' ∧ f' 1 = j ∧ f' 7 = l ∧ f' 8 = U ((n.length : Int)) ∧ f' 9 = U (k' : Int)) s') av ?_ ?_ ?_)
  ·exact ⟨s, (Zv _), hS, Z, Z, Z, Z⟩
  ·intro ai bp ae bg bu a8 aw d aC
   obtain ⟨z, p, af, t, x, y, u⟩ := aw
   refine Zc (Zd (O Z Z (Zq Z u y (Zb (V (Zc (QK (Zx (decide_eq_true (by omega))) (Qp (V (Zc (Qm (Zc (Zd ?_)))))))))))))
   obtain ⟨i, aM, d⟩ := Zg d
   refine O Z Z (Qu S23 Z x u (ab.mono p) aM ?_)
   intro aV bk ar
   refine O Z Z (Zw (E := encFact) af A90 Z Z Z ar ?_)
   intro bs aN
   obtain rfl := Ye.1 aN
   refine O Z Z (Exec.alloc (cs := [U 0, U 0]) af Z90 Z Z ?_)
   intro aW bv a0
   refine O Z Z (Qf (ds := [U (i.Var), U (i.Val)]) (es := [U (i.Var), U (i.Val)]) a0 A90 Z Z Z Z (Zj Z (Zj Z Q6)) (Nat.le_of_ble_eq_true Z) Z ?_)
   intro bw a1
   refine Zb (V (Zc ?_))
   obtain ⟨m, c, d⟩ := Zg d
   refine QJ (M := fun f' w' => (fun (m : Bool) => ∃ (ap : PHeap) , PHeap.le z ap ∧ St w0 ap (H) w' ∧ f' 1 = j ∧ f' 7 = l ∧ f' 8 = U ((n.length : Int)) ∧ f' 9 = U ((ai : Int)) ∧ f' 32 = Vb m) m) ?_ ?_
   ·refine K3 (n0 := 20) (.q 0 (.q 1 (.q 2 (.q 3 (.q 4 (.q 5 (.q 6 (.q 7 (.q 8 (.q 9 (.q 10 (.q 11 (.q 12 (.q 13 (.q 14 (.q 15 (.q 16 (.q 17 (.q 18 (.q 19 .done)))))))))))))))))))) K8 (by kernel_rfl) (by kernel_rfl) ?_
    have g := a1.drew
    refine Qh Z Z (Zp Yj Z Z Z ⟨Z, ?_⟩)
    refine Qh Z Z (Zn (g) A3 Z Z Z ⟨Z, ?_⟩)
    refine Qh Z Z (Zq Z Z Z ⟨Z, ?_⟩)
    refine Qh Z Z (Zm (v := Vb (decide (i.Var < 0))) Z Z ⟨Z, ?_⟩)
    rcases Qg c with ⟨b, c⟩ | ⟨b, c⟩
    ·refine Qq Z Z (Zf Z (Zx b)) Z (Qq Z Z (Zf Z (Zx b)) Z (Qq Z Z (Zf Z (Zx b)) Z (Qq Z Z (Zf Z (Zx b)) Z (Qq Z Z (Zf Z (Zx b)) Z (Qh Z Z (Zs (v := Vb true) Z (Zx b) Z ⟨Z, ?_⟩))))))
     refine Qh Z Z (Zm (v := Vb true) Z Z ⟨Z, ?_⟩)
     refine Qq Z Z (Zf Z Z) Z (Qq Z Z (Zf Z Z) Z (Qq Z Z (Zf Z Z) Z (Qq Z Z (Zf Z Z) Z (Qq Z Z (Zf Z Z) Z (Qq Z Z (Zf Z Z) Z (Qq Z Z (Zf Z Z) Z (Qq Z Z (Zf Z Z) Z (Qh Z Z (Zs (v := Vb true) Z Z Z ⟨Z, ?_⟩)))))))))
     refine QC (Zb (V ?_))
     have aY := Zu c
     subst m
     have a2 := g.drop
     exact ⟨z, (Zv _), a2, t, x, y, u, Z⟩
    replace b := Zk b
    refine Q9 Z Z (Zf Z (Zx b)) (Zp Yj Z Z Z ⟨Z, ?_⟩)
    refine Q9 Z Z (Zf Z (Zx b)) (Zn (g) A3 Z Z Z ⟨Z, ?_⟩)
    refine Q9 Z Z (Zf Z (Zx b)) (Zm (v := j) Z t ⟨Z, ?_⟩)
    refine Q9 Z Z (Zf Z (Zx b)) (Zr Jt Z Z (ac.mono p) ⟨Z, ?_⟩)
    refine Q9 Z Z (Zf Z (Zx b)) (Exec.geq Z Z Z ⟨Z, ?_⟩)
    refine Qh Z Z (Q5 (v := Vb (decide ((aa.length : Int) ≤ i.Var))) Z (Zx b) Z ⟨Z, ?_⟩)
    refine Qh Z Z (Zm (v := Vb (decide ((aa.length : Int) ≤ i.Var))) Z Z ⟨Z, ?_⟩)
    rcases Qg c with ⟨a, c⟩ | ⟨a, c⟩
    ·refine Qq Z Z (Zf Z (Zx a)) Z (Qq Z Z (Zf Z (Zx a)) Z (Qq Z Z (Zf Z (Zx a)) Z (Qq Z Z (Zf Z (Zx a)) Z (Qq Z Z (Zf Z (Zx a)) Z (Qq Z Z (Zf Z (Zx a)) Z (Qq Z Z (Zf Z (Zx a)) Z (Qq Z Z (Zf Z (Zx a)) Z (Qh Z Z (Zs (v := Vb true) Z (Zx a) Z ⟨Z, ?_⟩)))))))))
     refine QC (Zb (V ?_))
     have aZ := Zu c
     subst m
     have a3 := g.drop
     exact ⟨z, (Zv _), a3, t, x, y, u, Z⟩
    replace a := Zk a
    refine Q9 Z Z (Zf Z (Zx a)) (Zm (v := j) Z t ⟨Z, ?_⟩)
    refine Q9 Z Z (Zf Z (Zx a)) (Zp Yj Z Z Z ⟨Z, ?_⟩)
    refine Q9 Z Z (Zf Z (Zx a)) (Zn (g) A3 Z Z Z ⟨Z, ?_⟩)
    obtain ⟨aS, aO, c⟩ := Zg c
    refine Q9 Z Z (Zf Z (Zx a)) (QP Jt Z Z Z (ac.mono p) aO ?_)
    intro aX bl au ba
    refine ⟨Z, ?_⟩
    refine Q9 Z Z (Zf Z (Zx a)) (Zw (E := (Qa .i64)) g A3 Z Z Z au ?_)
    intro bt aP
    obtain rfl := Qs.1 aP
    refine ⟨Z, ?_⟩
    refine Q9 Z Z (Zf Z (Zx a)) (Zp QdX Z Z Z ⟨Z, ?_⟩)
    refine Q9 Z Z (Zf Z (Zx a)) (Zn (g) A3 Z Z Z ⟨Z, ?_⟩)
    refine Q9 Z Z (Zf Z (Zx a)) (Exec.neq Z Z Z ⟨Z, ?_⟩)
    refine Qh Z Z (Q5 (v := Vb (!decide (aS = i.Val))) Z (Zx a) Z ⟨Z, ?_⟩)
    refine QC (Zb (V ?_))
    have bb := Zu c
    subst m
    have a4 := g.drop
    exact ⟨z, (Zv _), a4, t, x, y, u, Z⟩
   intro bh bx ay
   obtain ⟨aq, aj, ag, aG, aH, aI, aJ, ak⟩ := ay
   refine (V ?_)
   rcases Qg d with ⟨o, d⟩ | ⟨o, d⟩
   ·refine Qv ak o (Zc (Zd (O Z Z (Zo (v := Vb false) Z Z (Zb (V (Q1 (QD (Qj (Qj (QD (Qj (Qj ?_)))))))))))))
    have bc := Zu d
    subst ae
    have aA := aB _ (aC (by intro _ h; cases h))
    have bd := Zu aA
    subst r
    refine ⟨_, QX Z, ?_⟩
    exact ⟨aq, (Zt p aj), ag, Z⟩
   refine Qw ak o ?_
   replace o := Zk o
   refine Qp (Qz (V (Zd (O Z Z (Exec.add Z aJ Z (O Z Z (Zm (v := U (IntKind.i64.wrap ((ai : Int) + 1))) Z Z (Zb (V ?_)))))))))
   have be := Zu d
   subst ae
   refine ⟨_, Z, ?_⟩; exact ⟨aq, (Zt p aj), ag, aG, aH, aI, (Eq.trans Z (QB a8 (SliceRep.le ab)))⟩
  intro bq bi bz ax aD
  obtain ⟨aQ, aE, a5, aK, aL, al, aT⟩ := ax
  refine Zc (Zd (O Z Z (Zq Z aT al (Zb (V (Zc (QA (Zx (decide_eq_false (by omega))) (QF (Ql (Ql (Q7 (V ?_))))))))))))
  refine ⟨_, .inl aD, ?_⟩; exact ⟨aQ, aE, a5, aK, aL, al⟩
 rintro bj b0 ⟨br, ah, az⟩
 have hm := ah.elim (a9 _) (a7 _)
 clear ah
 obtain ⟨aR, aF, a6, bm, bn, bo⟩ := az
 refine (V (Zc (Zd (O Z Z (Zo (v := Vb true) Z Z (Zb (V (Q1 ?_))))))))
 have bf := Zu hm
 subst r
 refine ⟨_, QX Z, ?_⟩
 exact ⟨aR, aF, a6, Z⟩
theorem N44 : (Tryz.f44.name == "runtime.NumGoroutine") = false := by kernel_rfl
theorem Qgv {w0 w : World} {s : PHeap} {H : List Res} {u : Task} {ar : (List Int)} {h : Int} {x : Value} {y : Value} {z : Value} {aa : Value} {i : Value} {r : (List Int) × Bool} (hm : Qaw u ar h = some r) (hS : St w0 s (H) w) (b5 : SliceRep (Qa .i64) s x u.Vars) (b6 : SliceRep (Qa .i64) s y u.Init) (b7 : SliceRep encFact s z u.Goal) (ad : SliceRep encOp s aa u.Ops) (ae : SliceRep (Qa .i64) s i ar) :
  Calls Tryz.prog 44 #[Value.agg #[x, y, z, aa], i, U h] w fun e w' => ∃ v, e = .returned v ∧ ((J2 fun (b2 : (List Int)) (b3 : Bool) => ∃ (ao : PHeap) (a7 : Value), PHeap.le s ao ∧ St w0 ao (H) w' ∧ v = Value.tuple #[a7, Value.bool (b3)] ∧ SliceRep (Qa .i64) ao a7 b2) r) := by
 unfold Qaw at hm
 refine Qy Tryz.func44 Z Z (Zc (Zd (O Z Z (Exec.box (cs := [x, y, z, aa]) hS Z Z Z ?_))))
 intro au cc l
 refine O Z Z (Zo (v := Vs none 0 0) Z Z (O Z Z (Zo (v := Vb false) Z Z (Zb (V (Zc (Zc ?_)))))))
 obtain ⟨m, b, hm⟩ := Zg hm
 refine QJ (M := fun f' w' => (fun (m : Bool) => ∃ (a3 : PHeap) , PHeap.le s a3 ∧ St w0 a3 (Res.box au 26 [x, y, z, aa] :: H) w' ∧ f' 1 = i ∧ f' 2 = U h ∧ f' 3 = Vp (some ⟨au, 0, none⟩) ∧ f' 30 = Vb m) m) ?_ ?_
 ·refine Zd (O Z Z (Zm (v := U h) Z Z (O Z Z (Zq Z Z Z (O Z Z (Zm (v := Vb (decide (h < 0))) Z Z ?_))))))
  rcases Qg b with ⟨c, b⟩ | ⟨c, b⟩
  ·refine Q0 17 (by rw [c]; rfl) ?_
   refine Zb (V ?_)
   have bE := Zu b
   subst m
   exact ⟨s, (Zv _), l, Z, Z, Z, Z⟩
  replace c := Zk c
  refine Qo Z (Zf Z (Zx c)) Z (Zm (v := U h) Z Z (Qo Z (Zf Z (Zx c)) Z (Zp Qaa Z Z Z (Qo Z (Zf Z (Zx c)) Z (Zn (l) A24 Z Z Z (Qo Z (Zf Z (Zx c)) Z (Zr S24 Z Z ad (Qo Z (Zf Z (Zx c)) Z (Exec.geq Z Z Z ?_)))))))))
  refine Q0 2 (by rw [c]; rfl) ?_
  rcases Qg b with ⟨a, b⟩ | ⟨a, b⟩
  ·refine Q0 10 (by rw [a]; rfl) ?_
   refine Zb (V ?_)
   have bF := Zu b
   subst m
   exact ⟨s, (Zv _), l, Z, Z, Z, Z⟩
  replace a := Zk a
  refine Qo Z (Zf Z (Zx a)) Z (Zp Qaa Z Z Z (Qo Z (Zf Z (Zx a)) Z (Zn (l) A24 Z Z Z (Qo Z (Zf Z (Zx a)) Z (Zm (v := U h) Z Z ?_)))))
  obtain ⟨co, bk, b⟩ := Zg b
  refine Qo Z (Zf Z (Zx a)) Z (Qu S24 Z Z Z ad bk ?_)
  intro b8 bT aA
  refine Qo Z (Zf Z (Zx a)) Z (Zp Qii Z Z Z (Qo Z (Zf Z (Zx a)) Z (Zw (E := (QE encFact)) l A23 Z Z Z (aA.sub (Sub.iso (Qdo (Qdo (QhB (Sub.refl _)) Z) Z)) Z) ?_)))
  intro ca bl
  have bu := Jw.1 bl
  refine Qo Z (Zf Z (Zx a)) Z (Zm (v := i) Z Z ?_)
  obtain ⟨b4, bm, b⟩ := Zg b
  refine Qo Z (Zf Z (Zx a)) Z (Exec.call Z Z Tryz.func22 Z N22 (Zi Z (Zi Z Qk)) ((QbE bm l bu ae).mono ?_))
  rintro _ cd ⟨_, rfl, ⟨bw, aW, aI, rfl⟩⟩
  refine ⟨_, Z, ?_⟩
  refine Qo Z (Zf Z (Zx a)) Z (Exec.not Z Z (O Z Z (Q5 (v := Vb (!b4)) Z (Zx a) Z (Zb (V ?_)))))
  have bG := Zu b
  subst m
  exact ⟨bw, aW, aI, Z, Z, Z, Z⟩
 intro bM ce aG
 obtain ⟨ap, q, aw, a0, bb, bc, a1⟩ := aG
 refine (V ?_)
 rcases Qg hm with ⟨o, hm⟩ | ⟨o, hm⟩
 ·refine Qv a1 o (Zc (Zd (O Z Z (Zo (v := Vs none 0 0) Z Z (O Z Z (Zo (v := Vb false) Z Z (Zb (V (Q1 (Qj ?_))))))))))
  have bH := Zu hm
  subst r
  refine ⟨_, Qbu Z, ?_⟩
  have aJ := aw.drop
  exact ⟨ap, (Vs none 0 0), q, aJ, (KX Z Z), (SliceRep.nil _ _)⟩
 refine Qw a1 o ?_
 replace o := Zk o
 refine Qp (V (Zc (Zd (O Z Z (Exec.buildSlice (Te := 3) (cs := []) aw Z Qx (fun _ => by kernel_rfl) ?_)))))
 intro b9 cf aK
 refine O Z Z (Zm (v := i) Z a0 ?_)
 have aL := St.boxArr (E := (Qa .i64)) (xs := []) aK rfl (by simp [maxLen])
 obtain ⟨bR, bn, hm⟩ := Zg hm
 refine O Z Z (Qbm (E := (Qa .i64)) (ys := ar) aL Jt Z3 Z (by decide) Z Z Z (ae.mono q) bn ?_)
 intro g cg af
 refine O Z Z (Zo (v := g) Z Z (Zb (V (Zc (Zc (Zd (O Z Z (Zp Qaa Z bc Z (O Z Z (Zn (af.f1) A24 Z Z Z (O Z Z (Zm (v := U h) Z bb ?_))))))))))))
 obtain ⟨a9, bo, hm⟩ := Zg hm
 refine O Z Z (Qu S24 Z Z Z (ad.mono q) bo ?_)
 intro bA bU aB
 refine O Z Z (Zp QdY Z Z Z (O Z Z (Zw (E := (QE encEffect)) af A58 Z Z Z (aB.sub (Sub.iso (Qdo (Qdo (Qdo (Sub.refl _) Z) Z) Z)) Z) ?_)))
 intro a8 bp
 have an := Jw.1 bp
 refine O Z Z (Zr S58 Z Z an (O Z Z (Zm (v := U 0) Z Z (Zb (V ?_)))))
 obtain ⟨ag, aD, hm⟩ := Zg hm
 refine Qm (J3 (fun k' s' f' w' => (fun (ag : (List Int)) => ∃ (a4 : PHeap) , PHeap.le ap a4 ∧ St w0 a4 (Res.arr (Qa .i64) 3 g ag :: H) w' ∧ f' 1 = i ∧ f' 8 = g ∧ f' 39 = a8 ∧ f' 40 = U ((a9.Effs.length : Int)) ∧ f' 41 = U (k' : Int)) s') aD ?_ ?_ ?_)
 ·have aM := (af.f1).drop
  exact ⟨ap, (Zv _), aM, a0, Z, Z, Z, Z⟩
 ·intro az ag bx bN ch aV aE j
  obtain ⟨bY, ah, ax, ai, aj, ak, al, ab⟩ := aE
  refine Zc (Zd (O Z Z (Zq Z ab al (Zb (V (Zc (QK (Zx (decide_eq_true (by omega))) (Qp (V (Zc (Qm (Zc (Zd ?_)))))))))))))
  obtain ⟨ac, bq, j⟩ := Zg j
  refine O Z Z (Qu S58 Z ak ab (an.mono ah) bq ?_)
  intro bB bV aC
  refine O Z Z (Zw (E := encEffect) ax A95 Z Z Z aC ?_)
  intro cb br
  obtain ⟨a6, rfl, a2⟩ := Yv.1 br
  refine O Z Z (Exec.alloc (cs := [Vs none 0 0, U 0, U 0]) ax Z95 Z Z ?_)
  intro bC ci aN
  refine O Z Z (Qf (ds := [a6, U (ac.Var), U (ac.Val)]) (es := [a6, U (ac.Var), U (ac.Val)]) aN A95 Z Z Z Z (Zj a2.one (Zj Z (Zj Z Q6))) (Nat.le_of_ble_eq_true Z) Z ?_)
  intro cj ay
  refine Zb (V (Zc (Zd (O Z Z (Zp Qih Z Z Z (O Z Z (Zn (ay) A23 Z Z Z (O Z Z (Zm (v := i) Z ai ?_)))))))))
  obtain ⟨cq, bs, j⟩ := Zg j
  refine O Z Z (Exec.call Z Z Tryz.func22 Z N22 (Zi Z (Zi Z Qk)) ((QbE bs ay a2 (ae.mono (Zt q ah))).mono ?_))
  rintro _ ck ⟨_, rfl, ⟨aq, aX, n, rfl⟩⟩
  refine ⟨_, Z, ?_⟩
  refine Zb (V ?_)
  obtain ⟨t, d, j⟩ := Zg j
  refine QJ (M := fun f' w' => (fun (t : (List Int)) => ∃ (a5 : PHeap) , PHeap.le aq a5 ∧ St w0 a5 (Res.arr (Qa .i64) 3 g t :: H) w' ∧ f' 1 = i ∧ f' 8 = g ∧ f' 39 = a8 ∧ f' 40 = U ((a9.Effs.length : Int)) ∧ f' 41 = U ((az : Int))) t) ?_ ?_
  ·rcases Qg d with ⟨p, d⟩ | ⟨p, d⟩
   ·refine Qv Z p (Zd (O Z Z (Zm (v := g) Z aj (O Z Z (Zp QgV Z Z Z (O Z Z (Zn (n) A3 Z Z Z (O Z Z (Zp QjG Z Z Z (O Z Z (Zn (n) A3 Z Z Z ?_)))))))))))
    obtain ⟨cp, am, d⟩ := Zg d
    obtain ⟨bQ, bD, av⟩ := (n.f1).arr_at am
    refine O Z Z (Qc Jt Z av Z (Qe am).1 (Qe am).2.1 ?_)
    obtain ⟨bS, bt, d⟩ := Zg d
    have aO := n.f1
    refine O Z Z (QN aO av A3 Z Z Z Z (Qs.2 Z) bt ?_)
    intro cl aP
    refine Zb (V ?_)
    have bI := Zu d
    subst t
    have aQ := (aP.f1).drop
    exact ⟨aq, (Zv _), aQ, ai, aj, ak, al, ab⟩
   refine Qw Z p ?_
   replace p := Zk p
   refine Qp (V ?_)
   have bJ := Zu d
   subst t
   have aR := n.drop
   exact ⟨aq, (Zv _), aR, ai, aj, ak, al, ab⟩
  intro bO cm aH
  obtain ⟨bz, aY, aS, bd, be, bf, bg, bh⟩ := aH
  refine (Qz (V (Zd (O Z Z (Exec.add Z bh Z (O Z Z (Zm (v := U (IntKind.i64.wrap ((az : Int) + 1))) Z Z (Zb (V ?_)))))))))
  have bK := Zu j
  subst bx
  exact ⟨bz, (Zt (Zt ah aX) aY), aS, bd, be, bf, bg, (Eq.trans Z (QB aV (SliceRep.le an)))⟩
 intro bP cn aF
 obtain ⟨bZ, aZ, aT, bW, bi, bX, bj, b1⟩ := aF
 refine Zc (Zd (O Z Z (Zq Z b1 bj (Zb (V (Zc (QA (Zx (decide_eq_false (by omega))) (QF (Ql (Ql (Q7 (V (Zc (Zd (O Z Z (Zm (v := g) Z bi (O Z Z (Zo (v := g) Z Z (O Z Z (Zo (v := Vb true) Z Z (Zb (V (Q1 ?_)))))))))))))))))))))))
 have bL := Zu hm
 subst r
 refine ⟨_, Qbu Z, ?_⟩
 obtain ⟨b0, ba, aU, bv⟩ := aT.freezeArr
 exact ⟨b0, g, (Zt (Zt q aZ) ba), aU, (KX Z Z), bv⟩
theorem N45 : (Tryz.f45.name == "runtime.NumGoroutine") = false := by kernel_rfl
theorem QgF {w0 w : World} {s : PHeap} {H : List Res} {x : (List Int)} {l : (List Int)} {g : Value} {d : Value} {r : Int} (hm : QaY x l = some r) (hS : St w0 s (H) w) (y : SliceRep (Qa .i64) s g x) (h : SliceRep (Qa .i64) s d l) :
  Calls Tryz.prog 45 #[g, d] w fun e w' => ∃ v, e = .returned v ∧ ((fun (ax : Int) => ∃ (t : PHeap) , PHeap.le s t ∧ St w0 t (H) w' ∧ v = U ax) r) := by
 unfold QaY at hm
 refine Qy Tryz.func45 Z Z (Zc (Zd (O Z Z (Zo (v := U 0) Z Z (Zb (V (Zc (Zd (O Z Z (Zo (v := U 0) Z Z (Zb (V (Zc (Zc (Zd (O Z Z (Zm (v := d) Z Z (O Z Z (Zr Jt Z Z h (O Z Z (Zm (v := U 0) Z Z (Zb (V ?_)))))))))))))))))))))))
 obtain ⟨a, ab, hm⟩ := Zg hm
 refine Qm (J3 (fun k' s' f' w' => (fun (a : Int) => ∃ (u : PHeap) , PHeap.le s u ∧ St w0 u (H) w' ∧ f' 0 = g ∧ f' 1 = d ∧ f' 5 = U a ∧ f' 8 = U ((l.length : Int)) ∧ f' 9 = U (k' : Int)) s') ab ?_ ?_ ?_)
 ·exact ⟨s, (Zv _), hS, Z, Z, Z, Z, Z⟩
 ·intro c a ap a4 aC ag ac b
  obtain ⟨aq, j, ae, n, o, ai, p, m⟩ := ac
  refine Zc (Zd (O Z Z (Zq Z m p (Zb (V (Zc (QK (Zx (decide_eq_true (by omega))) (Qp (V (Zc (Qm (Zc (Zd (O Z Z (Zm (v := U ((c : Int))) Z m (O Z Z (Zo (v := U ((c : Int))) Z Z (Zb (V (K3 (n0 := 11) (.q 0 (.q 1 (.q 2 (.q 3 (.q 4 (.q 5 (.q 6 (.q 7 (.q 8 (.q 9 (.q 10 .done))))))))))) K8 (by kernel_rfl) (by kernel_rfl) ?_))))))))))))))))))))
  have i := ae.drew
  refine Qh Z Z (Zm (v := U a) Z ai ⟨Z, ?_⟩)
  refine Qh Z Z (Zm (v := g) Z n ⟨Z, ?_⟩)
  refine Qh Z Z (Zm (v := U ((c : Int))) Z Z ⟨Z, ?_⟩)
  obtain ⟨au, al, b⟩ := Zg b
  refine Qh Z Z (QP Jt Z Z Z (y.mono j) al ?_)
  intro ay a6 z a0
  refine ⟨Z, ?_⟩
  refine Qh Z Z (Zw (E := (Qa .i64)) i A3 Z Z Z z ?_)
  intro aA am
  obtain rfl := Qs.1 am
  refine ⟨Z, ?_⟩
  refine Qh Z Z (Exec.mul Z Z Z ⟨Z, ?_⟩)
  refine Qh Z Z (Zm (v := d) Z o ⟨Z, ?_⟩)
  refine Qh Z Z (Zm (v := U ((c : Int))) Z Z ⟨Z, ?_⟩)
  obtain ⟨av, an, b⟩ := Zg b
  refine Qh Z Z (QP Jt Z Z Z (h.mono j) an ?_)
  intro az a7 aa a1
  refine ⟨Z, ?_⟩
  refine Qh Z Z (Zw (E := (Qa .i64)) i A3 Z Z Z aa ?_)
  intro aB ao
  obtain rfl := Qs.1 ao
  refine ⟨Z, ?_⟩
  refine Qh Z Z (Exec.add Z Z Z ⟨Z, ?_⟩)
  refine QC (O Z Z (Zo (v := U (IntKind.i64.wrap ((IntKind.i64.wrap (a * au)) + av))) Z Z (Zb (Qz (V (Zd (O Z Z (Exec.add Z m Z (O Z Z (Zm (v := U (IntKind.i64.wrap ((c : Int) + 1))) Z Z (Zb (V ?_))))))))))))
  have a2 := Zu b
  subst ap
  exact ⟨aq, j, i, n, o, Z, p, (Eq.trans Z (QB ag (SliceRep.le h)))⟩
 intro a5 aD ad
 obtain ⟨ar, ah, af, a8, a9, aj, ak, aw⟩ := ad
 refine Zc (Zd (O Z Z (Zq Z aw ak (Zb (V (Zc (QA (Zx (decide_eq_false (by omega))) (QF (Ql (Ql (Q7 (V (Zc (Zd (O Z Z (Zm (v := U a) Z aj (O Z Z (Zo (v := U a) Z Z (Zb (V (Q1 ?_)))))))))))))))))))))
 have a3 := Zu hm
 subst r
 refine ⟨_, QX Z, ?_⟩
 exact ⟨ar, ah, af, Z⟩
theorem S54 : Jb Tryz.prog 54 = some (57, 3, 24) := by kernel_rfl
theorem Z57 : JA Tryz.prog 57 = some (Value.agg #[U 0, U 0, U 0]) := by kernel_rfl
theorem N23 : (Tryz.f23.name == "runtime.NumGoroutine") = false := by kernel_rfl
theorem Qgu {w0 w : World} {s : PHeap} {H : List Res} {n : Task} {o : Value} {p : Value} {q : Value} {t : Value} {r : (List base_Edge)} (hm : Qav n = some r) (hS : St w0 s (H) w) (ai : SliceRep (Qa .i64) s o n.Vars) (aF : SliceRep (Qa .i64) s p n.Init) (aG : SliceRep encFact s q n.Goal) (aj : SliceRep encOp s t n.Ops) :
  Calls Tryz.prog 23 #[Value.agg #[o, p, q, t]] w fun e w' => ∃ v, e = .returned v ∧ ((fun (bT : (List base_Edge)) => ∃ (au : PHeap) (aD : Value), PHeap.le s au ∧ St w0 au (H) w' ∧ v = aD ∧ SliceRep encbase_Edge au aD bT) r) := by
 unfold Qav at hm
 refine Qy Tryz.func23 Z Z (Zc (Zd (O Z Z (Exec.box (cs := [o, p, q, t]) hS Z Z Z ?_))))
 intro x co ax
 refine O Z Z (Zo (v := Vs none 0 0) Z Z (Zb (V (Zc (Zd (O Z Z (Zo (v := Vs none 0 0) Z Z (Zb (V (Zc (Zc (Zd (O Z Z (Zp Yk Z Z Z (O Z Z (Zn (ax) A22 Z Z Z ?_))))))))))))))))
 obtain ⟨aw, bB, hm⟩ := Zg hm
 refine O Z Z (Exec.call Z Z Tryz.func18 Z N18 (Zi Z Qk) ((Qbl bB ax ai).mono ?_))
 rintro _ cp ⟨av, rfl, ⟨a7, _, h, aP, rfl, ar⟩⟩
 refine ⟨_, Z, ?_⟩
 refine O Z Z (Zr S44 Z Z ar (O Z Z (Zm (v := U 0) Z Z (Zb (V ?_)))))
 obtain ⟨an, aI, hm⟩ := Zg hm
 refine Qm (J3 (fun k' s' f' w' => (fun (an : (List base_Edge)) => ∃ (a8 : PHeap) (i : Value), PHeap.le a7 a8 ∧ St w0 a8 (Res.box x 26 [o, p, q, t] :: Res.arr encbase_Edge 57 i an :: H) w' ∧ f' 1 = Vp (some ⟨x, 0, none⟩) ∧ f' 3 = i ∧ f' 11 = av ∧ f' 12 = U ((aw.length : Int)) ∧ f' 13 = U (k' : Int)) s') aI ?_ ?_ ?_)
 ·have aQ := aP.nilArr encbase_Edge 57
  have aR := aQ.f1
  exact ⟨a7, (Vs none 0 0), (Zv _), aR, Z, Z, Z, Z, Z⟩
 ·intro a an bK cb cq bl aK z
  obtain ⟨a9, i, g, ak, a0, bs, a1, a2, af⟩ := aK
  refine Zc (Zd (O Z Z (Zq Z af a2 (Zb (V (Zc (QK (Zx (decide_eq_true (by omega))) (Qp (V (Zc (Qm (Zc (Zd (O Z Z (Zm (v := U ((a : Int))) Z af ?_)))))))))))))))
  obtain ⟨c0, bC, z⟩ := Zg z
  refine O Z Z (Qu S44 Z a1 af (ar.mono g) bC ?_)
  intro bU ch aH
  refine O Z Z (Zw (E := (QE (Qa .i64))) ak A22 Z Z Z aH ?_)
  intro ac bD
  have bH := Jw.1 bD
  refine O Z Z (Zo (v := U ((a : Int))) Z Z (O Z Z (Zo (v := ac) Z Z (Zb (V (Zc (Zd (O Z Z (Zp Qaa Z a0 Z (O Z Z (Zn (ak) A24 Z Z Z (O Z Z (Zr S24 Z Z (aj.mono (Zt h g)) (O Z Z (Zm (v := U 0) Z Z (Zb (V ?_)))))))))))))))))
  obtain ⟨am, aJ, z⟩ := Zg z
  refine Qm (J3 (fun k' s' f' w' => (fun (am : (List base_Edge)) => ∃ (aA : PHeap) (u : Value), PHeap.le a9 aA ∧ St w0 aA (Res.box x 26 [o, p, q, t] :: Res.arr encbase_Edge 57 u am :: H) w' ∧ f' 1 = Vp (some ⟨x, 0, none⟩) ∧ f' 3 = u ∧ f' 4 = U ((a : Int)) ∧ f' 5 = ac ∧ f' 11 = av ∧ f' 12 = U ((aw.length : Int)) ∧ f' 13 = U ((a : Int)) ∧ f' 20 = U ((n.Ops.length : Int)) ∧ f' 21 = U (k' : Int)) s') aJ ?_ ?_ ?_)
  ·have aS := ak.f1
   have aT := aS.f1
   exact ⟨a9, i, (Zv _), aT, a0, bs, Z, Z, a1, a2, af, Z, Z⟩
  ·intro b am bL cc cr bm aL l
   obtain ⟨cm, u, m, ay, ab, a3, ao, ap, a4, a5, a6, aq, ag⟩ := aL
   refine Zc (Zd (O Z Z (Zq Z ag aq (Zb (V (Zc (QK (Zx (decide_eq_true (by omega))) (Qp (V (Zc (Qm (Zc (Zd (O Z Z (Zm (v := U ((b : Int))) Z ag (O Z Z (Zo (v := U ((b : Int))) Z Z (Zb (V (Zc (Zd (O Z Z (Qn (ds := [o, p, q, t]) (ay) A26 Z ab Z (O Z Z (Zm (v := ac) Z ap (O Z Z (Zm (v := U ((b : Int))) Z Z ?_)))))))))))))))))))))))))))
   obtain ⟨bQ, bE, l⟩ := Zg l
   obtain ⟨c1, ah⟩ := bQ
   replace l := Jf l
   refine O Z Z (Exec.call Z Z Tryz.func44 Z N44 (Zi Z (Zi Z (Zi Z Qk))) ((Qgv bE ay (ai.mono (Zt (Zt h g) m)) (aF.mono (Zt (Zt h g) m)) (aG.mono (Zt (Zt h g) m)) (aj.mono (Zt (Zt h g) m)) (bH.mono m)).mono ?_))
   rintro _ ct ⟨_, rfl, ⟨aB, ad, az, al, rfl, bI⟩⟩
   refine ⟨_, Z, ?_⟩
   refine O Z Z (Zm (v := Value.tuple #[ad, Vb ah]) Z Z (O Z Z (Exec.extract (v := ad) Z Z Z (O Z Z (Exec.extract (v := Vb ah) Z Z Z (O Z Z (Zo (v := ad) Z Z (O Z Z (Zo (v := Vb ah) Z Z (Zb (V (Zc (Zd (O Z Z (Zm (v := Vb ah) Z Z (Zb (V ?_)))))))))))))))))
   obtain ⟨aa, d, l⟩ := Zg l
   refine QJ (M := fun f' w' => (fun (aa : (List base_Edge)) => ∃ (aC : PHeap) (ae : Value), PHeap.le aB aC ∧ St w0 aC (Res.box x 26 [o, p, q, t] :: Res.arr encbase_Edge 57 ae aa :: H) w' ∧ f' 1 = Vp (some ⟨x, 0, none⟩) ∧ f' 3 = ae ∧ f' 4 = U ((a : Int)) ∧ f' 5 = ac ∧ f' 11 = av ∧ f' 12 = U ((aw.length : Int)) ∧ f' 13 = U ((a : Int)) ∧ f' 20 = U ((n.Ops.length : Int)) ∧ f' 21 = U ((b : Int))) aa) ?_ ?_
   ·rcases Qg d with ⟨y, d⟩ | ⟨y, d⟩
    ·refine Qv Z y (Zd (O Z Z (Zm (v := u) Z a3 (O Z Z (Zm (v := U ((a : Int))) Z ao (O Z Z (Zm (v := U ((b : Int))) Z Z (O Z Z (Zp Yk Z ab Z (O Z Z (Zn (al) A22 Z Z Z (O Z Z (Zm (v := ad) Z Z ?_)))))))))))))
     obtain ⟨j, bF, d⟩ := Zg d
     refine O Z Z (Exec.call Z Z Tryz.func45 Z N45 (Zi Z (Zi Z Qk)) ((QgF bF al (ai.mono (Zt (Zt (Zt h g) m) az)) bI).mono ?_))
     rintro _ cu ⟨_, rfl, ⟨bM, bn, aU, rfl⟩⟩
     refine ⟨_, Z, ?_⟩
     refine O Z Z (Exec.build Z (Qb (c := [U ((a : Int))]) (Qi Z Z) (Qb (c := [U ((b : Int))]) (Qi Z Z) (Qb (c := [U j]) (Qi Z Z) Qx))) (v := Value.agg #[U ((a : Int)), U ((b : Int)), U j]) (fun _ => by kernel_rfl) (O Z Z (Exec.buildSlice (Te := 57) (cs := [U ((a : Int)), U ((b : Int)), U j]) aU Z (Qb (c := [U ((a : Int)), U ((b : Int)), U j]) (Qi Z Z) Qx) (fun _ => by kernel_rfl) ?_)))
     intro bV cv aV
     obtain ⟨cg, bG, d⟩ := Zg d
     have aW := aV.f2
     refine O Z Z (QR (E := encbase_Edge) (ys := [(⟨(a : Int), (b : Int), j⟩ : base_Edge)]) aW S54 Z57 Z (by decide) Z Z Z Z ⟨[U ((a : Int)), U ((b : Int)), U j], [], Z, ⟨[U ((a : Int))], [U ((b : Int)), U j], Z, Z, ⟨[U ((b : Int))], [U j], Z, Z, Z⟩⟩, Z⟩ Z bG ?_)
     intro aE cw aX
     refine O Z Z (Zo (v := aE) Z Z (Zb (V ?_)))
     have bW := Zu d
     subst aa
     have aY := aX.f1
     exact ⟨bM, aE, bn, aY, ab, Z, ao, ap, a4, a5, a6, aq, ag⟩
    refine Qw Z y ?_
    replace y := Zk y
    refine Qp (V ?_)
    have bX := Zu d
    subst aa
    have aZ := al.f1
    have ba := aZ.f1
    exact ⟨aB, u, (Zv _), ba, ab, a3, ao, ap, a4, a5, a6, aq, ag⟩
   intro cd cx aO
   obtain ⟨bN, ae, bo, bb, bt, bu, bv, bw, bx, bz, b0, b1, b2⟩ := aO
   refine (Qz (V (Zd (O Z Z (Exec.add Z b2 Z (O Z Z (Zm (v := U (IntKind.i64.wrap ((b : Int) + 1))) Z Z (Zb (V ?_)))))))))
   have bY := Zu l
   subst bL
   have bc := bb.f1
   have bd := bc.f1
   exact ⟨bN, ae, (Zt (Zt m az) bo), bd, bt, bu, bv, bw, bx, bz, b0, b1, (Eq.trans Z (QB bm (SliceRep.le (aj.mono (Zt h g)))))⟩
  intro ce cy aM
  obtain ⟨bO, u, bp, be, b3, b4, ci, cj, b5, b6, b7, b8, bR⟩ := aM
  refine Zc (Zd (O Z Z (Zq Z bR b8 (Zb (V (Zc (QA (Zx (decide_eq_false (by omega))) (QF (Ql (Ql (Q7 (Qz (V (Zd (O Z Z (Exec.add Z b7 Z (O Z Z (Zm (v := U (IntKind.i64.wrap ((a : Int) + 1))) Z Z (Zb (V ?_))))))))))))))))))))
  have bZ := Zu z
  subst bK
  have bf := be.f1
  have bg := bf.f1
  exact ⟨bO, u, (Zt g bp), bg, b3, b4, b5, b6, (Eq.trans Z (QB bl (SliceRep.le ar)))⟩
 intro cf cz aN
 obtain ⟨cn, i, bq, bh, ck, b9, cl, bA, bS⟩ := aN
 refine Zc (Zd (O Z Z (Zq Z bS bA (Zb (V (Zc (QA (Zx (decide_eq_false (by omega))) (QF (Ql (Ql (Q7 (V (Zc (Zd (O Z Z (Zm (v := i) Z b9 (O Z Z (Zo (v := i) Z Z (Zb (V (Q1 ?_)))))))))))))))))))))
 have ca := Zu hm
 subst r
 refine ⟨_, QX Z, ?_⟩
 have bi := bh.f1
 obtain ⟨bP, br, bj, bJ⟩ := bi.freezeArr
 have bk := bj.drop
 exact ⟨bP, i, (Zt (Zt h bq) br), bk, Z, bJ⟩
theorem A57 : JI Tryz.prog 57 = some (true, 3) := by kernel_rfl
theorem QnY : Jk Tryz.prog 57 1 = some 1 := by kernel_rfl
theorem Qlf : Jk Tryz.prog 57 2 = some 2 := by kernel_rfl
theorem Qnb : Jk Tryz.prog 57 0 = some 0 := by kernel_rfl
theorem N21 : (Tryz.f21.name == "runtime.NumGoroutine") = false := by kernel_rfl
theorem QcF {w0 w : World} {s : PHeap} {H : List Res} {ak : Task} {m : Value} {n : Value} {o : Value} {p : Value} {r : (List Int)} (hm : Ks ak = some r) (hS : St w0 s (H) w) (aR : SliceRep (Qa .i64) s m ak.Vars) (bK : SliceRep (Qa .i64) s n ak.Init) (aS : SliceRep encFact s o ak.Goal) (aT : SliceRep encOp s p ak.Ops) :
  Calls Tryz.prog 21 #[Value.agg #[m, n, o, p], Value.slice none 0 0] w fun e w' => ∃ v, e = .returned v ∧ ((fun (dO : (List Int)) => ∃ (aK : PHeap) (bG : Value), PHeap.le s aK ∧ St w0 aK (H) w' ∧ v = bG ∧ SliceRep (Qa .i64) aK bG dO) r) := by
 unfold Ks at hm
 refine Qy Tryz.func21 Z Z (Zc (Zd (O Z Z (Exec.box (cs := [m, n, o, p]) hS Z Z Z ?_))))
 intro c eP bg
 refine O Z Z (Zo (v := Vs none 0 0) Z Z (Zb (V (Zc (Zd (O Z Z (Zp Yk Z Z Z (O Z Z (Zn (bg) A22 Z Z Z ?_)))))))))
 obtain ⟨bJ, dr, hm⟩ := Zg hm
 refine O Z Z (Exec.call Z Z Tryz.func18 Z N18 (Zi Z Qk) ((Qbl dr bg aR).mono ?_))
 rintro _ eQ ⟨al, rfl, ⟨b8, _, aa, ca, rfl, ay⟩⟩
 refine ⟨_, Z, ?_⟩
 refine O Z Z (Zo (v := al) Z Z (Zb (V (Zc (Zd (O Z Z (Zm (v := al) Z Z (O Z Z (Zr S44 Z Z ay ?_)))))))))
 obtain ⟨e3, dt, hm⟩ := Zg hm
 refine O Z Z (JX (E := (Qa .i64)) ca Jt Z3 Z Z Z Z dt ?_)
 intro b eR cb
 refine O Z Z (Zo (v := b) Z Z (Zb (V (Zc (Zc (Zd (O Z Z (Zm (v := al) Z Z (O Z Z (Zr S44 Z Z ay (O Z Z (Zm (v := U 0) Z Z (Zb (V ?_))))))))))))))
 obtain ⟨a5, bO, hm⟩ := Zg hm
 refine Qm (J3 (fun k' s' f' w' => (fun (a5 : (List Int)) => ∃ (b9 : PHeap) , PHeap.le b8 b9 ∧ St w0 b9 (Res.box c 26 [m, n, o, p] :: Res.arr (Qa .i64) 3 b a5 :: H) w' ∧ f' 1 = Vs none 0 0 ∧ f' 2 = Vp (some ⟨c, 0, none⟩) ∧ f' 6 = b ∧ f' 20 = al ∧ f' 21 = U ((bJ.length : Int)) ∧ f' 22 = U (k' : Int)) s') bO ?_ ?_ ?_)
 ·have cc := cb.f1
  exact ⟨b8, (Zv _), cc, Z, Z, Z, Z, Z, Z⟩
 ·intro ac a5 dB ek eS cF bR i
  obtain ⟨eG, a6, a2, br, a8, au, a9, aA, am⟩ := bR
  refine Zc (Zd (O Z Z (Zq Z am aA (Zb (V (Zc (QK (Zx (decide_eq_true (by omega))) (Qp (V (Zc (Qm (Zc (Zd (O Z Z (Zm (v := U ((ac : Int))) Z am ?_)))))))))))))))
  obtain ⟨fi, du, i⟩ := Zg i
  refine O Z Z (Qu S44 Z a9 am (ay.mono a6) du ?_)
  intro dP e7 bL
  refine O Z Z (Zw (E := (QE (Qa .i64))) a2 A22 Z Z Z bL ?_)
  intro bH dv
  have d9 := Jw.1 dv
  refine O Z Z (Zo (v := U ((ac : Int))) Z Z (O Z Z (Zo (v := bH) Z Z (Zb (V (Zc (Zd (O Z Z (Zm (v := b) Z au (O Z Z (Zm (v := U ((ac : Int))) Z Z ?_)))))))))))
  obtain ⟨fj, aG, i⟩ := Zg i
  obtain ⟨ev, dS, aZ⟩ := (a2.f1).arr_at aG
  refine O Z Z (Qc Jt Z aZ Z (Qe aG).1 (Qe aG).2.1 ?_)
  obtain ⟨e4, dw, i⟩ := Zg i
  have cd := a2.f1
  refine O Z Z (QN cd aZ A3 Z Z Z Z (Qs.2 Z) dw ?_)
  intro eT bh
  refine Zb (V (Zc (Zd (O Z Z (Zp QjI Z a8 Z (O Z Z (Zn (bh.f1) A23 Z Z Z (O Z Z (Zm (v := bH) Z Z ?_)))))))))
  obtain ⟨fn, dx, i⟩ := Zg i
  refine O Z Z (Exec.call Z Z Tryz.func22 Z N22 (Zi Z (Zi Z Qk)) ((QbE dx bh (aS.mono (Zt aa a6)) d9).mono ?_))
  rintro _ eU ⟨_, rfl, ⟨aL, cJ, a3, rfl⟩⟩
  refine ⟨_, Z, ?_⟩
  refine Zb (V ?_)
  obtain ⟨ai, u, i⟩ := Zg i
  refine QJ (M := fun f' w' => (fun (ai : (List Int)) => ∃ (bA : PHeap) , PHeap.le aL bA ∧ St w0 bA (Res.box c 26 [m, n, o, p] :: Res.arr (Qa .i64) 3 b ai :: H) w' ∧ f' 1 = Vs none 0 0 ∧ f' 2 = Vp (some ⟨c, 0, none⟩) ∧ f' 6 = b ∧ f' 20 = al ∧ f' 21 = U ((bJ.length : Int)) ∧ f' 22 = U ((ac : Int))) ai) ?_ ?_
  ·rcases Qg u with ⟨af, u⟩ | ⟨af, u⟩
   ·refine Qv Z af (Zd (O Z Z (Zm (v := b) Z au (O Z Z (Zm (v := U ((ac : Int))) Z Z ?_)))))
    obtain ⟨fk, aH, u⟩ := Zg u
    obtain ⟨ew, dT, ba⟩ := a3.arr_at aH
    refine O Z Z (Qc Jt Z ba Z (Qe aH).1 (Qe aH).2.1 ?_)
    obtain ⟨e5, dy, u⟩ := Zg u
    refine O Z Z (QN a3 ba A3 Z Z Z Z (Qs.2 Z) dy ?_)
    intro eV ce
    refine Zb (V ?_)
    have dZ := Zu u
    subst ai
    have cf := ce.f1
    exact ⟨aL, (Zv _), cf, br, a8, au, a9, aA, am⟩
   refine Qw Z af ?_
   replace af := Zk af
   refine Qp (V ?_)
   have ea := Zu u
   subst ai
   have cg := a3.f1
   exact ⟨aL, (Zv _), cg, br, a8, au, a9, aA, am⟩
  intro el eW bW
  obtain ⟨dC, cK, ch, cQ, cR, cS, cT, cU, cV⟩ := bW
  refine (Qz (V (Zd (O Z Z (Exec.add Z cV Z (O Z Z (Zm (v := U (IntKind.i64.wrap ((ac : Int) + 1))) Z Z (Zb (V ?_)))))))))
  have eb := Zu i
  subst dB
  have ci := ch.f1
  have cj := ci.f1
  exact ⟨dC, (Zt (Zt a6 cJ) cK), cj, cQ, cR, cS, cT, cU, (Eq.trans Z (QB cF (SliceRep.le ay)))⟩
 intro em eX bS
 obtain ⟨eH, ad, bi, cW, bs, cX, eA, cY, dL⟩ := bS
 refine Zc (Zd (O Z Z (Zq Z dL cY (Zb (V (Zc (QA (Zx (decide_eq_false (by omega))) (QF (Ql (Ql (Q7 (V (Zc (Zd (O Z Z (Qn (ds := [m, n, o, p]) (bi) A26 Z bs Z ?_))))))))))))))))
 obtain ⟨aQ, dz, hm⟩ := Zg hm
 refine O Z Z (Exec.call Z Z Tryz.func23 Z N23 (Zi Z Qk) ((Qgu dz bi (aR.mono (Zt aa ad)) (bK.mono (Zt aa ad)) (aS.mono (Zt aa ad)) (aT.mono (Zt aa ad))).mono ?_))
 rintro _ eY ⟨t, rfl, ⟨aM, _, bn, ck, rfl, aJ⟩⟩
 refine ⟨_, Z, ?_⟩
 refine O Z Z (Zo (v := t) Z Z (Zb (V (Zc (Zc (Zd (O Z Z (Zo (v := Vb true) Z Z (Zb (V ?_))))))))))
 obtain ⟨aV, bP, e2, cH, cE⟩ := QO hm
 refine QJ (M := fun f' w' => ∃ s', (aV = .next s' ∨ aV = .brk s') ∧ (J2 fun (aX : Bool) (bo : (List Int)) => ∃ (bB : PHeap) , PHeap.le aM bB ∧ St w0 bB (Res.box c 26 [m, n, o, p] :: Res.arr (Qa .i64) 3 b bo :: H) w' ∧ f' 1 = Vs none 0 0 ∧ f' 2 = Vp (some ⟨c, 0, none⟩) ∧ f' 6 = b ∧ f' 9 = t ∧ f' 10 = Vb aX) s') ?_ ?_
 ·refine Qm (Yy (fun s' f' w' => (J2 fun (a1 : Bool) (bp : (List Int)) => ∃ (bC : PHeap) , PHeap.le aM bC ∧ St w0 bC (Res.box c 26 [m, n, o, p] :: Res.arr (Qa .i64) 3 b bp :: H) w' ∧ f' 1 = Vs none 0 0 ∧ f' 2 = Vp (some ⟨c, 0, none⟩) ∧ f' 6 = b ∧ f' 9 = t ∧ f' 10 = Vb a1) s') bP ?_ ?_)
  ·have cl := ck.f1
   have cm := cl.f1
   exact ⟨aM, (Zv _), cm, cW, bs, cX, Z, Z⟩
  intro dH aW en eZ bT j cI
  obtain ⟨a1, bp⟩ := dH
  replace j := Jf j
  obtain ⟨aN, ae, bj, bt, bu, bv, aB, bw⟩ := bT
  refine Zc (Zc (Zd (O Z Z (Zm (v := Vb a1) Z bw (Zb (V ?_))))))
  rcases Qg j with ⟨ag, j⟩ | ⟨ag, j⟩
  ·refine Qv Z ag (Qp (V (Qm (Zc (Zd (O Z Z (Zo (v := Vb false) Z Z (Zb (V (Zc (Zd (O Z Z (Zm (v := t) Z aB (O Z Z (Zr S54 Z Z (aJ.mono ae) (O Z Z (Zm (v := U 0) Z Z (Zb (V ?_)))))))))))))))))))
   obtain ⟨dI, bQ, j⟩ := Zg j
   refine Qm (J3 (fun k' s' f' w' => (J2 fun (ap : Bool) (ar : (List Int)) => ∃ (bD : PHeap) , PHeap.le aN bD ∧ St w0 bD (Res.box c 26 [m, n, o, p] :: Res.arr (Qa .i64) 3 b ar :: H) w' ∧ f' 1 = Vs none 0 0 ∧ f' 2 = Vp (some ⟨c, 0, none⟩) ∧ f' 6 = b ∧ f' 9 = t ∧ f' 10 = Vb ap ∧ f' 41 = t ∧ f' 42 = U ((aQ.length : Int)) ∧ f' 43 = U (k' : Int)) s') bQ ?_ ?_ ?_)
   ·have cn := bj.f1
    have co := cn.f1
    exact ⟨aN, (Zv _), co, bt, bu, bv, aB, Z, Z, Z, Z⟩
   ·intro a4 dJ dD eo fa cG bU d
    obtain ⟨ap, ar⟩ := dJ
    replace d := Jf d
    obtain ⟨aO, a7, bk, aC, aD, aj, bx, bz, aE, aF, a0⟩ := bU
    refine Zc (Zd (O Z Z (Zq Z a0 aF (Zb (V (Zc (QK (Zx (decide_eq_true (by omega))) (Qp (V (Zc (Qm (Zc (Zd ?_)))))))))))))
    obtain ⟨y, d0, d⟩ := Zg d
    refine O Z Z (Qu S54 Z aE a0 (aJ.mono (Zt ae a7)) d0 ?_)
    intro dQ e8 bM
    refine O Z Z (Zw (E := encbase_Edge) bk A57 Z Z Z bM ?_)
    intro eJ d1
    obtain rfl := QeR.1 d1
    refine O Z Z (Exec.alloc (cs := [U 0, U 0, U 0]) bk Z57 Z Z ?_)
    intro aU fb cp
    refine O Z Z (Qf (ds := [U (y.From), U (y.Op), U (y.To)]) (es := [U (y.From), U (y.Op), U (y.To)]) cp A57 Z Z Z Z (Zj Z (Zj Z (Zj Z Q6))) (Nat.le_of_ble_eq_true Z) Z ?_)
    intro fc aq
    refine Zb (V (Zc (Zd (O Z Z (Zp Qaa Z aD Z (O Z Z (Zn (aq.f1) A24 Z Z Z (O Z Z (Zp QnY Z Z Z (O Z Z (Zn (aq) A3 Z Z Z ?_)))))))))))
    obtain ⟨an, d2, d⟩ := Zg d
    refine O Z Z (Qu S24 Z Z Z (aT.mono (Zt (Zt (Zt (Zt aa ad) bn) ae) a7)) d2 ?_)
    intro dR e9 bN
    refine O Z Z (Zp QgW Z Z Z (O Z Z (Zw (E := (Qa .i64)) aq A3 Z Z Z (bN.sub (Sub.iso (Qdo (QhB (Sub.refl _)) Z)) Z) ?_)))
    intro eK d3
    obtain rfl := Qs.1 d3
    refine O Z Z (Zo (v := U (an.Cost)) Z Z (Zb (V (Zc (Zc (Zd (O Z Z (Zm (v := Vs none 0 0) Z aC (O Z Z (QdU Tryz.underlying22 Z Z Z (Zb (V (QA Z (Qp (V (Zc ?_))))))))))))))))
    obtain ⟨ao, x, d⟩ := Zg d
    refine QJ (M := fun f' w' => (fun (ao : Bool) => ∃ (bE : PHeap) , PHeap.le aO bE ∧ St w0 bE (Res.box c 26 [m, n, o, p] :: Res.arr (Qa .i64) 3 b ar :: Res.box aU 57 [U (y.From), U (y.Op), U (y.To)] :: H) w' ∧ f' 1 = Vs none 0 0 ∧ f' 2 = Vp (some ⟨c, 0, none⟩) ∧ f' 6 = b ∧ f' 9 = t ∧ f' 10 = Vb ap ∧ f' 12 = Vp (some ⟨aU, 0, none⟩) ∧ f' 13 = U (an.Cost) ∧ f' 41 = t ∧ f' 42 = U ((aQ.length : Int)) ∧ f' 43 = U ((a4 : Int)) ∧ f' 81 = Vb ao) ao) ?_ ?_
    ·refine K3 (n0 := 21) (.q 0 (.q 1 (.q 2 (.q 3 (.q 4 (.q 5 (.q 6 (.q 7 (.q 8 (.q 9 (.q 10 (.q 11 (.q 12 (.q 13 (.q 14 (.q 15 (.q 16 (.q 17 (.q 18 (.q 19 (.q 20 .done))))))))))))))))))))) K8 (by kernel_rfl) (by kernel_rfl) ?_
     have g := aq.drew
     refine Qh Z Z (Zm (v := b) Z aj ⟨Z, ?_⟩)
     refine Qh Z Z (Zp Qlf Z Z Z ⟨Z, ?_⟩)
     refine Qh Z Z (Zn (g) A3 Z Z Z ⟨Z, ?_⟩)
     obtain ⟨bI, z, x⟩ := Zg x
     obtain ⟨ex, dU, bb⟩ := (g.f2).arr_at z
     refine Qh Z Z (Qc Jt Z bb Z (Qe z).1 (Qe z).2.1 ⟨Z, ?_⟩)
     refine Qh Z Z (Qt (F := (Qa .i64)) (g.f2) bb A3 Z Z Z z (Sub.refl _) ?_)
     intro eL d4
     obtain rfl := Qs.1 d4
     refine ⟨Z, ?_⟩
     refine Qh Z Z (Zq Z Z Z ⟨Z, ?_⟩)
     refine Qh Z Z (Zm (v := Vb (decide (bI < 1125899906842624))) Z Z ⟨Z, ?_⟩)
     rcases Qg x with ⟨a, x⟩ | ⟨a, x⟩
     ·refine Q9 Z Z (Zf Z (Zx a)) (Zm (v := b) Z aj ⟨Z, ?_⟩)
      refine Q9 Z Z (Zf Z (Zx a)) (Zp Qlf Z Z Z ⟨Z, ?_⟩)
      refine Q9 Z Z (Zf Z (Zx a)) (Zn (g) A3 Z Z Z ⟨Z, ?_⟩)
      obtain ⟨ey, dV, bc⟩ := (g.f2).arr_at z
      refine Q9 Z Z (Zf Z (Zx a)) (Qc Jt Z bc Z (Qe z).1 (Qe z).2.1 ⟨Z, ?_⟩)
      refine Q9 Z Z (Zf Z (Zx a)) (Qt (F := (Qa .i64)) (g.f2) bc A3 Z Z Z z (Sub.refl _) ?_)
      intro eM d5
      obtain rfl := Qs.1 d5
      refine ⟨Z, ?_⟩
      refine Q9 Z Z (Zf Z (Zx a)) (Zm (v := U (an.Cost)) Z Z ⟨Z, ?_⟩)
      refine Q9 Z Z (Zf Z (Zx a)) (Exec.add Z Z Z ⟨Z, ?_⟩)
      refine Q9 Z Z (Zf Z (Zx a)) (Zm (v := b) Z aj ⟨Z, ?_⟩)
      refine Q9 Z Z (Zf Z (Zx a)) (Zp Qnb Z Z Z ⟨Z, ?_⟩)
      refine Q9 Z Z (Zf Z (Zx a)) (Zn (g) A3 Z Z Z ⟨Z, ?_⟩)
      obtain ⟨dM, aw, x⟩ := Zg x
      obtain ⟨ez, dW, bd⟩ := (g.f2).arr_at aw
      refine Q9 Z Z (Zf Z (Zx a)) (Qc Jt Z bd Z (Qe aw).1 (Qe aw).2.1 ⟨Z, ?_⟩)
      refine Q9 Z Z (Zf Z (Zx a)) (Qt (F := (Qa .i64)) (g.f2) bd A3 Z Z Z aw (Sub.refl _) ?_)
      intro eN d6
      obtain rfl := Qs.1 d6
      refine ⟨Z, ?_⟩
      refine Q9 Z Z (Zf Z (Zx a)) (Zq Z Z Z ⟨Z, ?_⟩)
      refine Qh Z Z (Zs (v := Vb (decide ((IntKind.i64.wrap (bI + an.Cost)) < dM))) Z (Zx a) Z ⟨Z, ?_⟩)
      refine QC (Zb (V ?_))
      have ec := Zu x
      subst ao
      have cq := g.f2
      have cr := cq.f2
      exact ⟨aO, (Zv _), cr, aC, aD, aj, bx, bz, Z, Z, aE, aF, a0, Z⟩
     replace a := Zk a
     refine Qq Z Z (Zf Z (Zx a)) Z (Qq Z Z (Zf Z (Zx a)) Z (Qq Z Z (Zf Z (Zx a)) Z (Qq Z Z (Zf Z (Zx a)) Z (Qq Z Z (Zf Z (Zx a)) Z (Qq Z Z (Zf Z (Zx a)) Z (Qq Z Z (Zf Z (Zx a)) Z (Qq Z Z (Zf Z (Zx a)) Z (Qq Z Z (Zf Z (Zx a)) Z (Qq Z Z (Zf Z (Zx a)) Z (Qq Z Z (Zf Z (Zx a)) Z (Qq Z Z (Zf Z (Zx a)) Z (Qq Z Z (Zf Z (Zx a)) Z (Qh Z Z (Q5 (v := Vb false) Z (Zx a) Z ⟨Z, ?_⟩))))))))))))))
     refine QC (Zb (V ?_))
     have ed := Zu x
     subst ao
     have ct := g.f2
     have cu := ct.f2
     exact ⟨aO, (Zv _), cu, aC, aD, aj, bx, bz, Z, Z, aE, aF, a0, Z⟩
    intro ep fd bX
    obtain ⟨aP, cL, bl, b0, b1, av, b2, cZ, b3, da, b4, b5, b6, b7⟩ := bX
    refine (V ?_)
    obtain ⟨az, l, d⟩ := Zg d
    refine QJ (M := fun f' w' => (J2 fun (aY : Bool) (bq : (List Int)) => ∃ (bF : PHeap) , PHeap.le aP bF ∧ St w0 bF (Res.box c 26 [m, n, o, p] :: Res.arr (Qa .i64) 3 b bq :: H) w' ∧ f' 1 = Vs none 0 0 ∧ f' 2 = Vp (some ⟨c, 0, none⟩) ∧ f' 6 = b ∧ f' 9 = t ∧ f' 10 = Vb aY ∧ f' 41 = t ∧ f' 42 = U ((aQ.length : Int)) ∧ f' 43 = U ((a4 : Int))) az) ?_ ?_
    ·rcases Qg l with ⟨ah, l⟩ | ⟨ah, l⟩
     ·refine Qv b7 ah (Zc (K3 (n0 := 10) (.q 0 (.q 1 (.q 2 (.q 3 (.q 4 (.q 5 (.q 6 (.q 7 (.q 8 (.q 9 .done)))))))))) K8 (by kernel_rfl) (by kernel_rfl) ?_))
      have ab := bl.drew
      refine Qh Z Z (Zm (v := b) Z av ⟨Z, ?_⟩)
      refine Qh Z Z (Zp Qnb Z b3 Z ⟨Z, ?_⟩)
      refine Qh Z Z (Zn (ab.f2) A3 Z Z Z ⟨Z, ?_⟩)
      refine Qh Z Z (Zm (v := b) Z av ⟨Z, ?_⟩)
      refine Qh Z Z (Zp Qlf Z b3 Z ⟨Z, ?_⟩)
      refine Qh Z Z (Zn (ab.f2) A3 Z Z Z ⟨Z, ?_⟩)
      obtain ⟨fl, ax, l⟩ := Zg l
      obtain ⟨e0, dX, be⟩ := (ab.f1).arr_at ax
      refine Qh Z Z (Qc Jt Z be Z (Qe ax).1 (Qe ax).2.1 ⟨Z, ?_⟩)
      refine Qh Z Z (Qt (F := (Qa .i64)) (ab.f1) be A3 Z Z Z ax (Sub.refl _) ?_)
      intro eO d7
      obtain rfl := Qs.1 d7
      refine ⟨Z, ?_⟩
      refine Qh Z Z (Zm (v := U (an.Cost)) Z da ⟨Z, ?_⟩)
      refine Qh Z Z (Exec.add Z Z Z ⟨Z, ?_⟩)
      refine QC ?_
      obtain ⟨fm, aI, l⟩ := Zg l
      obtain ⟨e1, dY, bf⟩ := (ab.f1).arr_at aI
      refine O Z Z (Qc Jt Z bf Z (Qe aI).1 (Qe aI).2.1 ?_)
      obtain ⟨e6, d8, l⟩ := Zg l
      have cv := ab.f1
      refine O Z Z (QN cv bf A3 Z Z Z Z (Qs.2 Z) d8 ?_)
      intro fe cw
      refine Zb (V (Zd (O Z Z (Zo (v := Vb true) Z Z (Zb (V ?_))))))
      have ee := Zu l
      subst az
      have cx := (cw.f2).drop
      have cy := cx.f1
      exact ⟨aP, (Zv _), cy, b0, b1, av, b2, Z, b4, b5, b6⟩
     refine Qw b7 ah ?_
     replace ah := Zk ah
     refine Qp (V ?_)
     have ef := Zu l
     subst az
     have cz := (bl.f2).drop
     have c0 := cz.f1
     have c1 := c0.f1
     exact ⟨aP, (Zv _), c1, b0, b1, av, b2, cZ, b4, b5, b6⟩
    intro er ff bY
    obtain ⟨aY, bq⟩ := az
    replace d := Jf d
    obtain ⟨dE, cM, c2, db, dc, dd, de, df, dg, dh, di⟩ := bY
    refine (Qz (V (Zd (O Z Z (Exec.add Z di Z (O Z Z (Zm (v := U (IntKind.i64.wrap ((a4 : Int) + 1))) Z Z (Zb (V ?_)))))))))
    have eg := Zu d
    subst dD
    have c3 := c2.f1
    have c4 := c3.f1
    exact ⟨dE, (Zt (Zt a7 cL) cM), c4, db, dc, dd, de, df, dg, dh, (Eq.trans Z (QB cG (SliceRep.le (aJ.mono ae))))⟩
   intro et fg bV
   obtain ⟨ap, ar⟩ := dI
   replace j := Jf j
   obtain ⟨dF, cN, c5, dj, dk, dl, dm, dn, eB, dp, dN⟩ := bV
   refine Zc (Zd (O Z Z (Zq Z dN dp (Zb (V (Zc (QA (Zx (decide_eq_false (by omega))) (QF (Ql (Ql (Q7 (Qz (V ?_)))))))))))))
   have eh := Zu j
   subst aW
   have c6 := c5.f1
   have c7 := c6.f1
   refine ⟨_, Z, ?_⟩; exact ⟨dF, (Zt ae cN), c7, dj, dk, dl, dm, dn⟩
  refine Qw Z ag ?_
  replace ag := Zk ag
  refine QF (Ql (Ql (Q7 (V ?_))))
  have ei := Zu j
  subst aW
  have c8 := bj.f1
  have c9 := c8.f1
  refine ⟨_, .inr (cI (by intro _ h; cases h)), ?_⟩; exact ⟨aN, ae, c9, bt, bu, bv, aB, bw⟩
 rintro eu fh ⟨dK, bm, bZ⟩
 have hm := bm.elim (cH _) (cE _)
 clear bm
 obtain ⟨aX, bo⟩ := dK
 replace hm := Jf hm
 obtain ⟨eI, cO, cA, eC, eD, dq, eE, eF⟩ := bZ
 refine (V (Zc (Zd (O Z Z (Zm (v := b) Z dq (O Z Z (Zo (v := b) Z Z (Zb (V (Q1 ?_))))))))))
 have ej := Zu hm
 subst r
 refine ⟨_, QX Z, ?_⟩
 have cB := cA.f1
 obtain ⟨dG, cP, cC, dA⟩ := cB.freezeArr
 have cD := cC.drop
 exact ⟨dG, b, (Zt (Zt (Zt (Zt aa ad) bn) cO) cP), cD, Z, dA⟩
theorem Qor : (Tryz.prog.info? 50).map (·.zero) = some (some (.int .i64 0)) := by kernel_rfl
theorem N43 : (Tryz.f43.name == "runtime.NumGoroutine") = false := by kernel_rfl
theorem QhK {w0 w : World} {s : PHeap} {H : List Res} {a : (Option Int)} {r : Int} (hm : QbC a = some r) (hS : St w0 s (H) w) :
  Calls Tryz.prog 43 #[QG 50 (a)] w fun e w' => ∃ v, e = .returned v ∧ ((fun (f : Int) => ∃ (d : PHeap) , PHeap.le s d ∧ St w0 d (H) w' ∧ v = U f) r) := by
 unfold QbC at hm
 refine Qy Tryz.func43 Z Z (Zc (Zd (O Z Z (Zo (v := U 0) Z Z (Zb (V (Zc (Zc (Zd (O Z Z (Zm (v := QG 50 (a)) Z Z (O Z Z (Kl (T := 50) Tryz.underlying32 Z Z Z (Zb (V ?_)))))))))))))))
 rcases Qg hm with ⟨b, hm⟩ | ⟨b, hm⟩
 ·refine Qv Z b (Zc (Zd (O Z Z (Zo (v := U 0) Z Z (Zb (V (Q1 (Qj ?_))))))))
  have g := Zu hm
  subst r
  refine ⟨_, QX Z, ?_⟩
  exact ⟨s, (Zv _), hS, Z⟩
 refine Qw Z b ?_
 replace b := Zk b
 refine Qp (V (Zc (Zc (Zd (O Z Z (Zm (v := QG 50 (a)) Z Z (O Z Z (Qfs Tryz.underlying50 Qor Z Z (O Z Z (Zm (v := Value.tuple #[U (a.getD 0), Vb (a.isSome)]) Z Z (O Z Z (Exec.extract (v := U (a.getD 0)) Z Z Z (O Z Z (Exec.extract (v := Vb (a.isSome)) Z Z Z (O Z Z (Zo (v := U (a.getD 0)) Z Z (O Z Z (Zo (v := Vb (a.isSome)) Z Z (Zb (V (Zc (Zd (O Z Z (Zm (v := Vb (a.isSome)) Z Z (Zb (V ?_))))))))))))))))))))))))))
 rcases Qg hm with ⟨c, hm⟩ | ⟨c, hm⟩
 ·refine Qv Z c (Zc (Zd (O Z Z (Zm (v := U (a.getD 0)) Z Z (O Z Z (Zo (v := U (a.getD 0)) Z Z (Zb (V (Q1 (Qj ?_))))))))))
  have h := Zu hm
  subst r
  refine ⟨_, QX Z, ?_⟩
  exact ⟨s, (Zv _), hS, Z⟩
 refine Qw Z c ?_
 replace c := Zk c
 refine Qp (V (Zc (Zd (O Z Z (Zo (v := U ((-1))) Z Z (Zb (V (Q1 ?_))))))))
 have i := Zu hm
 subst r
 refine ⟨_, QX Z, ?_⟩
 exact ⟨s, (Zv _), hS, Z⟩
theorem N20 : (Tryz.f20.name == "runtime.NumGoroutine") = false := by kernel_rfl
theorem QiO {w0 w : World} {s : PHeap} {H : List Res} {b : (Option Int)} {c : Int} {r : Bool} (hm : Qcx b c = some r) (hS : St w0 s (H) w) :
  Calls Tryz.prog 20 #[QG 50 (b), U c] w fun e w' => ∃ v, e = .returned v ∧ ((fun (p : Bool) => ∃ (d : PHeap) , PHeap.le s d ∧ St w0 d (H) w' ∧ v = Value.bool (p)) r) := by
 unfold Qcx at hm
 refine Qy Tryz.func20 Z Z (Zc (Zd (O Z Z (Zo (v := Vb false) Z Z (Zb (V (Zc (QJ (M := fun f' w' => ∃ (g : PHeap) , PHeap.le s g ∧ St w0 g (H) w' ∧ f' 4 = Vb ((b.isSome && decide ((QaJ b) = c)))) ?_ ?_))))))))
 ·refine Zd (O Z Z (Zm (v := QG 50 (b)) Z Z (O Z Z (Je (T := 50) Tryz.underlying32 Z Z Z (O Z Z (Zm (v := Vb (b.isSome)) Z Z ?_))))))
  by_cases a : b.isSome = true
  ·refine Qo Z (Zf Z (Zx a)) Z (Zm (v := QG 50 (b)) Z Z (Qo Z (Zf Z (Zx a)) Z (Exec.call Z Z Tryz.func43 Z N43 (Zi Z Qk) ((QhK (Qev b) hS).mono ?_))))
   rintro _ u ⟨_, rfl, ⟨n, k, i, rfl⟩⟩
   refine ⟨_, Z, ?_⟩
   refine Qo Z (Zf Z (Zx a)) Z (Zm (v := U c) Z Z (Qo Z (Zf Z (Zx a)) Z (Exec.eql Z Z Z ?_)))
   refine Q0 2 (by rw [a]; rfl) ?_
   refine Zb (V ?_)
   exact ⟨n, k, i, (Zx (QmW a)).symm⟩
  replace a := Zk a
  refine Q0 6 (by rw [a]; rfl) ?_
  refine Zb (V ?_)
  exact ⟨s, (Zv _), hS, (Zx (QmX a)).symm⟩
 intro t x h
 obtain ⟨o, l, j, m⟩ := h
 refine (V (Q1 ?_))
 have q := Zu hm
 subst r
 refine ⟨_, QX Z, ?_⟩
 exact ⟨o, l, j, m⟩
end Go.Pw
