/- -/
import Derived.Test.YtpjojkomdndamaaGreatDoorLC
import Derived.Test.YtpjojkomdndamaaGreatDoorMx9
set_option maxRecDepth 100000
set_option maxHeartbeats 4000000
set_option linter.unusedVariables false
namespace Go.Pw
open Go.Proofs
theorem QbI {w0 w : World} {s : PHeap} {H : List Res} {a0 : Task} {aX : (List Int)} {ax : Int} {u : Value} {x : Value} {y : Value} {z : Value} {ae : Value} {r : Bool} (hm : Kr a0 aX ax = some r) (hS : St w0 s (H) w) (ac : SliceRep (Qa .i64) s u a0.Vars) (a2 : SliceRep (Qa .i64) s x a0.Init) (a3 : SliceRep encFact s y a0.Goal) (a4 : SliceRep encOp s z a0.Ops) (a5 : SliceRep (Qa .i64) s ae aX) :
  Calls Tryz.prog 8 #[Value.agg #[u, x, y, z], ae, Value.int .u16 (ax)] w fun e w' => ∃ v, e = .returned v ∧ ((fun (c6 : Bool) => ∃ (bj : PHeap) , PHeap.le s bj ∧ St w0 bj (H) w' ∧ v = Value.bool (c6)) r) := by
 unfold Kr at hm
 refine Qx Tryz.func8 Z Z (Zc (Zd (O Z Z (Exec.box (cs := [u, x, y, z]) hS Z Z Z ?_))))
 intro a6 d0 bz
 refine O Z Z (Zo (v := Vb false) Z Z (Zb (V (Zc (Zc ?_)))))
 obtain ⟨ap, c, hm⟩ := Zg hm
 refine QN (M := fun f' w' => (fun (ap : Bool) => ∃ (bk : PHeap) , PHeap.le s bk ∧ St w0 bk (Res.box a6 26 [u, x, y, z] :: H) w' ∧ f' 1 = ae ∧ f' 2 = Value.int .u16 (ax) ∧ f' 3 = Vq a6 ∧ f' 28 = Vb ap) ap) ?_ ?_
 ·refine Zd ?_
  obtain ⟨c7, cb, c⟩ := Zg c
  refine O Z Z (Tc Z Z Z Qj (QcE cb bz).r ?_)
  rintro _ d1 ⟨co, t, aA, rfl⟩
  refine O Z Z (Exec.not Z Z (O Z Z (Zm (v := Vb (!c7)) Z Z ?_)))
  rcases Qg c with ⟨ab, c⟩ | ⟨ab, c⟩
  ·refine Qz 12 (by rw [ab]; rfl) ?_
   refine Zb (V ?_)
   have cC := Zu c
   subst ap
   exact ⟨co, t, aA, Z, Z, Z, Z⟩
  replace ab := Zk ab
  refine Ql Z (Zf Z (Zx ab)) Z (Qk (ds := [u, x, y, z]) (aA) A26 Z Z Z ?_)
  obtain ⟨dK, cc, c⟩ := Zg c
  refine Ql Z (Zf Z (Zx ab)) Z (Tc Z Z Z (Zi Z Qj) (QgB cc aA (ac.mono t) (a2.mono t) (a3.mono t) (a4.mono t)).r ?_)
  rintro _ d2 ⟨cp, a7, aB, rfl⟩
  refine Ql Z (Zf Z (Zx ab)) Z (Exec.not Z Z ?_)
  refine Qz 2 (by rw [ab]; rfl) ?_
  rcases Qg c with ⟨l, c⟩ | ⟨l, c⟩
  ·refine Qz 7 (by rw [l]; rfl) ?_
   refine Zb (V ?_)
   have cD := Zu c
   subst ap
   exact ⟨cp, (Zt t a7), aB, Z, Z, Z, Z⟩
  replace l := Zk l
  refine Ql Z (Zf Z (Zx l)) Z (Zm (v := ae) Z Z (Ql Z (Zf Z (Zx l)) Z (Zp Yr Z Z Z (Ql Z (Zf Z (Zx l)) Z (Zn (aB) A22 Z Z Z (Ql Z (Zf Z (Zx l)) Z (Zr J7 Z Z (ac.mono (Zt t a7)) ?_)))))))
  obtain ⟨c8, cd, c⟩ := Zg c
  refine Ql Z (Zf Z (Zx l)) Z (Tc Z Z Z (Zi Z (Zi Z Qj)) (Qfi cd aB (a5.mono (Zt t a7))).r ?_)
  rintro _ d3 ⟨cq, bN, b0, rfl⟩
  refine Ql Z (Zf Z (Zx l)) Z (Exec.not Z Z (O Z Z (Q8 (v := Vb (!c8)) Z (Zx l) Z (Zb (V ?_)))))
  have cE := Zu c
  subst ap
  exact ⟨cq, (Zt (Zt t a7) bN), b0, Z, Z, Z, Z⟩
 intro cQ d4 bv
 obtain ⟨dg, a, aC, aF, aY, ah, aZ⟩ := bv
 refine (V ?_)
 rcases Qg hm with ⟨aq, hm⟩ | ⟨aq, hm⟩
 ·refine Qs aZ aq (Zc (Zd ?_))
  obtain ⟨c9, ce, hm⟩ := Zg hm
  refine O Z Z (Tc Z Z Z Qj (QcE ce aC).r ?_)
  rintro _ d5 ⟨cr, bO, b1, rfl⟩
  refine O Z Z (Zo (v := Vb c9) Z Z (Zb (V (Q0 (Qh ?_)))))
  have cF := Zu hm
  subst r
  refine ⟨_, QZ Z, ?_⟩
  exact ⟨cr, (Zt a bO), b1.drop, Z⟩
 refine Qt aZ aq ?_
 replace aq := Zk aq
 refine Qq (V (Zc (Zd (O Z Z (Zp Yr Z ah Z (O Z Z (Zn (aC) A22 Z Z Z ?_)))))))
 obtain ⟨aa, cf, hm⟩ := Zg hm
 refine O Z Z (Tc Z Z Z (Zi Z (Zi Z Qj)) (QbZ cf aC (ac.mono a)).r ?_)
 rintro _ d6 ⟨dh, b, aP, rfl⟩
 refine O Z Z (Zo (v := U aa) Z Z (Zb (V (Zc (Zd (O Z Z (Qk (ds := [u, x, y, z]) (aP) A26 Z ah Z (O Z Z (Zm (v := ae) Z aF (O Z Z (Zm (v := U aa) Z Z ?_)))))))))))
 obtain ⟨c2, cg, hm⟩ := Zg hm
 obtain ⟨da, d⟩ := c2
 replace hm := Ji hm
 refine O Z Z (Tc Z Z Z (Zi Z (Zi Z (Zi Z Qj))) (JQ cg aP (ac.mono (Zt a b)) (a2.mono (Zt a b)) (a3.mono (Zt a b)) (a4.mono (Zt a b)) (a5.mono (Zt a b))).r ?_)
 rintro _ d7 bF
 rcases bF with ⟨g, rfl, di, aI, n, ak, al, p, aQ, rfl, bg⟩ | ⟨rfl, dj, ad, aR, rfl⟩
 ·replace hm := Qbu hm
  obtain ⟨dq, ai, hm⟩ := Zg hm
  refine O Z Z (Zm (v := Value.tuple #[Vq n, QC 50 (d)]) Z Z (O Z Z (Exec.extract (v := Vq n) Z Z Z (O Z Z (Exec.extract (v := QC 50 (d)) Z Z Z (O Z Z (Zo (v := Vq n) Z Z (O Z Z (Zo (v := QC 50 (d)) Z Z (Zb (V (Zc (Zd (O Z Z (Qk (ds := [u, x, y, z]) (aQ.f3) A26 Z ah Z (O Z Z (Zm (v := ae) Z aF (O Z Z (Zm (v := U aa) Z Z (O Z Z (Zm (v := Value.int .u16 (ax)) Z aY ?_)))))))))))))))))))))
  refine O Z Z (Qcu (by rw [Tryz.underlying48]; rfl) Tryz.underlying3 Z Z ?_)
  refine O Z Z (Exec.add Z Z Z ?_)
  obtain ⟨c3, ch, hm⟩ := Zg hm
  obtain ⟨db, i⟩ := c3
  replace hm := Ji hm
  refine O Z Z (Tc Z Z Z (Zi Z (Zi Z (Zi Z Qj))) (JQ ch aQ (ac.mono (Zt (Zt a b) p)) (a2.mono (Zt (Zt a b) p)) (a3.mono (Zt (Zt a b) p)) (a4.mono (Zt (Zt a b) p)) (a5.mono (Zt (Zt a b) p))).r ?_)
  rintro _ d8 bG
  rcases bG with ⟨j, rfl, ct, aJ, o, am, an, af, b2, rfl, bh⟩ | ⟨rfl, cu, bP, b3, rfl⟩
  ·replace hm := Qbu hm
   obtain ⟨dr, ay, hm⟩ := Zg hm
   refine O Z Z (Zm (v := Value.tuple #[Vq o, QC 50 (i)]) Z Z (O Z Z (Exec.extract (v := Vq o) Z Z Z (O Z Z (Exec.extract (v := QC 50 (i)) Z Z Z (O Z Z (Zo (v := Vq o) Z Z (O Z Z (Zo (v := QC 50 (i)) Z Z (Zb (V (Zc (Zc ?_)))))))))))))
   obtain ⟨a1, av, hm⟩ := Zg hm
   refine QN (M := fun f' w' => (fun (a1 : Bool) => ∃ (bl : PHeap) , PHeap.le ct bl ∧ St w0 bl (Res.box a6 26 [u, x, y, z] :: Res.box n 74 [ak, al, aI, Vb (g.exact)] :: Res.box o 74 [am, an, aJ, Vb (j.exact)] :: Res.arr (Qa .i64) 3 ak g.vars :: Res.arr encmergeshrink_stage 87 al g.stages :: Res.arr (Qa .i64) 3 am j.vars :: Res.arr encmergeshrink_stage 87 an j.stages :: H) w' ∧ f' 3 = Vq a6 ∧ f' 8 = Vq n ∧ f' 10 = Vq o ∧ f' 67 = Vb a1) a1) ?_ ?_
   ·refine Zd (O Z Z (Zm (v := QC 50 (d)) Z Z (O Z Z (QY (T := 50) Tryz.underlying32 Z Z Z (O Z Z (Zm (v := Vb (d.isSome)) Z Z (Ql Z (Zf Z (Zx (Yx (Q7 ai)))) Z (Zm (v := QC 50 (i)) Z Z (Ql Z (Zf Z (Zx (Yx (Q7 ai)))) Z (QY (T := 50) Tryz.underlying32 Z Z Z (O Z Z (Q8 (v := Vb (i.isSome)) Z (Zx (Yx (Q7 ai))) Z (O Z Z (Zm (v := Vb (i.isSome)) Z Z (Ql Z (Zf Z (Zx (Yx (Q7 ay)))) Z (Zm (v := Vq n) Z Z (Ql Z (Zf Z (Zx (Yx (Q7 ay)))) Z (Tc Z Z Z (Zi Z Qj) (JF (Js g) ((b2.f5).f5).f5 (bg.mono af)).r ?_))))))))))))))))))
    rintro _ d9 ⟨cv, aE, aS, rfl⟩
    refine Ql Z (Zf Z (Zx (Yx (Q7 ay)))) Z (Zm (v := U aa) Z Z (Ql Z (Zf Z (Zx (Yx (Q7 ay)))) Z (Exec.neq Z Z Z (O Z Z (Q8 (v := Vb (!decide ((QM g) = aa))) Z (Zx (Yx (Q7 ay))) Z (O Z Z (Zm (v := Vb (!decide ((QM g) = aa))) Z Z ?_)))))))
    rcases Qg av with ⟨q, av⟩ | ⟨q, av⟩
    ·refine Qz 5 (by rw [q]; rfl) ?_
     refine Zb (V ?_)
     have cG := Zu av
     subst a1
     exact ⟨cv, aE, ((((((aS.f5).f5).f4).f4).f5).f5).f6, ah, Z, Z, Z⟩
    replace q := Zk q
    refine Ql Z (Zf Z (Zx q)) Z (Zm (v := Vq o) Z Z (Ql Z (Zf Z (Zx q)) Z (Tc Z Z Z (Zi Z Qj) (JF (Js j) ((aS.f5).f5).f5 (bh.mono aE)).r ?_)))
    rintro _ dA ⟨cw, bQ, b4, rfl⟩
    refine Ql Z (Zf Z (Zx q)) Z (Zm (v := U aa) Z Z (Ql Z (Zf Z (Zx q)) Z (Exec.neq Z Z Z (O Z Z (Q8 (v := Vb (!decide ((QM j) = aa))) Z (Zx q) Z (Zb (V ?_)))))))
    have cH := Zu av
    subst a1
    exact ⟨cw, (Zt aE bQ), ((((((b4.f2).f2).f5).f5).f4).f5).f6, ah, Z, Z, Z⟩
   intro cR dB bw
   obtain ⟨cx, ag, aD, bV, bW, bX, ba⟩ := bw
   refine (V ?_)
   rcases Qg hm with ⟨ar, hm⟩ | ⟨ar, hm⟩
   ·refine Qs ba ar (Zc (Zd (O Z Z (Zo (v := Vb false) Z Z (Zb (V (Q0 (Qh ?_))))))))
    have cI := Zu hm
    subst r
    refine ⟨_, QZ Z, ?_⟩
    exact ⟨cx, (Zt (Zt (Zt (Zt a b) p) af) ag), ((((((aD.drop).drop).drop).drop).drop).drop).drop, Z⟩
   refine Qt ba ar ?_
   replace ar := Zk ar
   refine Qq (V (Zc (Zc (Zd (O Z Z (Zp Yr Z bV Z (O Z Z (Zn (aD) A22 Z Z Z ?_))))))))
   obtain ⟨bq, ci, hm⟩ := Zg hm
   refine O Z Z (Tc Z Z Z (Zi Z Qj) (Qfk ci aD (ac.mono (Zt (Zt (Zt (Zt a b) p) af) ag))).r ?_)
   rintro bp dC ⟨aH, _, a8, b5, rfl, aG⟩
   refine O Z Z (Zr S44 Z Z aG (O Z Z (Zm (v := U 0) Z Z (Zb (V ?_)))))
   obtain ⟨aN, bs, bJ, bE, bC⟩ := QO hm
   refine QN (M := fun f' w' => ∃ s', (aN = .next s' ∨ aN = .brk s') ∧ (fun (_ : Unit) => ∃ (bm : PHeap) , PHeap.le aH bm ∧ St w0 bm (Res.box n 74 [ak, al, aI, Vb (g.exact)] :: Res.box o 74 [am, an, aJ, Vb (j.exact)] :: Res.arr (Qa .i64) 3 ak g.vars :: Res.arr encmergeshrink_stage 87 al g.stages :: Res.arr (Qa .i64) 3 am j.vars :: Res.arr encmergeshrink_stage 87 an j.stages :: H) w' ∧ f' 8 = Vq n ∧ f' 10 = Vq o ∧ f' 70 = bp ∧ f' 71 = U ((bq.length : Int))) s') ?_ ?_
   ·refine Qn (J1 (fun k' s' f' w' => (fun (_ : Unit) => ∃ (bn : PHeap) , PHeap.le aH bn ∧ St w0 bn (Res.box n 74 [ak, al, aI, Vb (g.exact)] :: Res.box o 74 [am, an, aJ, Vb (j.exact)] :: Res.arr (Qa .i64) 3 ak g.vars :: Res.arr encmergeshrink_stage 87 al g.stages :: Res.arr (Qa .i64) 3 am j.vars :: Res.arr encmergeshrink_stage 87 an j.stages :: H) w' ∧ f' 8 = Vq n ∧ f' 10 = Vq o ∧ f' 70 = bp ∧ f' 71 = U ((bq.length : Int)) ∧ f' 72 = U (k' : Int)) s') bs ?_ ?_ ?_)
    ·have b6 := b5.drop
     exact ⟨aH, (Zv _), (((((b6.f5).f5).f5).f5).f5).f5, bW, bX, Z, Z, Z⟩
    ·intro bM dm aO cS dD bD bt m bK
     obtain ⟨dk, aw, aT, bb, bc, bd, be, aM⟩ := bt
     refine Zc (Zd (O Z Z (Zq Z aM be (Zb (V (Zc (QL (Zx (decide_eq_true (by omega))) (Qq (V (Zc (Qn (Zc (Zd ?_)))))))))))))
     obtain ⟨dJ, cj, m⟩ := Zg m
     refine O Z Z (Qw S44 Z bd aM (aG.mono aw) cj ?_)
     intro cA cV br
     refine O Z Z (Zw (E := (QE (Qa .i64))) aT A22 Z Z Z br ?_)
     intro aK ck
     have bi := JW.1 ck
     refine O Z Z (Zo (v := aK) Z Z (Zb (V (Zc (Zd (O Z Z (Zm (v := Vq n) Z bb (O Z Z (Zm (v := aK) Z Z ?_)))))))))
     obtain ⟨dL, cl, m⟩ := Zg m
     refine O Z Z (Tc Z Z Z (Zi Z (Zi Z Qj)) (JB cl ((aT.f3).f3).f2 (bg.mono (Zt (Zt (Zt af ag) a8) aw)) bi).r ?_)
     rintro _ dE ⟨dl, a9, b7, rfl⟩
     refine O Z Z (Zm (v := Vq o) Z bc (O Z Z (Zm (v := aK) Z Z ?_)))
     obtain ⟨dM, cm, m⟩ := Zg m
     refine O Z Z (Tc Z Z Z (Zi Z (Zi Z Qj)) (JB cm ((b7.f5).f5).f5 (bh.mono (Zt (Zt (Zt ag a8) aw) a9)) (bi.mono a9)).r ?_)
     rintro _ dF ⟨bo, aW, aU, rfl⟩
     refine O Z Z (Exec.neq Z Z Z (Zb (V ?_)))
     rcases Qg m with ⟨au, m⟩ | ⟨au, m⟩
     ·refine Qs Z au (Zc (Zd (O Z Z (Zo (v := Vb false) Z Z (Zb (V (Q0 (QA (Qh (Qh (QA (Qh (Qh ?_)))))))))))))
      have cJ := Zu m
      subst aO
      have bI := bJ _ (bK (by intro _ h; cases h))
      have cK := Zu bI
      subst r
      refine ⟨_, QZ Z, ?_⟩
      exact ⟨bo, (Zt (Zt (Zt (Zt (Zt (Zt (Zt (Zt a b) p) af) ag) a8) aw) a9) aW), (((((aU.drop).drop).drop).drop).drop).drop, Z⟩
     refine Qt Z au ?_
     replace au := Zk au
     refine Qq (Qy (V (Zd (O Z Z (Exec.add Z aM Z (O Z Z (Zm (v := U (IntKind.i64.wrap ((bM : Int) + 1))) Z Z (Zb (V ?_)))))))))
     have cL := Zu m
     subst aO
     refine ⟨_, Z, ?_⟩; exact ⟨bo, (Zt (Zt aw a9) aW), (((((aU.f2).f2).f5).f5).f4).f5, bb, bc, bd, be, (Eq.trans Z (QB bD (SliceRep.le aG)))⟩
    intro dn cT dG bu bL
    obtain ⟨cy, bR, b8, bY, bZ, ca, bf, c5⟩ := bu
    refine Zc (Zd (O Z Z (Zq Z c5 bf (Zb (V (Zc (Q9 (Zx (decide_eq_false (by omega))) (QH (Qm (Qm (Q6 (V ?_))))))))))))
    refine ⟨_, .inl bL, ?_⟩; exact ⟨cy, bR, (((((b8.f5).f5).f5).f5).f5).f5, bY, bZ, ca, bf⟩
   rintro cU dH ⟨dp, aV, bx⟩
   have hm := aV.elim (bE _) (bC _)
   clear aV
   obtain ⟨cz, bS, b9, cW, cX, cY, cZ⟩ := bx
   refine (V (Zc (Zd (O Z Z (Zo (v := Vb true) Z Z (Zb (V (Q0 ?_))))))))
   have cM := Zu hm
   subst r
   refine ⟨_, QZ Z, ?_⟩
   exact ⟨cz, (Zt (Zt (Zt (Zt (Zt (Zt a b) p) af) ag) a8) bS), (((((b9.drop).drop).drop).drop).drop).drop, Z⟩
  replace hm := Qbv hm
  obtain ⟨dt, az, hm⟩ := Zg hm
  refine O Z Z (Zm (v := Value.tuple #[Vp none, QC 50 (i)]) Z Z (O Z Z (Exec.extract (v := Vp none) Z Z Z (O Z Z (Exec.extract (v := QC 50 (i)) Z Z Z (O Z Z (Zo (v := Vp none) Z Z (O Z Z (Zo (v := QC 50 (i)) Z Z (Zb (V (Zc (Zc (Zd (O Z Z (Zm (v := QC 50 (d)) Z Z (O Z Z (QY (T := 50) Tryz.underlying32 Z Z Z (O Z Z (Zm (v := Vb (d.isSome)) Z Z (Ql Z (Zf Z (Zx (Yx (Q7 ai)))) Z (Zm (v := QC 50 (i)) Z Z (Ql Z (Zf Z (Zx (Yx (Q7 ai)))) Z (QY (T := 50) Tryz.underlying32 Z Z Z (O Z Z (Q8 (v := Vb (i.isSome)) Z (Zx (Yx (Q7 ai))) Z (O Z Z (Zm (v := Vb (i.isSome)) Z Z (Zl Z (Zf Z (Zx (Q7 az))) Z Z (Zl Z (Zf Z (Zx (Q7 az))) Z Z (Zl Z (Zf Z (Zx (Q7 az))) Z Z (Zl Z (Zf Z (Zx (Q7 az))) Z Z (O Z Z (Zs (v := Vb true) Z (Zx (Q7 az)) Z (Qz 6 Z (Zb (V (QL Z (Zc (Zd (O Z Z (Zo (v := Vb false) Z Z (Zb (V (Q0 (Qh ?_))))))))))))))))))))))))))))))))))))))))))))))
  have cN := Zu hm
  subst r
  refine ⟨_, QZ Z, ?_⟩
  exact ⟨cu, (Zt (Zt (Zt a b) p) bP), (((b3.drop).drop).drop).drop, Z⟩
 replace hm := Qbv hm
 obtain ⟨du, aj, hm⟩ := Zg hm
 refine O Z Z (Zm (v := Value.tuple #[Vp none, QC 50 (d)]) Z Z (O Z Z (Exec.extract (v := Vp none) Z Z Z (O Z Z (Exec.extract (v := QC 50 (d)) Z Z Z (O Z Z (Zo (v := Vp none) Z Z (O Z Z (Zo (v := QC 50 (d)) Z Z (Zb (V (Zc (Zd (O Z Z (Qk (ds := [u, x, y, z]) (aR) A26 Z ah Z (O Z Z (Zm (v := ae) Z aF (O Z Z (Zm (v := U aa) Z Z (O Z Z (Zm (v := Value.int .u16 (ax)) Z aY ?_)))))))))))))))))))))
 refine O Z Z (Qcu (by rw [Tryz.underlying48]; rfl) Tryz.underlying3 Z Z ?_)
 refine O Z Z (Exec.add Z Z Z ?_)
 obtain ⟨c4, cn, hm⟩ := Zg hm
 obtain ⟨dc, ao⟩ := c4
 replace hm := Ji hm
 refine O Z Z (Tc Z Z Z (Zi Z (Zi Z (Zi Z Qj))) (JQ cn aR (ac.mono (Zt (Zt a b) ad)) (a2.mono (Zt (Zt a b) ad)) (a3.mono (Zt (Zt a b) ad)) (a4.mono (Zt (Zt a b) ad)) (a5.mono (Zt (Zt a b) ad))).r ?_)
 rintro _ dI bH
 rcases bH with ⟨cB, rfl, c0, dx, aL, dy, dz, bT, bA, rfl, df⟩ | ⟨rfl, c1, bU, bB, rfl⟩
 ·replace hm := Qbu hm
  obtain ⟨dv, dd, hm⟩ := Zg hm
  refine O Z Z (Zm (v := Value.tuple #[Vq aL, QC 50 (ao)]) Z Z (O Z Z (Exec.extract (v := Vq aL) Z Z Z (O Z Z (Exec.extract (v := QC 50 (ao)) Z Z Z (O Z Z (Zo (v := Vq aL) Z Z (O Z Z (Zo (v := QC 50 (ao)) Z Z (Zb (V (Zc (Zc (Zd (O Z Z (Zm (v := QC 50 (d)) Z Z (O Z Z (QY (T := 50) Tryz.underlying32 Z Z Z (O Z Z (Zm (v := Vb (d.isSome)) Z Z (Zl Z (Zf Z (Zx (Q7 aj))) Z Z (Zl Z (Zf Z (Zx (Q7 aj))) Z Z (O Z Z (Zs (v := Vb true) Z (Zx (Q7 aj)) Z (Qz 12 Z (Zb (V (QL Z (Zc (Zd (O Z Z (Zo (v := Vb false) Z Z (Zb (V (Q0 (Qh ?_))))))))))))))))))))))))))))))))))))
  have cO := Zu hm
  subst r
  refine ⟨_, QZ Z, ?_⟩
  exact ⟨c0, (Zt (Zt (Zt a b) ad) bT), (((bA.drop).drop).drop).drop, Z⟩
 replace hm := Qbv hm
 obtain ⟨dw, de, hm⟩ := Zg hm
 refine O Z Z (Zm (v := Value.tuple #[Vp none, QC 50 (ao)]) Z Z (O Z Z (Exec.extract (v := Vp none) Z Z Z (O Z Z (Exec.extract (v := QC 50 (ao)) Z Z Z (O Z Z (Zo (v := Vp none) Z Z (O Z Z (Zo (v := QC 50 (ao)) Z Z (Zb (V (Zc (Zc (Zd (O Z Z (Zm (v := QC 50 (d)) Z Z (O Z Z (QY (T := 50) Tryz.underlying32 Z Z Z (O Z Z (Zm (v := Vb (d.isSome)) Z Z (Zl Z (Zf Z (Zx (Q7 aj))) Z Z (Zl Z (Zf Z (Zx (Q7 aj))) Z Z (O Z Z (Zs (v := Vb true) Z (Zx (Q7 aj)) Z (Qz 12 Z (Zb (V (QL Z (Zc (Zd (O Z Z (Zo (v := Vb false) Z Z (Zb (V (Q0 (Qh ?_))))))))))))))))))))))))))))))))))))
 have cP := Zu hm
 subst r
 refine ⟨_, QZ Z, ?_⟩
 exact ⟨c1, (Zt (Zt (Zt a b) ad) bU), bB.drop, Z⟩
end Go.Pw
