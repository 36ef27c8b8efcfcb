/- -/
import Derived.Test.YtpjojkomdndamaaGreatDoorL27
import Derived.Test.YtpjojkomdndamaaGreatDoorMa9
set_option maxRecDepth 100000
set_option maxHeartbeats 4000000
set_option linter.unusedVariables false
namespace Go.Pw
open Go.Proofs
theorem QaC {w0 w : World} {s : PHeap} {H : List Res} {t1 : Task} {order10 : (List Int)} {most13 : Int} {v2 : Value} {v4 : Value} {v6 : Value} {v8 : Value} {v11 : Value} {r : Bool} (hm : JO t1 order10 most13 = some r) (hS : St w0 s (H) w) (a3 : SliceRep (Qa .i64) s v2 t1.Vars) (a5 : SliceRep (Qa .i64) s v4 t1.Init) (a7 : SliceRep encFact s v6 t1.Goal) (a9 : SliceRep encOp s v8 t1.Ops) (a12 : SliceRep (Qa .i64) s v11 order10) :
  Calls Tryz.prog 4 #[Value.agg #[v2, v4, v6, v8], v11, Value.int .u16 (most13)] w fun e w' => ∃ v, e = .returned v ∧ ((fun (cp : Bool) => ∃ (aD : PHeap) , PHeap.le s aD ∧ St w0 aD (H) w' ∧ v = Value.bool (cp)) r) := by
 unfold JO at hm
 refine Qy Tryz.func4 Z Z (Zc (Zd (O Z Z (Exec.box (cs := [v2, v4, v6, v8]) hS Z Z Z ?_))))
 intro ax cT aS
 refine O Z Z (Zo (v := Vb false) Z Z (Zb (V (Zc (Zc ?_)))))
 obtain ⟨ac, j, hm⟩ := Zg hm
 refine QJ (M := fun f' w' => (fun (ac : Bool) => ∃ (aE : PHeap) , PHeap.le s aE ∧ St w0 aE (Res.box ax 26 [v2, v4, v6, v8] :: H) w' ∧ f' 1 = v11 ∧ f' 2 = Value.int .u16 (most13) ∧ f' 3 = Vp (some ⟨ax, 0, none⟩) ∧ f' 19 = Vb ac) ac) ?_ ?_
 ·refine Zd ?_
  obtain ⟨cq, bQ, j⟩ := Zg j
  refine O Z Z (Exec.call Z Z Tryz.func10 Z N10 Qk ((QcI bQ aS).mono ?_))
  rintro _ cU ⟨_, rfl, ⟨cg, o, ag, rfl⟩⟩
  refine ⟨_, Z, ?_⟩
  refine O Z Z (Exec.not Z Z (O Z Z (Zm (v := Vb (!cq)) Z Z ?_)))
  rcases Qg j with ⟨l, j⟩ | ⟨l, j⟩
  ·refine Q0 4 (by rw [l]; rfl) ?_
   refine Zb (V ?_)
   have cw := Zu j
   subst ac
   exact ⟨cg, o, ag, Z, Z, Z, Z⟩
  replace l := Zk l
  refine Qo Z (Zf Z (Zx l)) Z (Qn (ds := [v2, v4, v6, v8]) (ag) A26 Z Z Z ?_)
  obtain ⟨cr, bR, j⟩ := Zg j
  refine Qo Z (Zf Z (Zx l)) Z (Exec.call Z Z Tryz.func11 Z N11 (Zi Z Qk) ((QgE bR ag (a3.mono o) (a5.mono o) (a7.mono o) (a9.mono o)).mono ?_))
  rintro _ cV ⟨_, rfl, ⟨ch, bA, aT, rfl⟩⟩
  refine ⟨_, Z, ?_⟩
  refine Qo Z (Zf Z (Zx l)) Z (Exec.not Z Z (O Z Z (Q5 (v := Vb (!cr)) Z (Zx l) Z (Zb (V ?_)))))
  have cx := Zu j
  subst ac
  exact ⟨ch, (Zt o bA), aT, Z, Z, Z, Z⟩
 intro c6 cW aP
 obtain ⟨cI, a, ah, bG, bH, ak, aA⟩ := aP
 refine (V ?_)
 rcases Qg hm with ⟨t, hm⟩ | ⟨t, hm⟩
 ·refine Qv aA t (Zc (Zd ?_))
  obtain ⟨ct, bS, hm⟩ := Zg hm
  refine O Z Z (Exec.call Z Z Tryz.func10 Z N10 Qk ((QcI bS ah).mono ?_))
  rintro _ cX ⟨_, rfl, ⟨ci, bB, aU, rfl⟩⟩
  refine ⟨_, Z, ?_⟩
  refine O Z Z (Zo (v := Vb ct) Z Z (Zb (V (Q1 (Qj ?_)))))
  have cy := Zu hm
  subst r
  refine ⟨_, QX Z, ?_⟩
  have aV := aU.drop
  exact ⟨ci, (Zt a bB), aV, Z⟩
 refine Qw aA t ?_
 replace t := Zk t
 refine Qp (V (Zc (Zd (O Z Z (Qn (ds := [v2, v4, v6, v8]) (ah) A26 Z ak Z (O Z Z (Zm (v := v11) Z bG (O Z Z (Zm (v := Value.int .u16 (most13)) Z bH ?_)))))))))
 refine O Z Z (QeV (by rw [Tryz.underlying48]; rfl) Tryz.underlying3 Z Z ?_)
 obtain ⟨cm, bT, hm⟩ := Zg hm
 obtain ⟨cH, d⟩ := cm
 replace hm := Jf hm
 refine O Z Z (Exec.call Z Z Tryz.func13 Z N13 (Zi Z (Zi Z (Zi Z Qk))) ((KF bT ah (a3.mono a) (a5.mono a) (a7.mono a) (a9.mono a) (a12.mono a)).mono ?_))
 rintro _ cY ⟨_, rfl, b5⟩
 refine ⟨_, Z, ?_⟩
 rcases b5 with ⟨i, rfl, cJ, au, g, p, q, n, a0, rfl, cd⟩ | ⟨rfl, cK, bC, aW, rfl⟩
 ·replace hm := Qdq hm
  obtain ⟨cQ, bU, hm⟩ := Zg hm
  refine O Z Z (Zm (v := Value.tuple #[Vp (some ⟨g, 0, none⟩), QG 50 (d)]) Z Z (O Z Z (Exec.extract (v := Vp (some ⟨g, 0, none⟩)) Z Z Z (O Z Z (Exec.extract (v := QG 50 (d)) Z Z Z (O Z Z (Zo (v := Vp (some ⟨g, 0, none⟩)) Z Z (O Z Z (Zo (v := QG 50 (d)) Z Z (Zb (V (Zc (Zc (Zd (O Z Z (Zm (v := QG 50 (d)) Z Z (O Z Z (Je (T := 50) Tryz.underlying32 Z Z Z (Zb (V (QA (Zx (QlD (QT bU))) (Qp (V (Zc (Zd (O Z Z (Qn (ds := [v2, v4, v6, v8]) (a0.f3) A26 Z ak Z ?_)))))))))))))))))))))))))))
  obtain ⟨di, bV, hm⟩ := Zg hm
  refine O Z Z (Exec.call Z Z Tryz.func21 Z N21 (Zi Z (Zi Z Qk)) ((QcF bV a0 (a3.mono (Zt a n)) (a5.mono (Zt a n)) (a7.mono (Zt a n)) (a9.mono (Zt a n))).mono ?_))
  rintro _ cZ ⟨z, rfl, ⟨cL, _, ae, a1, rfl, ce⟩⟩
  refine ⟨_, Z, ?_⟩
  refine O Z Z (Zo (v := z) Z Z (Zb (V (Zc (Zc (Zd (O Z Z (Zp Yk Z ak Z (O Z Z (Zn (a1.f3) A22 Z Z Z ?_))))))))))
  obtain ⟨aw, bW, hm⟩ := Zg hm
  refine O Z Z (Exec.call Z Z Tryz.func18 Z N18 (Zi Z Qk) ((Qbl bW a1 (a3.mono (Zt (Zt a n) ae))).mono ?_))
  rintro _ da ⟨av, rfl, ⟨aq, _, af, aX, rfl, ap⟩⟩
  refine ⟨_, Z, ?_⟩
  refine O Z Z (Zr S44 Z Z ap (O Z Z (Zm (v := U 0) Z Z (Zb (V ?_)))))
  obtain ⟨ay, aM, b7, b4, b2⟩ := QO hm
  refine QJ (M := fun f' w' => ∃ s', (ay = .next s' ∨ ay = .brk s') ∧ (fun (_ : Unit) => ∃ (aF : PHeap) , PHeap.le aq aF ∧ St w0 aF (Res.box g 74 [p, q, au, Vb (i.exact)] :: Res.arr (Qa .i64) 3 p i.vars :: Res.arr encmergeshrink_stage 87 q i.stages :: H) w' ∧ f' 7 = Vp (some ⟨g, 0, none⟩) ∧ f' 9 = z ∧ f' 37 = av ∧ f' 38 = U ((aw.length : Int))) s') ?_ ?_
  ·refine Qm (J4 (fun k' s' f' w' => (fun (_ : Unit) => ∃ (aG : PHeap) , PHeap.le aq aG ∧ St w0 aG (Res.box g 74 [p, q, au, Vb (i.exact)] :: Res.arr (Qa .i64) 3 p i.vars :: Res.arr encmergeshrink_stage 87 q i.stages :: H) w' ∧ f' 7 = Vp (some ⟨g, 0, none⟩) ∧ f' 9 = z ∧ f' 37 = av ∧ f' 38 = U ((aw.length : Int)) ∧ f' 39 = U (k' : Int)) s') aM ?_ ?_ ?_)
   ·have aY := (aX.f3).drop
    have aZ := aY.f2
    have ba := aZ.f2
    have bb := ba.f2
    exact ⟨aq, (Zv _), bb, Z, Z, Z, Z, Z⟩
   ·intro x cN az c7 db b3 aN c b8
    obtain ⟨cM, y, a2, al, am, an, ao, aa⟩ := aN
    refine Zc (Zd (O Z Z (Zq Z aa ao (Zb (V (Zc (QK (Zx (decide_eq_true (by omega))) (Qp (V (Zc (Qm (Zc (Zd (O Z Z (Zm (v := U ((x : Int))) Z aa ?_)))))))))))))))
    obtain ⟨dh, bX, c⟩ := Zg c
    refine O Z Z (Qu S44 Z an aa (ap.mono y) bX ?_)
    intro cu cB aK
    refine O Z Z (Zw (E := (QE (Qa .i64))) a2 A22 Z Z Z aK ?_)
    intro aJ bY
    have cf := Jw.1 bY
    refine O Z Z (Zo (v := U ((x : Int))) Z Z (O Z Z (Zo (v := aJ) Z Z (Zb (V (Zc (Zd (O Z Z (Zm (v := Vp (some ⟨g, 0, none⟩)) Z al (O Z Z (Zm (v := aJ) Z Z ?_)))))))))))
    obtain ⟨ab, bZ, c⟩ := Zg c
    have bc := a2.f2
    have bd := bc.f2
    have be := bd.f2
    refine O Z Z (Exec.call Z Z Tryz.func19 Z N19 (Zi Z (Zi Z Qk)) ((Kb bZ be (cd.mono (Zt (Zt ae af) y)) cf).mono ?_))
    rintro _ dc ⟨_, rfl, ⟨ar, aj, ai, rfl⟩⟩
    refine ⟨_, Z, ?_⟩
    refine O Z Z (Zo (v := U ab) Z Z (Zb (V (Zc ?_))))
    obtain ⟨ad, m, c⟩ := Zg c
    refine QJ (M := fun f' w' => (fun (ad : Bool) => ∃ (aH : PHeap) , PHeap.le ar aH ∧ St w0 aH (Res.box g 74 [p, q, au, Vb (i.exact)] :: Res.arr (Qa .i64) 3 p i.vars :: Res.arr encmergeshrink_stage 87 q i.stages :: H) w' ∧ f' 7 = Vp (some ⟨g, 0, none⟩) ∧ f' 9 = z ∧ f' 37 = av ∧ f' 38 = U ((aw.length : Int)) ∧ f' 39 = U ((x : Int)) ∧ f' 56 = Vb ad) ad) ?_ ?_
    ·refine Zd (O Z Z (Zm (v := U ab) Z Z (O Z Z (Zq Z Z Z (O Z Z (Zm (v := Vb (decide (ab < 0))) Z Z ?_))))))
     rcases Qg m with ⟨b, m⟩ | ⟨b, m⟩
     ·refine Q0 7 (by rw [b]; rfl) ?_
      refine Zb (V ?_)
      have cz := Zu m
      subst ad
      have bf := ai.f2
      have bg := bf.f2
      have bh := bg.f2
      exact ⟨ar, (Zv _), bh, al, am, an, ao, aa, Z⟩
     replace b := Zk b
     refine Qo Z (Zf Z (Zx b)) Z (Zm (v := U ab) Z Z (Qo Z (Zf Z (Zx b)) Z (Zm (v := z) Z am (Qo Z (Zf Z (Zx b)) Z (Zm (v := U ((x : Int))) Z Z ?_)))))
     obtain ⟨cn, ca, m⟩ := Zg m
     refine Qo Z (Zf Z (Zx b)) Z (Qu Jt Z Z Z (ce.mono (Zt (Zt af y) aj)) ca ?_)
     intro cv cC aL
     refine Qo Z (Zf Z (Zx b)) Z (Zw (E := (Qa .i64)) ai A3 Z Z Z aL ?_)
     intro cS cb
     obtain rfl := Qs.1 cb
     refine Qo Z (Zf Z (Zx b)) Z (Exec.gtr Z Z Z (O Z Z (Q5 (v := Vb (decide (cn < ab))) Z (Zx b) Z (Zb (V ?_)))))
     have c0 := Zu m
     subst ad
     have bi := ai.f2
     have bj := bi.f2
     have bk := bj.f2
     exact ⟨ar, (Zv _), bk, al, am, an, ao, aa, Z⟩
    intro c8 dd aQ
    obtain ⟨aI, a8, a4, bI, bJ, bK, bL, bM, aB⟩ := aQ
    refine (V ?_)
    rcases Qg c with ⟨u, c⟩ | ⟨u, c⟩
    ·refine Qv aB u (Zc (Zd (O Z Z (Zo (v := Vb false) Z Z (Zb (V (Q1 (QD (Qj (Qj (QD (Qj (Qj ?_)))))))))))))
     have c1 := Zu c
     subst az
     have b6 := b7 _ (b8 (by intro _ h; cases h))
     have c2 := Zu b6
     subst r
     refine ⟨_, QX Z, ?_⟩
     have bl := a4.drop
     have bm := bl.drop
     have bn := bm.drop
     exact ⟨aI, (Zt (Zt (Zt (Zt (Zt (Zt a n) ae) af) y) aj) a8), bn, Z⟩
    refine Qw aB u ?_
    replace u := Zk u
    refine Qp (Qz (V (Zd (O Z Z (Exec.add Z bM Z (O Z Z (Zm (v := U (IntKind.i64.wrap ((x : Int) + 1))) Z Z (Zb (V ?_)))))))))
    have c3 := Zu c
    subst az
    have bo := a4.f2
    have bp := bo.f2
    have bq := bp.f2
    refine ⟨_, Z, ?_⟩; exact ⟨aI, (Zt (Zt y aj) a8), bq, bI, bJ, bK, bL, (Eq.trans Z (QB b3 (SliceRep.le ap)))⟩
   intro cO c9 de aO b9
   obtain ⟨cj, bD, br, bN, bO, bP, aC, co⟩ := aO
   refine Zc (Zd (O Z Z (Zq Z co aC (Zb (V (Zc (QA (Zx (decide_eq_false (by omega))) (QF (Ql (Ql (Q7 (V ?_))))))))))))
   have bs := br.f2
   have bt := bs.f2
   have bu := bt.f2
   refine ⟨_, .inl b9, ?_⟩; exact ⟨cj, bD, bu, bN, bO, bP, aC⟩
  rintro cA df ⟨cP, a6, aR⟩
  have hm := a6.elim (b4 _) (b2 _)
  clear a6
  obtain ⟨ck, bE, bv, cD, cE, cF, cG⟩ := aR
  refine (V (Zc (Zd (O Z Z (Zo (v := Vb true) Z Z (Zb (V (Q1 ?_))))))))
  have c4 := Zu hm
  subst r
  refine ⟨_, QX Z, ?_⟩
  have bw := bv.drop
  have bx := bw.drop
  have bz := bx.drop
  exact ⟨ck, (Zt (Zt (Zt (Zt a n) ae) af) bE), bz, Z⟩
 replace hm := Qdr hm
 obtain ⟨cR, cc, hm⟩ := Zg hm
 refine O Z Z (Zm (v := Value.tuple #[Vp none, QG 50 (d)]) Z Z (O Z Z (Exec.extract (v := Vp none) Z Z Z (O Z Z (Exec.extract (v := QG 50 (d)) Z Z Z (O Z Z (Zo (v := Vp none) Z Z (O Z Z (Zo (v := QG 50 (d)) Z Z (Zb (V (Zc (Zc (Zd (O Z Z (Zm (v := QG 50 (d)) Z Z (O Z Z (Je (T := 50) Tryz.underlying32 Z Z Z (Zb (V (QK (Zx (QT cc)) (Zc (Zd (O Z Z (Zm (v := QG 50 (d)) Z Z (O Z Z (Exec.call Z Z Tryz.func20 Z N20 (Zi Z (Zi Z Qk)) ((QiO (Qfi d 2) aW).mono ?_))))))))))))))))))))))))))))
 rintro _ dg ⟨_, rfl, ⟨cl, bF, b0, rfl⟩⟩
 refine ⟨_, Z, ?_⟩
 refine O Z Z (Zo (v := Vb ((Qb1 d 2))) Z Z (Zb (V (Q1 (Qj ?_)))))
 have c5 := Zu hm
 subst r
 refine ⟨_, QX Z, ?_⟩
 have b1 := b0.drop
 exact ⟨cl, (Zt (Zt a bC) bF), b1, Z⟩
end Go.Pw
