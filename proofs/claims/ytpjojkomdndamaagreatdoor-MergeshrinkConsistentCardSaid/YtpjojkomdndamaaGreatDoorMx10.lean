/- -/
import Derived.Test.YtpjojkomdndamaaGreatDoorLC
import Derived.Test.YtpjojkomdndamaaGreatDoorMx9
set_option maxRecDepth 100000
set_option maxHeartbeats 4000000
set_option linter.unusedVariables false
namespace Go.Pw
open Go.Proofs
theorem Qgx {w0 w : World} {s : PHeap} {H : List Res} {n : Task} {o : Value} {p : Value} {q : Value} {t : Value} {r : (List base_Edge)} (hm : YC n = some r) (hS : St w0 s (H) w) (ai : SliceRep (Qa .i64) s o n.Vars) (aF : SliceRep (Qa .i64) s p n.Init) (aG : SliceRep encFact s q n.Goal) (aj : SliceRep encOp s t n.Ops) :
  Calls Tryz.prog 23 #[Value.agg #[o, p, q, t]] w fun e w' => ∃ v, e = .returned v ∧ ((fun (bH : (List base_Edge)) => ∃ (au : PHeap) (aD : Value), PHeap.le s au ∧ St w0 au (H) w' ∧ v = aD ∧ SliceRep encbase_Edge au aD bH) r) := by
 unfold YC at hm
 refine Qx Tryz.func23 Z Z (Zc (Zd (O Z Z (Exec.box (cs := [o, p, q, t]) hS Z Z Z ?_))))
 intro x cc ax
 refine O Z Z (Zo (v := Vn) Z Z (Zb (V (Zc (Zd (O Z Z (Zo (v := Vn) Z Z (Zb (V (Zc (Zc (Zd (O Z Z (Zp Yu Z Z Z (O Z Z (Zn (ax) A22 Z Z Z ?_))))))))))))))))
 obtain ⟨aw, bz, hm⟩ := Zg hm
 refine O Z Z (Tc Z Z Z (Zi Z Qj) (QcG bz ax ai).r ?_)
 rintro av cd ⟨a7, _, h, aP, rfl, ar⟩
 refine O Z Z (Zr S44 Z Z ar (O Z Z (Zm (v := U 0) Z Z (Zb (V ?_)))))
 obtain ⟨an, aI, hm⟩ := Zg hm
 refine Ql (JB (fun k' s' f' w' => (fun (an : (List base_Edge)) => ∃ (a8 : PHeap) (i : Value), PHeap.le a7 a8 ∧ St w0 a8 (Res.box x 26 [o, p, q, t] :: Res.arr encbase_Edge 57 i an :: H) w' ∧ f' 1 = Vq x ∧ f' 3 = i ∧ f' 11 = av ∧ f' 12 = U ((aw.length : Int)) ∧ f' 13 = U (k' : Int)) s') aI ?_ ?_ ?_)
 ·have aQ := aP.nilArr encbase_Edge 57
  exact ⟨a7, Vn, (Zv _), aQ.f1, Z, Z, Z, Z, Z⟩
 ·intro a an b8 bP ce aZ aK z
  obtain ⟨a9, i, g, ak, a0, bg, a1, a2, af⟩ := aK
  refine Zc (Zd (O Z Z (Zq Z af a2 (Zb (V (Zc (QL (Zx (decide_eq_true (by omega))) (Qp (V (Zc (Ql (Zc (Zd (O Z Z (Zm (v := U ((a : Int))) Z af ?_)))))))))))))))
  obtain ⟨cn, b0, z⟩ := Zg z
  refine O Z Z (Qv S44 Z a1 af (ar.mono g) b0 ?_)
  intro bI bV aH
  refine O Z Z (Zw (E := (QD (Qa .i64))) ak A22 Z Z Z aH ?_)
  intro ac b1
  have b5 := J7.1 b1
  refine O Z Z (Zo (v := U ((a : Int))) Z Z (O Z Z (Zo (v := ac) Z Z (Zb (V (Zc (Zd (O Z Z (Zp Qab Z a0 Z (O Z Z (Zn (ak) A24 Z Z Z (O Z Z (Zr S24 Z Z (aj.mono (Zt h g)) (O Z Z (Zm (v := U 0) Z Z (Zb (V ?_)))))))))))))))))
  obtain ⟨am, aJ, z⟩ := Zg z
  refine Ql (JB (fun k' s' f' w' => (fun (am : (List base_Edge)) => ∃ (aA : PHeap) (u : Value), PHeap.le a9 aA ∧ St w0 aA (Res.box x 26 [o, p, q, t] :: Res.arr encbase_Edge 57 u am :: H) w' ∧ f' 1 = Vq x ∧ f' 3 = u ∧ f' 4 = U ((a : Int)) ∧ f' 5 = ac ∧ f' 11 = av ∧ f' 12 = U ((aw.length : Int)) ∧ f' 13 = U ((a : Int)) ∧ f' 20 = U ((n.Ops.length : Int)) ∧ f' 21 = U (k' : Int)) s') aJ ?_ ?_ ?_)
  ·have aR := ak.f1
   exact ⟨a9, i, (Zv _), aR.f1, a0, bg, Z, Z, a1, a2, af, Z, Z⟩
  ·intro b am b9 bQ cf ba aL l
   obtain ⟨ca, u, m, ay, ab, a3, ao, ap, a4, a5, a6, aq, ag⟩ := aL
   refine Zc (Zd (O Z Z (Zq Z ag aq (Zb (V (Zc (QL (Zx (decide_eq_true (by omega))) (Qp (V (Zc (Ql (Zc (Zd (O Z Z (Zm (v := U ((b : Int))) Z ag (O Z Z (Zo (v := U ((b : Int))) Z Z (Zb (V (Zc (Zd (O Z Z (Qm (ds := [o, p, q, t]) (ay) A26 Z ab Z (O Z Z (Zm (v := ac) Z ap (O Z Z (Zm (v := U ((b : Int))) Z Z ?_)))))))))))))))))))))))))))
   obtain ⟨bE, b2, l⟩ := Zg l
   obtain ⟨co, ah⟩ := bE
   replace l := Jh l
   refine O Z Z (Tc Z Z Z (Zi Z (Zi Z (Zi Z Qj))) (Qgy b2 ay (ai.mono (Zt (Zt h g) m)) (aF.mono (Zt (Zt h g) m)) (aG.mono (Zt (Zt h g) m)) (aj.mono (Zt (Zt h g) m)) (b5.mono m)).r ?_)
   rintro _ cg ⟨aB, ad, az, al, rfl, b6⟩
   refine O Z Z (Zm (v := Value.tuple #[ad, Vb ah]) Z Z (O Z Z (Exec.extract (v := ad) Z Z Z (O Z Z (Exec.extract (v := Vb ah) Z Z Z (O Z Z (Zo (v := ad) Z Z (O Z Z (Zo (v := Vb ah) Z Z (Zb (V (Zc (Zd (O Z Z (Zm (v := Vb ah) Z Z (Zb (V ?_)))))))))))))))))
   obtain ⟨aa, d, l⟩ := Zg l
   refine QJ (M := fun f' w' => (fun (aa : (List base_Edge)) => ∃ (aC : PHeap) (ae : Value), PHeap.le aB aC ∧ St w0 aC (Res.box x 26 [o, p, q, t] :: Res.arr encbase_Edge 57 ae aa :: H) w' ∧ f' 1 = Vq x ∧ f' 3 = ae ∧ f' 4 = U ((a : Int)) ∧ f' 5 = ac ∧ f' 11 = av ∧ f' 12 = U ((aw.length : Int)) ∧ f' 13 = U ((a : Int)) ∧ f' 20 = U ((n.Ops.length : Int)) ∧ f' 21 = U ((b : Int))) aa) ?_ ?_
   ·rcases Qg d with ⟨y, d⟩ | ⟨y, d⟩
    ·refine Qt Z y (Zd (O Z Z (Zm (v := u) Z a3 (O Z Z (Zm (v := U ((a : Int))) Z ao (O Z Z (Zm (v := U ((b : Int))) Z Z (O Z Z (Zp Yu Z ab Z (O Z Z (Zn (al) A22 Z Z Z (O Z Z (Zm (v := ad) Z Z ?_)))))))))))))
     obtain ⟨j, b3, d⟩ := Zg d
     refine O Z Z (Tc Z Z Z (Zi Z (Zi Z Qj)) (QgJ b3 al (ai.mono (Zt (Zt (Zt h g) m) az)) b6).r ?_)
     rintro _ ch ⟨bA, bb, aS, rfl⟩
     refine O Z Z (Exec.build Z (Qb (c := [U ((a : Int))]) (Qh Z Z) (Qb (c := [U ((b : Int))]) (Qh Z Z) (Qb (c := [U j]) (Qh Z Z) Qw))) (v := Value.agg #[U ((a : Int)), U ((b : Int)), U j]) (fun _ => by kernel_rfl) (O Z Z (Exec.buildSlice (Te := 57) (cs := [U ((a : Int)), U ((b : Int)), U j]) aS Z (Qb (c := [U ((a : Int)), U ((b : Int)), U j]) (Qh Z Z) Qw) (fun _ => by kernel_rfl) ?_)))
     intro bJ ci aT
     obtain ⟨bU, b4, d⟩ := Zg d
     refine O Z Z (QO (E := encbase_Edge) (ys := [(⟨(a : Int), (b : Int), j⟩ : base_Edge)]) aT.f2 S54 Z57 Z (by decide) Z Z Z Z ⟨[U ((a : Int)), U ((b : Int)), U j], [], Z, ⟨[U ((a : Int))], [U ((b : Int)), U j], Z, Z, ⟨[U ((b : Int))], [U j], Z, Z, Z⟩⟩, Z⟩ Z b4 ?_)
     intro aE cj aU
     refine O Z Z (Zo (v := aE) Z Z (Zb (V ?_)))
     have bK := Zu d
     subst aa
     exact ⟨bA, aE, bb, aU.f1, ab, Z, ao, ap, a4, a5, a6, aq, ag⟩
    refine Qu Z y ?_
    replace y := Zk y
    refine Qp (V ?_)
    have bL := Zu d
    subst aa
    exact ⟨aB, u, (Zv _), (al.f1).f1, ab, a3, ao, ap, a4, a5, a6, aq, ag⟩
   intro bR ck aO
   obtain ⟨bB, ae, bc, aV, bh, bi, bj, bk, bl, bm, bn, bo, bp⟩ := aO
   refine (Qy (V (Zd (O Z Z (Exec.add Z bp Z (O Z Z (Zm (v := U (IntKind.i64.wrap ((b : Int) + 1))) Z Z (Zb (V ?_)))))))))
   have bM := Zu l
   subst b9
   exact ⟨bB, ae, (Zt (Zt m az) bc), (aV.f1).f1, bh, bi, bj, bk, bl, bm, bn, bo, (Eq.trans Z (QA ba (SliceRep.le (aj.mono (Zt h g)))))⟩
  intro bS cl aM
  obtain ⟨bC, u, bd, aW, bq, br, bW, bX, bs, bt, bu, bv, bF⟩ := aM
  refine Zc (Zd (O Z Z (Zq Z bF bv (Zb (V (Zc (Q8 (Zx (decide_eq_false (by omega))) (QF (Qk (Qk (Q5 (Qy (V (Zd (O Z Z (Exec.add Z bu Z (O Z Z (Zm (v := U (IntKind.i64.wrap ((a : Int) + 1))) Z Z (Zb (V ?_))))))))))))))))))))
  have bN := Zu z
  subst b8
  exact ⟨bC, u, (Zt g bd), (aW.f1).f1, bq, br, bs, bt, (Eq.trans Z (QA aZ (SliceRep.le ar)))⟩
 intro bT cm aN
 obtain ⟨cb, i, be, aX, bY, bw, bZ, bx, bG⟩ := aN
 refine Zc (Zd (O Z Z (Zq Z bG bx (Zb (V (Zc (Q8 (Zx (decide_eq_false (by omega))) (QF (Qk (Qk (Q5 (V (Zc (Zd (O Z Z (Zm (v := i) Z bw (O Z Z (Zo (v := i) Z Z (Zb (V (Q0 ?_)))))))))))))))))))))
 have bO := Zu hm
 subst r
 refine ⟨_, QW Z, ?_⟩
 obtain ⟨bD, bf, aY, b7⟩ := aX.f1.freezeArr
 exact ⟨bD, i, (Zt (Zt h be) bf), aY.drop, Z, b7⟩
theorem A57 : JI Tryz.prog 57 = some (true, 3) := by kernel_rfl
theorem Qna : Jj Tryz.prog 57 2 = some 2 := by kernel_rfl
theorem QnQ : Jj Tryz.prog 57 0 = some 0 := by kernel_rfl
theorem QnP : Jj Tryz.prog 57 1 = some 1 := by kernel_rfl
theorem QaA {w0 w : World} {s : PHeap} {H : List Res} {ar : Task} {bs : (List Int)} {a3 : Int} {j : Value} {l : Value} {m : Value} {n : Value} {a5 : Value} {r : Bool} (hm : JN ar bs a3 = some r) (hS : St w0 s (H) w) (ay : SliceRep (Qa .i64) s j ar.Vars) (a9 : SliceRep (Qa .i64) s l ar.Init) (az : SliceRep encFact s m ar.Goal) (a0 : SliceRep encOp s n ar.Ops) (bF : SliceRep (Qa .i64) s a5 bs) :
  Calls Tryz.prog 5 #[Value.agg #[j, l, m, n], a5, Value.int .u16 (a3)] w fun e w' => ∃ v, e = .returned v ∧ ((fun (d3 : Bool) => ∃ (b2 : PHeap) , PHeap.le s b2 ∧ St w0 b2 (H) w' ∧ v = Value.bool (d3)) r) := by
 unfold JN at hm
 refine Qx Tryz.func5 Z Z (Zc (Zd (O Z Z (Exec.box (cs := [j, l, m, n]) hS Z Z Z ?_))))
 intro d eB bU
 refine O Z Z (Zo (v := Vb false) Z Z (Zb (V (Zc (Zc ?_)))))
 obtain ⟨av, aa, hm⟩ := Zg hm
 refine QJ (M := fun f' w' => (fun (av : Bool) => ∃ (b3 : PHeap) , PHeap.le s b3 ∧ St w0 b3 (Res.box d 26 [j, l, m, n] :: H) w' ∧ f' 1 = a5 ∧ f' 2 = Value.int .u16 (a3) ∧ f' 3 = Vq d ∧ f' 21 = Vb av) av) ?_ ?_
 ·refine Zd ?_
  obtain ⟨d4, cT, aa⟩ := Zg aa
  refine O Z Z (Tc Z Z Z Qj (QcF cT bU).r ?_)
  rintro _ eC ⟨dp, ai, aA, rfl⟩
  refine O Z Z (Exec.not Z Z (O Z Z (Zm (v := Vb (!d4)) Z Z ?_)))
  rcases Qg aa with ⟨ac, aa⟩ | ⟨ac, aa⟩
  ·refine Qz 4 (by rw [ac]; rfl) ?_
   refine Zb (V ?_)
   have dG := Zu aa
   subst av
   exact ⟨dp, ai, aA, Z, Z, Z, Z⟩
  replace ac := Zk ac
  refine Qo Z (Zf Z (Zx ac)) Z (Qm (ds := [j, l, m, n]) (aA) A26 Z Z Z ?_)
  obtain ⟨d5, cU, aa⟩ := Zg aa
  refine Qo Z (Zf Z (Zx ac)) Z (Tc Z Z Z (Zi Z Qj) (QgI cU aA (ay.mono ai) (a9.mono ai) (az.mono ai) (a0.mono ai)).r ?_)
  rintro _ eD ⟨dq, c0, bV, rfl⟩
  refine Qo Z (Zf Z (Zx ac)) Z (Exec.not Z Z (O Z Z (Q9 (v := Vb (!d5)) Z (Zx ac) Z (Zb (V ?_)))))
  have dH := Zu aa
  subst av
  exact ⟨dq, (Zt ai c0), bV, Z, Z, Z, Z⟩
 intro dW eE bP
 obtain ⟨ew, b, aB, c7, c8, aD, bt⟩ := bP
 refine (V ?_)
 rcases Qg hm with ⟨am, hm⟩ | ⟨am, hm⟩
 ·refine Qt bt am (Zc (Zd ?_))
  obtain ⟨d6, cV, hm⟩ := Zg hm
  refine O Z Z (Tc Z Z Z Qj (QcF cV aB).r ?_)
  rintro _ eF ⟨dr, c1, bW, rfl⟩
  refine O Z Z (Zo (v := Vb d6) Z Z (Zb (V (Q0 (Qi ?_)))))
  have dI := Zu hm
  subst r
  refine ⟨_, QW Z, ?_⟩
  exact ⟨dr, (Zt b c1), bW.drop, Z⟩
 refine Qu bt am ?_
 replace am := Zk am
 refine Qp (V (Zc (Zd (O Z Z (Qm (ds := [j, l, m, n]) (aB) A26 Z aD Z (O Z Z (Zm (v := a5) Z c7 (O Z Z (Zm (v := Value.int .u16 (a3)) Z c8 ?_)))))))))
 refine O Z Z (QeU (by rw [Tryz.underlying48]; rfl) Tryz.underlying3 Z Z ?_)
 obtain ⟨dy, cW, hm⟩ := Zg hm
 obtain ⟨ev, q⟩ := dy
 replace hm := Jh hm
 refine O Z Z (Tc Z Z Z (Zi Z (Zi Z (Zi Z Qj))) (KC cW aB (ay.mono b) (a9.mono b) (az.mono b) (a0.mono b) (bF.mono b)).r ?_)
 rintro _ eG cq
 rcases cq with ⟨y, rfl, ex, aQ, x, aj, ak, t, bd, rfl, dn⟩ | ⟨rfl, ey, c2, bX, rfl⟩
 ·replace hm := Qdp hm
  obtain ⟨e4, cX, hm⟩ := Zg hm
  refine O Z Z (Zm (v := Value.tuple #[Vq x, QE 50 (q)]) Z Z (O Z Z (Exec.extract (v := Vq x) Z Z Z (O Z Z (Exec.extract (v := QE 50 (q)) Z Z Z (O Z Z (Zo (v := Vq x) Z Z (O Z Z (Zo (v := QE 50 (q)) Z Z (Zb (V (Zc (Zc (Zd (O Z Z (Zm (v := QE 50 (q)) Z Z (O Z Z (Jd (T := 50) Tryz.underlying32 Z Z Z (Zb (V (Q8 (Zx (QlC (QR cX))) (Qp (V (Zc (Zd (O Z Z (Zo (v := Vn) Z Z (Zb (V (Zc (Zc (Zd (O Z Z (Zp Yu Z aD Z (O Z Z (Zn (bd.f3) A22 Z Z Z ?_))))))))))))))))))))))))))))))))))))
  obtain ⟨aU, cY, hm⟩ := Zg hm
  refine O Z Z (Tc Z Z Z (Zi Z Qj) (QcG cY bd (ay.mono (Zt b t))).r ?_)
  rintro aR eH ⟨aN, _, u, bY, rfl, aL⟩
  refine O Z Z (Zr S44 Z Z aL (O Z Z (Zm (v := U 0) Z Z (Zb (V ?_)))))
  obtain ⟨aW, bJ, cu, co, ck⟩ := QN hm
  refine QJ (M := fun f' w' => ∃ s', (aW = .next s' ∨ aW = .brk s') ∧ (fun (au : (List Int)) => ∃ (b4 : PHeap) (o : Value), PHeap.le aN b4 ∧ St w0 b4 (Res.box d 26 [j, l, m, n] :: Res.box x 74 [aj, ak, aQ, Vb (y.exact)] :: Res.arr (Qa .i64) 3 o au :: Res.arr (Qa .i64) 3 aj y.vars :: Res.arr encmergeshrink_stage 87 ak y.stages :: H) w' ∧ f' 3 = Vq d ∧ f' 7 = Vq x ∧ f' 9 = o ∧ f' 37 = aR ∧ f' 38 = U ((aU.length : Int))) s') ?_ ?_
  ·refine Ql (Jv (fun k' s' f' w' => (fun (a6 : (List Int)) => ∃ (b5 : PHeap) (ae : Value), PHeap.le aN b5 ∧ St w0 b5 (Res.box d 26 [j, l, m, n] :: Res.box x 74 [aj, ak, aQ, Vb (y.exact)] :: Res.arr (Qa .i64) 3 ae a6 :: Res.arr (Qa .i64) 3 aj y.vars :: Res.arr encmergeshrink_stage 87 ak y.stages :: H) w' ∧ f' 3 = Vq d ∧ f' 7 = Vq x ∧ f' 9 = ae ∧ f' 37 = aR ∧ f' 38 = U ((aU.length : Int)) ∧ f' 39 = U (k' : Int)) s') bJ ?_ ?_ ?_)
   ·have bZ := bY.nilArr (Qa .i64) 3
    exact ⟨aN, Vn, (Zv _), ((((bZ.f3).f3).f2).f3).f4, aD, Z, Z, Z, Z, Z⟩
   ·intro bn a6 aX dX eI cm bL i cw
    obtain ⟨ez, ae, ap, be, aE, aF, bu, aG, aH, a7⟩ := bL
    refine Zc (Zd (O Z Z (Zq Z a7 aH (Zb (V (Zc (QL (Zx (decide_eq_true (by omega))) (Qp (V (Zc (Ql (Zc (Zd ?_)))))))))))))
    obtain ⟨eY, cZ, i⟩ := Zg i
    refine O Z Z (Qv S44 Z aG a7 (aL.mono ap) cZ ?_)
    intro d8 ej bG
    refine O Z Z (Zw (E := (QD (Qa .i64))) be A22 Z Z Z bG ?_)
    intro aS da
    have b1 := J7.1 da
    refine O Z Z (Zo (v := aS) Z Z (Zb (V (Zc (Zd (O Z Z (Zm (v := Vq x) Z aF (O Z Z (Zm (v := aS) Z Z ?_)))))))))
    obtain ⟨ab, db, i⟩ := Zg i
    refine O Z Z (Tc Z Z Z (Zi Z (Zi Z Qj)) (JZ db ((be.f4).f4).f3 (dn.mono (Zt u ap)) b1).r ?_)
    rintro _ eJ ⟨dt, a1, bf, rfl⟩
    refine O Z Z (Zo (v := U ab) Z Z (Zb (V (Zc (Zc ?_)))))
    obtain ⟨aw, ag, i⟩ := Zg i
    refine QJ (M := fun f' w' => (fun (aw : Bool) => ∃ (b6 : PHeap) , PHeap.le dt b6 ∧ St w0 b6 (Res.box d 26 [j, l, m, n] :: Res.box x 74 [aj, ak, aQ, Vb (y.exact)] :: Res.arr (Qa .i64) 3 ae a6 :: Res.arr (Qa .i64) 3 aj y.vars :: Res.arr encmergeshrink_stage 87 ak y.stages :: H) w' ∧ f' 3 = Vq d ∧ f' 7 = Vq x ∧ f' 9 = ae ∧ f' 12 = U ab ∧ f' 37 = aR ∧ f' 38 = U ((aU.length : Int)) ∧ f' 39 = U ((bn : Int)) ∧ f' 53 = Vb aw) aw) ?_ ?_
    ·refine Zd (O Z Z (Zp QjI Z aE Z (O Z Z (Zn (bf.f3) A23 Z Z Z (O Z Z (Zm (v := aS) Z Z ?_))))))
     obtain ⟨d7, dc, ag⟩ := Zg ag
     refine O Z Z (Tc Z Z Z (Zi Z (Zi Z Qj)) (QbE dc bf (az.mono (Zt (Zt (Zt (Zt b t) u) ap) a1)) (b1.mono a1)).r ?_)
     rintro _ eK ⟨b7, bp, bg, rfl⟩
     refine O Z Z (Zm (v := Vb d7) Z Z ?_)
     rcases Qg ag with ⟨af, ag⟩ | ⟨af, ag⟩
     ·refine Qo Z (Zf Z (Zx af)) Z (Zm (v := U ab) Z Z (Qo Z (Zf Z (Zx af)) Z (Exec.neq Z Z Z (O Z Z (Zs (v := Vb (!decide (ab = 0))) Z (Zx af) Z (Zb (V ?_)))))))
      have dJ := Zu ag
      subst aw
      exact ⟨b7, bp, ((((bg.f2).f2).f4).f3).f4, aE, aF, bu, Z, aG, aH, a7, Z⟩
     replace af := Zk af
     refine Qz 3 (by rw [af]; rfl) ?_
     refine Zb (V ?_)
     have dK := Zu ag
     subst aw
     exact ⟨b7, bp, ((((bg.f2).f2).f4).f3).f4, aE, aF, bu, Z, aG, aH, a7, Z⟩
    intro dY eL bQ
    obtain ⟨b8, bq, bh, c9, cA, cB, cC, cD, cE, cF, bv⟩ := bQ
    refine (V ?_)
    rcases Qg i with ⟨an, i⟩ | ⟨an, i⟩
    ·refine Qt bv an (Zc (Zd (O Z Z (Zo (v := Vb false) Z Z (Zb (V (Q0 (Qi (QB (Qi (Qi (QB (Qi (Qi ?_))))))))))))))
     have dL := Zu i
     subst aX
     have cr := cu _ (cw (by intro _ h; cases h))
     have dM := Zu cr
     subst r
     refine ⟨_, QW Z, ?_⟩
     exact ⟨b8, (Zt (Zt (Zt (Zt (Zt b t) u) ap) a1) bq), ((((bh.drop).drop).drop).drop).drop, Z⟩
    refine Qu bv an ?_
    replace an := Zk an
    refine Qp (V (Zd (O Z Z (Zm (v := ae) Z cB (O Z Z (Zm (v := U ab) Z cC (O Z Z (Exec.buildSlice (Te := 3) (cs := [U ab]) bh Z (Qb (c := [U ab]) (Qh Z Z) Qw) (fun _ => by kernel_rfl) ?_))))))))
    intro d9 eM ca
    obtain ⟨ei, dd, i⟩ := Zg i
    refine O Z Z (QO (E := (Qa .i64)) (ys := [ab]) ca.f3 Jz Z3 Z (by decide) Z Z Z Z ⟨[U ab], [], Z, Z, Z⟩ Z dd ?_)
    intro bD eN cb
    refine O Z Z (Zo (v := bD) Z Z (Zb (Qy (V (Zd (O Z Z (Exec.add Z cF Z (O Z Z (Zm (v := U (IntKind.i64.wrap ((bn : Int) + 1))) Z Z (Zb (V ?_)))))))))))
    have dN := Zu i
    subst aX
    refine ⟨_, Z, ?_⟩; exact ⟨b8, bD, (Zt (Zt ap a1) bq), ((((cb.f4).f4).f2).f4).f4, c9, cA, Z, cD, cE, (Eq.trans Z (QA cm (SliceRep.le aL)))⟩
   intro a6 dZ eO bM cx
   obtain ⟨du, ae, c3, cc, cG, cH, cI, cJ, bw, dz⟩ := bM
   refine Zc (Zd (O Z Z (Zq Z dz bw (Zb (V (Zc (Q8 (Zx (decide_eq_false (by omega))) (QF (Qk (Qk (Q5 (V ?_))))))))))))
   refine ⟨_, .inl cx, ?_⟩; exact ⟨du, ae, c3, ((((cc.f4).f4).f4).f4).f4, cG, cH, cI, cJ, bw⟩
  rintro ea eP ⟨au, bl, bR⟩
  have hm := bl.elim (co _) (ck _)
  clear bl
  obtain ⟨e0, o, ah, bi, bx, em, cK, en, eo⟩ := bR
  refine (V (Zc (Zc (Zd (O Z Z (Qm (ds := [j, l, m, n]) (bi) A26 Z bx Z ?_))))))
  obtain ⟨aV, de, hm⟩ := Zg hm
  refine O Z Z (Tc Z Z Z (Zi Z Qj) (Qgx de bi (ay.mono (Zt (Zt (Zt b t) u) ah)) (a9.mono (Zt (Zt (Zt b t) u) ah)) (az.mono (Zt (Zt (Zt b t) u) ah)) (a0.mono (Zt (Zt (Zt b t) u) ah))).r ?_)
  rintro aT eQ ⟨aO, _, aC, cd, rfl, aM⟩
  refine O Z Z (Zr S54 Z Z aM (O Z Z (Zm (v := U 0) Z Z (Zb (V ?_)))))
  obtain ⟨aY, bK, cv, cp, cl⟩ := QN hm
  refine QJ (M := fun f' w' => ∃ s', (aY = .next s' ∨ aY = .brk s') ∧ (fun (_ : Unit) => ∃ (b9 : PHeap) , PHeap.le aO b9 ∧ St w0 b9 (Res.box d 26 [j, l, m, n] :: Res.arr (Qa .i64) 3 o au :: H) w' ∧ f' 3 = Vq d ∧ f' 9 = o ∧ f' 60 = aT ∧ f' 61 = U ((aV.length : Int))) s') ?_ ?_
  ·refine Ql (Jv (fun k' s' f' w' => (fun (_ : Unit) => ∃ (bA : PHeap) , PHeap.le aO bA ∧ St w0 bA (Res.box d 26 [j, l, m, n] :: Res.arr (Qa .i64) 3 o au :: H) w' ∧ f' 3 = Vq d ∧ f' 9 = o ∧ f' 60 = aT ∧ f' 61 = U ((aV.length : Int)) ∧ f' 62 = U (k' : Int)) s') bK ?_ ?_ ?_)
   ·have ce := (cd.f1).drop
    exact ⟨aO, (Zv _), (((((ce.f2).drop).f2).drop).f1).f1, bx, cK, Z, Z, Z⟩
   ·intro bo e1 aZ eb eR cn bN z cy
    obtain ⟨aP, a2, bj, aI, aq, aJ, aK, a8⟩ := bN
    refine Zc (Zd (O Z Z (Zq Z a8 aK (Zb (V (Zc (QL (Zx (decide_eq_true (by omega))) (Qp (V (Zc (Ql (Zc (Zd ?_)))))))))))))
    obtain ⟨al, df, z⟩ := Zg z
    refine O Z Z (Qv S54 Z aJ a8 (aM.mono a2) df ?_)
    intro dA ek bH
    refine O Z Z (Zw (E := encbase_Edge) bj A57 Z Z Z bH ?_)
    intro e6 dg
    obtain rfl := QeQ.1 dg
    refine O Z Z (Exec.alloc (cs := [U 0, U 0, U 0]) bj Z57 Z Z ?_)
    intro dB eS cf
    refine O Z Z (Qe (ds := [U (al.From), U (al.Op), U (al.To)]) (es := [U (al.From), U (al.Op), U (al.To)]) cf A57 Z Z Z Z (Zj Z (Zj Z (Zj Z Q4))) (Nat.le_of_ble_eq_true Z) Z ?_)
    intro eT cg
    refine Zb (V (Zc ?_))
    obtain ⟨ax, p, z⟩ := Zg z
    refine QJ (M := fun f' w' => (fun (ax : Bool) => ∃ (bB : PHeap) , PHeap.le aP bB ∧ St w0 bB (Res.box d 26 [j, l, m, n] :: Res.arr (Qa .i64) 3 o au :: H) w' ∧ f' 3 = Vq d ∧ f' 9 = o ∧ f' 60 = aT ∧ f' 61 = U ((aV.length : Int)) ∧ f' 62 = U ((bo : Int)) ∧ f' 92 = Vb ax) ax) ?_ ?_
    ·refine K5 (n0 := 27) (qs 0 27 .done) KD (by kernel_rfl) (by kernel_rfl) ?_
     have g := cg.drew
     refine Qn Z Z (Zm (v := o) Z aq ⟨Z, ?_⟩)
     refine Qn Z Z (Zp Qna Z Z Z ⟨Z, ?_⟩)
     refine Qn Z Z (Zn (g) A3 Z Z Z ⟨Z, ?_⟩)
     obtain ⟨bE, ad, p⟩ := Zg p
     obtain ⟨ef, dD, ba⟩ := (g.f2).arr_at ad
     refine Qn Z Z (Qd Jz Z ba Z (Qf ad).1 (Qf ad).2.1 ⟨Z, ?_⟩)
     refine Qn Z Z (Qr (F := (Qa .i64)) (g.f2) ba A3 Z Z Z ad (Sub.refl _) ?_)
     intro e7 dh
     obtain rfl := Qs.1 dh
     refine ⟨Z, ?_⟩
     refine Qn Z Z (Zq Z Z Z ⟨Z, ?_⟩)
     refine Qn Z Z (Zm (v := Vb (decide (bE < 1125899906842624))) Z Z ⟨Z, ?_⟩)
     rcases Qg p with ⟨a, p⟩ | ⟨a, p⟩
     ·refine Q6 Z Z (Zf Z (Zx a)) (Zm (v := o) Z aq ⟨Z, ?_⟩)
      refine Q6 Z Z (Zf Z (Zx a)) (Zp QnQ Z Z Z ⟨Z, ?_⟩)
      refine Q6 Z Z (Zf Z (Zx a)) (Zn (g) A3 Z Z Z ⟨Z, ?_⟩)
      obtain ⟨d0, a4, p⟩ := Zg p
      obtain ⟨eg, dE, bb⟩ := (g.f2).arr_at a4
      refine Q6 Z Z (Zf Z (Zx a)) (Qd Jz Z bb Z (Qf a4).1 (Qf a4).2.1 ⟨Z, ?_⟩)
      refine Q6 Z Z (Zf Z (Zx a)) (Qr (F := (Qa .i64)) (g.f2) bb A3 Z Z Z a4 (Sub.refl _) ?_)
      intro e8 di
      obtain rfl := Qs.1 di
      refine ⟨Z, ?_⟩
      refine Q6 Z Z (Zf Z (Zx a)) (Zp Qab Z aI Z ⟨Z, ?_⟩)
      refine Q6 Z Z (Zf Z (Zx a)) (Zn (g.f1) A24 Z Z Z ⟨Z, ?_⟩)
      refine Q6 Z Z (Zf Z (Zx a)) (Zp QnP Z Z Z ⟨Z, ?_⟩)
      refine Q6 Z Z (Zf Z (Zx a)) (Zn (g) A3 Z Z Z ⟨Z, ?_⟩)
      obtain ⟨d1, dj, p⟩ := Zg p
      refine Q6 Z Z (Zf Z (Zx a)) (QM S24 Z Z Z (a0.mono (Zt (Zt (Zt (Zt (Zt b t) u) ah) aC) a2)) dj ?_)
      intro dC el bI dO
      refine ⟨Z, ?_⟩
      refine Q6 Z Z (Zf Z (Zx a)) (Zp QgZ Z Z Z ⟨Z, ?_⟩)
      refine Q6 Z Z (Zf Z (Zx a)) (Zw (E := (Qa .i64)) g A3 Z Z Z (bI.sub (Sub.iso (Qdn (QhD (Sub.refl _)) Z)) Z) ?_)
      intro e9 dk
      obtain rfl := Qs.1 dk
      refine ⟨Z, ?_⟩
      refine Q6 Z Z (Zf Z (Zx a)) (Zm (v := o) Z aq ⟨Z, ?_⟩)
      refine Q6 Z Z (Zf Z (Zx a)) (Zp Qna Z Z Z ⟨Z, ?_⟩)
      refine Q6 Z Z (Zf Z (Zx a)) (Zn (g) A3 Z Z Z ⟨Z, ?_⟩)
      obtain ⟨eh, dF, bc⟩ := (g.f2).arr_at ad
      refine Q6 Z Z (Zf Z (Zx a)) (Qd Jz Z bc Z (Qf ad).1 (Qf ad).2.1 ⟨Z, ?_⟩)
      refine Q6 Z Z (Zf Z (Zx a)) (Qr (F := (Qa .i64)) (g.f2) bc A3 Z Z Z ad (Sub.refl _) ?_)
      intro eA dl
      obtain rfl := Qs.1 dl
      refine ⟨Z, ?_⟩
      refine Q6 Z Z (Zf Z (Zx a)) (Exec.add Z Z Z ⟨Z, ?_⟩)
      refine Q6 Z Z (Zf Z (Zx a)) (Exec.gtr Z Z Z ⟨Z, ?_⟩)
      refine Qn Z Z (Zs (v := Vb (decide ((IntKind.i64.wrap (d1.Cost + bE)) < d0))) Z (Zx a) Z ⟨Z, ?_⟩)
      refine QC (Zb (V ?_))
      have dP := Zu p
      subst ax
      exact ⟨aP, (Zv _), ((g.drop).f1).f1, aI, aq, aJ, aK, a8, Z⟩
     replace a := Zk a
     refine QY 20 (by rw [a]; rfl) ?_
     refine QC (Zb (V ?_))
     have dQ := Zu p
     subst ax
     exact ⟨aP, (Zv _), ((g.drop).f1).f1, aI, aq, aJ, aK, a8, Z⟩
    intro ec eU bS
    obtain ⟨bC, br, bk, cL, cM, cN, cO, cP, bz⟩ := bS
    refine (V ?_)
    rcases Qg z with ⟨ao, z⟩ | ⟨ao, z⟩
    ·refine Qt bz ao (Zc (Zd (O Z Z (Zo (v := Vb false) Z Z (Zb (V (Q0 (QB (Qi (Qi (QB (Qi (Qi ?_)))))))))))))
     have dR := Zu z
     subst aZ
     have ct := cv _ (cy (by intro _ h; cases h))
     have dS := Zu ct
     subst r
     refine ⟨_, QW Z, ?_⟩
     exact ⟨bC, (Zt (Zt (Zt (Zt (Zt (Zt b t) u) ah) aC) a2) br), (bk.drop).drop, Z⟩
    refine Qu bz ao ?_
    replace ao := Zk ao
    refine Qp (Qy (V (Zd (O Z Z (Exec.add Z cP Z (O Z Z (Zm (v := U (IntKind.i64.wrap ((bo : Int) + 1))) Z Z (Zb (V ?_)))))))))
    have dT := Zu z
    subst aZ
    refine ⟨_, Z, ?_⟩; exact ⟨bC, (Zt a2 br), (bk.f1).f1, cL, cM, cN, cO, (Eq.trans Z (QA cn (SliceRep.le aM)))⟩
   intro e2 ed eV bO cz
   obtain ⟨dv, c4, ch, cQ, cR, cS, b0, d2⟩ := bO
   refine Zc (Zd (O Z Z (Zq Z d2 b0 (Zb (V (Zc (Q8 (Zx (decide_eq_false (by omega))) (QF (Qk (Qk (Q5 (V ?_))))))))))))
   refine ⟨_, .inl cz, ?_⟩; exact ⟨dv, c4, (ch.f1).f1, cQ, cR, cS, b0⟩
  rintro ee eW ⟨e3, bm, bT⟩
  have hm := bm.elim (cp _) (cl _)
  clear bm
  obtain ⟨dw, c5, ci, ep, er, et, eu⟩ := bT
  refine (V (Zc (Zd (O Z Z (Zo (v := Vb true) Z Z (Zb (V (Q0 ?_))))))))
  have dU := Zu hm
  subst r
  refine ⟨_, QW Z, ?_⟩
  exact ⟨dw, (Zt (Zt (Zt (Zt (Zt b t) u) ah) aC) c5), (ci.drop).drop, Z⟩
 replace hm := Qdq hm
 obtain ⟨e5, dm, hm⟩ := Zg hm
 refine O Z Z (Zm (v := Value.tuple #[Vp none, QE 50 (q)]) Z Z (O Z Z (Exec.extract (v := Vp none) Z Z Z (O Z Z (Exec.extract (v := QE 50 (q)) Z Z Z (O Z Z (Zo (v := Vp none) Z Z (O Z Z (Zo (v := QE 50 (q)) Z Z (Zb (V (Zc (Zc (Zd (O Z Z (Zm (v := QE 50 (q)) Z Z (O Z Z (Jd (T := 50) Tryz.underlying32 Z Z Z (Zb (V (QL (Zx (QR dm)) (Zc (Zd (O Z Z (Zm (v := QE 50 (q)) Z Z (O Z Z (Tc Z Z Z (Zi Z (Zi Z Qj)) (QiO (Qfi q 2) bX).r ?_)))))))))))))))))))))))))))
 rintro _ eX ⟨dx, c6, cj, rfl⟩
 refine O Z Z (Zo (v := Vb ((Qb1 q 2))) Z Z (Zb (V (Q0 (Qi ?_)))))
 have dV := Zu hm
 subst r
 refine ⟨_, QW Z, ?_⟩
 exact ⟨dx, (Zt (Zt b c2) c6), cj.drop, Z⟩
end Go.Pw
