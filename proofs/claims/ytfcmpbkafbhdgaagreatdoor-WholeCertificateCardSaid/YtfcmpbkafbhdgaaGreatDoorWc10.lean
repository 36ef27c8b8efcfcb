/- -/
import Derived.Test.YtfcmpbkafbhdgaaGreatDoorLC
import Derived.Test.YtfcmpbkafbhdgaaGreatDoorLD
import Derived.Test.YtfcmpbkafbhdgaaGreatDoorWc9
import Derived.Test.YtfcmpbkafbhdgaaGreatDoorWcDn
set_option maxRecDepth 100000
set_option maxHeartbeats 4000000
set_option linter.unusedVariables false
namespace Go.Pw
open Go.Proofs
attribute [local irreducible] Exec WL W andThen Y0 DL QB
theorem QaS {w0 w : World} {s : PHeap} {H : List Res} {fu : Nat} {ad : Task} {ai : Certificate} {q : Int} {m : Value} {n : Value} {o : Value} {p : Value} {aN : Value} {r : (Option Int) × Certificate} (hm : J4 fu ad ai q = some r) (hS : St w0 s (H) w) (aU : SliceRep (Qc .i64) s m ad.Vars) (aV : SliceRep (Qc .i64) s n ad.Init) (aW : SliceRep encFact s o ad.Goal) (aX : SliceRep encOp s p ad.Ops) (bC : SliceRep encNogood s aN ai.Nogoods) :
  Calls Tryz.prog 13 #[Value.agg #[m, n, o, p], Value.agg #[U (ai.Bound), aN], U q] w fun e w' => ∃ v, e = .returned v ∧ ((QK fun (cQ : (Option Int)) (bz : Certificate) => ∃ (aC : PHeap) (bw : Value), PHeap.le s aC ∧ St w0 aC (H) w' ∧ v = Value.tuple #[Value.agg #[U (bz.Bound), bw], Yc 39 (cQ)] ∧ SliceRep encNogood aC bw bz.Nogoods) r) := by
 unfold J4 at hm
 refine Qb Tryz.func13 Z Z (G ?_)
 refine Exec.box (cs := [m, n, o, p]) hS Z Z Z ?_
 intro d dO bP
 refine G ?_
 refine Exec.box (cs := [U (ai.Bound), aN]) bP Z Z Z ?_
 intro i dP bQ
 refine G ?_
 refine Exec.alloc (cs := [U 0, Vn]) bQ Z33 Z Z ?_
 intro j dQ bR
 obtain ⟨ew, c4, hm⟩ := Zg hm
 refine G ?_
 refine Tc Z Z Z (Zi Z (Zi Z (Zi Z Qw))) (QM c4 bR aU aV aW aX bC).r ?_
 rintro _ dR ⟨cF, ac, bb, rfl⟩
 refine G ?_
 refine Qh (T := 39) Tryz.underlying35 Z Z Z (G ?_)
 rcases QO hm with ⟨a4, hm⟩ | ⟨a4, hm⟩
 ·refine G ?_
  refine Exec.build Z Qg (v := Value.agg #[U 0, Vn]) (fun _ => by kernel_rfl) (G ?_)
  refine Qp (ds := [U 0, Vn]) (es := [U 0, Vn]) bb A33.h Z Z Z Z (Zj Z (Zj Z QV)) (Nat.le_of_ble_eq_true Z) Z ?_
  intro dS bc
  have cW := Zu hm
  subst r
  refine G ?_
  refine ⟨_, QaF Z ⟨_, _, Z, JJ (bc) A33.h⟩ Z, ?_⟩
  exact ⟨cF, Vn, ac, ((bc.drop).drop).drop, (Qfa Z Z), (SliceRep.nil _ _)⟩
 replace a4 := Zk a4
 obtain ⟨z, c5, hm⟩ := Zg hm
 refine G ?_
 refine Tc Z Z Z (Zi Z Qw) (YE c5 bb rq).r ?_
 rintro _ dT ⟨dC, aO, an, bS, rfl⟩
 obtain ⟨bu, ao, bT, a9⟩ := bS.freezeSg
 refine G ?_
 refine Qp (ds := [U (z.Bound), aO]) (es := [U (z.Bound), aO]) bT.f1 A33.h Z Z Z Z (Zj Z (Zj a9.one QV)) (Nat.le_of_ble_eq_true Z) Z ?_
 intro dU bU
 obtain ⟨cK, bE, hm⟩ := Zg hm
 refine G ?_
 refine J8 (fun k' s' f' w' => (QK fun (aS : Int) (aT : (List Nogood)) => ∃ (aD : PHeap) (y : Value), PHeap.le bu aD ∧ St w0 aD (Res.box d 26 [m, n, o, p] :: Res.box i 33 [U aS, y] :: Res.box j 33 [U 0, Vn] :: H) w' ∧ Fx f' [(27, U (k' : Int)), (2, U q), (3, Vq d), (4, Vq i), (6, Vq j), (26, U ((z.Nogoods.length : Int)))] ∧ SliceRep encNogood aD y aT) s') bE ?_ ?_ ?_
 ·have bV := bU.f1
  exact ⟨bu, aO, (Zv _), (bV.f1).f2, (Fx.mk), a9⟩
 ·intro t cL cG de dV cr bH u
  obtain ⟨aS, aT⟩ := cL
  replace u := Qy u
  obtain ⟨aE, y, c1, bW, ⟨df, rfl⟩, a8⟩ := bH
  obtain ⟨aY, bF, d0, cu, co⟩ := Qo u
  refine Zc (Zd (g ?_))
  refine Zc (KB (Zx (decide_eq_true (by omega))) (QT (Ze (Zc (Qbe (Zc (Zd (g ?_))))))))
  refine Zc (Zd (g ?_))
  refine Qm (M := fun f' w' => ∃ s', (aY = .next s' ∨ aY = .brk s') ∧ (K3 fun (bn : Int) (b0 : Int) (b1 : (List Nogood)) => ∃ (aF : PHeap) (az : Value), PHeap.le aE aF ∧ St w0 aF (Res.box d 26 [m, n, o, p] :: Res.box i 33 [U b0, az] :: Res.box j 33 [U 0, Vn] :: H) w' ∧ Fx f' [(2, U q), (3, Vq d), (4, Vq i), (6, Vq j), (9, U ((t : Int))), (10, U bn), (26, U ((z.Nogoods.length : Int))), (27, U ((t : Int)))] ∧ SliceRep encNogood aF az b1) s') ?_ ?_
  ·refine G ?_
   refine Y8 (fun s' f' w' => (K3 fun (am : Int) (b2 : Int) (b3 : (List Nogood)) => ∃ (aG : PHeap) (ae : Value), PHeap.le aE aG ∧ St w0 aG (Res.box d 26 [m, n, o, p] :: Res.box i 33 [U b2, ae] :: Res.box j 33 [U 0, Vn] :: H) w' ∧ Fx f' [(2, U q), (3, Vq d), (4, Vq i), (6, Vq j), (9, U ((t : Int))), (10, U am), (26, U ((z.Nogoods.length : Int))), (27, U ((t : Int)))] ∧ SliceRep encNogood aG ae b3) s') bF ?_ ?_
   ·have bX := bW.f2
    exact ⟨aE, y, (Zv _), (bX.f2).f2, (Fx.mk), a8⟩
   intro cM aZ dg dW bI a cz
   obtain ⟨am, b2, b3⟩ := cM
   replace a := Js a
   obtain ⟨cH, ae, bp, a2, ⟨dh, rfl⟩, al⟩ := bI
   obtain ⟨eu, c6, a⟩ := Zg a
   refine G ?_
   refine Jn S31.h Z Z Z al c6 ?_
   intro cR dA bD
   refine G ?_
   refine Zw (E := (Qa encFact)) a2 A23.h Z Z Z (bD.sub (Sub.iso (Sub.fst (Sub.refl _))) Z) ?_
   intro dM c7
   have dB := Qr.1 c7
   refine G ?_
   rcases QO a with ⟨a5, a⟩ | ⟨a5, a⟩
   ·obtain ⟨a1, c8, a⟩ := Zg a
    refine G ?_
    refine Tc Z Z Z (Zi Z Qw) (YE c8 a2 al).r ?_
    rintro _ dX ⟨dD, af, bq, bY, rfl⟩
    refine G ?_
    refine Exec.alloc (cs := [U 0, Vn]) bY Z33 Z Z ?_
    intro cS dY bd
    refine G ?_
    refine Qp (ds := [U (a1.Bound), af]) (es := [U (a1.Bound), af]) bd A33.h Z Z Z Z (Zj Z (Zj (bd.f1).sg_one QV)) (Nat.le_of_ble_eq_true Z) Z ?_
    intro dZ ak
    refine G ?_
    refine Qm4 (Zq := [8]) (n0 := 13) (qs 0 8 (qs 9 3 (.e 8 [0, 1, 2, 9, 10, 11] (.e 12 [0, 1, 2] .done)))) Yp (by kernel_rfl) (by kernel_rfl) (G ?_)
    refine Zn (ak.drew) A31.h Z Z Z ⟨Z, ?_⟩
    refine G ?_
    refine Zn (ak.drew) A31.h Z Z Z ⟨Z, ?_⟩
    obtain ⟨ev, x, a⟩ := Zg a
    obtain ⟨dw, cU, aj⟩ := ((ak.drew).f1).sg_at x
    refine G ?_
    refine Qe S31.h Z aj Z (Qf x).1 (Qf x).2.1 ⟨Z, ?_⟩
    refine G ?_
    refine Qhl (ak.drew).f1 aj A23.h Z Z Z x ?_
    intro dx d4 ct be
    refine ⟨(Kq (Qcf Z Z (Zp F33_1.h Z Z Z ⟨Z, Z⟩)) (Kq (Qcf Z Z (Zn (be.f3) A31.h Z Z Z ⟨Z, Z⟩)) (Kq (Qcf Z Z (Zm (v := U ((t : Int))) Z Z ⟨Z, Z⟩)) (Kq (Qcf Z Z (Zm (v := U am) Z Z ⟨Z, Z⟩)) (Kq (Qcf Z Z (Zm (v := U am) Z Z ⟨Z, Z⟩)) (Kq (Qcf Z Z (Exec.add Z Z Z ⟨Z, Z⟩)) YQ)))))), ?_⟩
    obtain ⟨d5, c9, a⟩ := Zg a
    refine G ?_
    refine Tc Z Z Z (Zi Z (Zi Z (Zi Z Qw))) (QkA c9 be).r ?_
    rintro dN ea ⟨dE, _, br, bf, rfl⟩
    refine ⟨(Kq (Qcf Z Z (Zp F33_1.h Z Z Z ⟨Z, Z⟩)) (Kq (Qcf Z Z (Zn (bf.f3) A31.h Z Z Z ⟨Z, Z⟩)) (Kq (Qcf Z Z (Zm (v := U ((t : Int))) Z Z ⟨Z, Z⟩)) YQ))), ?_⟩
    refine G ?_
    refine Qe S31.h Z aj Z (Qf x).1 (Qf x).2.1 ?_
    obtain ⟨d6, cA, a⟩ := Zg a
    refine G ?_
    refine Qgk (set := fun (c : Nogood) l => { c with Facts := l }) ((bf.f2).f2).f2 ct aj A23.h Z Z Z Z (fun _ _ => rfl) (fun _ _ => rfl) x cA ?_
    intro eb bZ
    refine G ?_
    obtain ⟨dF, bs, ca, aA⟩ := bZ.freezeSg
    obtain ⟨ex, cB, a⟩ := Zg a
    refine G ?_
    refine Tc Z Z Z (Zi Z (Zi Z (Zi Z Qw))) (QM cB ca rq rq rq rq aA).r ?_
    rintro _ ec ⟨aH, ap, bg, rfl⟩
    refine G ?_
    refine QP (T := 39) Tryz.underlying35 Z Z Z ?_
    obtain ⟨ax, aa, a⟩ := Zg a
    refine g ?_
    refine Qm (M := fun f' w' => (K3 fun (bo : Int) (b4 : Int) (b5 : (List Nogood)) => ∃ (aI : PHeap) (a0 : Value), PHeap.le aH aI ∧ St w0 aI (Res.box d 26 [m, n, o, p] :: Res.box i 33 [U b4, a0] :: Res.box j 33 [U 0, Vn] :: H) w' ∧ Fx f' [(2, U q), (3, Vq d), (4, Vq i), (6, Vq j), (9, U ((t : Int))), (10, U bo), (26, U ((z.Nogoods.length : Int))), (27, U ((t : Int)))] ∧ SliceRep encNogood aI a0 b5) ax) ?_ ?_
    ·rcases QO aa with ⟨a6, aa⟩ | ⟨a6, aa⟩
     ·refine G ?_
      refine Qp (ds := [U (a1.Bound), af]) (es := [U (a1.Bound), af]) bg.f2 A33.h Z Z Z Z (Zj Z (Zj ((aA.mono ap)).one QV)) (Nat.le_of_ble_eq_true Z) Z ?_
      intro ed cb
      have cX := Zu aa
      subst ax
      refine G ?_
      exact ⟨aH, af, (Zv _), ((((cb.f1).drop).f2).f1).f2, (Fx.mk), (aA.mono ap)⟩
     replace a6 := Zk a6
     have cY := Zu aa
     subst ax
     refine G ?_
     exact ⟨aH, ae, (Zv _), (((bg.drop).f2).f2).f2, (Fx.mk), (al.mono (Zt (Zt (Zt bq br) bs) ap))⟩
    intro di ee bL
    obtain ⟨bo, b4, b5⟩ := ax
    replace a := Js a
    obtain ⟨cI, a0, c2, cc, ⟨dj, rfl⟩, cw⟩ := bL
    have cZ := Zu a
    subst aZ
    refine G ?_
    refine ⟨_, Z, ?_⟩; exact ⟨cI, a0, (Zt (Zt (Zt (Zt (Zt bp bq) br) bs) ap) c2), ((cc.f2).f2).f2, (Fx.mk), cw⟩
   replace a5 := Zk a5
   have da := Zu a
   subst aZ
   refine G ?_
   refine ⟨_, .inr (cz (by intro _ h; cases h)), ?_⟩; exact ⟨cH, ae, bp, ((a2.f2).f2).f2, (Fx.mk), al⟩
  rintro dk ef ⟨cN, bi, bM⟩
  have u := bi.elim (cu _) (co _)
  clear bi
  obtain ⟨bn, b0, b1⟩ := cN
  replace u := Js u
  obtain ⟨cJ, az, c3, cd, ⟨dl, rfl⟩, cx⟩ := bM
  have db := Zu u
  subst cG
  refine G ?_
  exact ⟨cJ, az, (Zt c1 c3), ((cd.f2).f2).f2, (Fx.mk (FxL.cons (Ja cr (SliceRep.le a9)) fxl)), cx⟩
 intro dm eg bJ
 obtain ⟨aS, aT⟩ := cK
 replace hm := Qy hm
 obtain ⟨aJ, y, aq, ce, ⟨dn, rfl⟩, a8⟩ := bJ
 obtain ⟨ba, bG, d1, cv, cp⟩ := Qo hm
 refine Zc (Zd (g ?_))
 refine Zc (K6 (Zx (decide_eq_false (by omega))) (Qka (QeX (QeX (QgS (Ze (Zc (Zc (Zd (g ?_))))))))))
 refine Qm (M := fun f' w' => ∃ s', (ba = .next s' ∨ ba = .brk s') ∧ (K3 fun (bk : Int) (b6 : Int) (b7 : (List Nogood)) => ∃ (aK : PHeap) (aP : Value), PHeap.le aJ aK ∧ St w0 aK (Res.box d 26 [m, n, o, p] :: Res.box i 33 [U b6, aP] :: Res.box j 33 [U 0, Vn] :: H) w' ∧ Fx f' [(2, U q), (3, Vq d), (4, Vq i), (6, Vq j), (12, U bk)] ∧ SliceRep encNogood aK aP b7) s') ?_ ?_
 ·refine G ?_
  refine Y8 (fun s' f' w' => (K3 fun (bl : Int) (b8 : Int) (b9 : (List Nogood)) => ∃ (aL : PHeap) (aQ : Value), PHeap.le aJ aL ∧ St w0 aL (Res.box d 26 [m, n, o, p] :: Res.box i 33 [U b8, aQ] :: Res.box j 33 [U 0, Vn] :: H) w' ∧ Fx f' [(2, U q), (3, Vq d), (4, Vq i), (6, Vq j), (12, U bl)] ∧ SliceRep encNogood aL aQ b9) s') bG ?_ ?_
  ·have cf := ce.f2
   exact ⟨aJ, y, (Zv _), (cf.f2).f2, (Fx.mk), a8⟩
  intro cO cV dp eh bK b c0
  obtain ⟨bl, b8, b9⟩ := cO
  replace b := Js b
  obtain ⟨dG, aQ, ar, cg, ⟨dq, rfl⟩, cy⟩ := bK
  refine G ?_
  rcases Qk b with ⟨cq, b⟩ | ⟨cq, b⟩
  ·obtain ⟨ah, cC, b⟩ := Zg b
   refine G ?_
   refine Tc Z Z Z (Zi Z Qw) (YE cC cg cy).r ?_
   rintro _ ei ⟨dH, bx, au, ch, rfl⟩
   refine G ?_
   refine Exec.alloc (cs := [U 0, Vn]) ch Z33 Z Z ?_
   intro cT ej bh
   refine G ?_
   refine Qp (ds := [U (ah.Bound), bx]) (es := [U (ah.Bound), bx]) bh A33.h Z Z Z Z (Zj Z (Zj (bh.f1).sg_one QV)) (Nat.le_of_ble_eq_true Z) Z ?_
   intro ek ci
   obtain ⟨d7, cD, b⟩ := Zg b
   refine G ?_
   refine Tc Z Z Z (Zi Z (Zi Z (Zi Z Qw))) (Qk9 cD ci.f1).r ?_
   rintro ag el ⟨dI, _, av, a3, rfl⟩
   refine G ?_
   refine Qp (ds := [ag]) (es := [U (ah.Bound), ag]) a3.f1 A31.h Z Z Z (Q5 ((a3.f1).f1).sg_one) (Zj ((a3.f1).f1).sg_one QV) (Nat.le_of_ble_eq_true Z) Z ?_
   intro em cj
   refine G ?_
   obtain ⟨dJ, aw, ck, aB⟩ := cj.f1.freezeSg
   obtain ⟨ey, cE, b⟩ := Zg b
   refine G ?_
   refine Tc Z Z Z (Zi Z (Zi Z (Zi Z Qw))) (QM cE ck (aU.mono (Zt (Zt (Zt (Zt (Zt (Zt (Zt ac an) ao) aq) ar) au) av) aw)) (aV.mono (Zt (Zt (Zt (Zt (Zt (Zt (Zt ac an) ao) aq) ar) au) av) aw)) (aW.mono (Zt (Zt (Zt (Zt (Zt (Zt (Zt ac an) ao) aq) ar) au) av) aw)) (aX.mono (Zt (Zt (Zt (Zt (Zt (Zt (Zt ac an) ao) aq) ar) au) av) aw)) aB).r ?_
   rintro _ en ⟨bv, bt, cl, rfl⟩
   refine G ?_
   refine QP (T := 39) Tryz.underlying35 Z Z Z ?_
   obtain ⟨ay, ab, b⟩ := Zg b
   refine g ?_
   refine Qm (M := fun f' w' => (K3 fun (bm : Int) (bA : Int) (bB : (List Nogood)) => ∃ (aM : PHeap) (aR : Value), PHeap.le bv aM ∧ St w0 aM (Res.box d 26 [m, n, o, p] :: Res.box i 33 [U bA, aR] :: Res.box j 33 [U 0, Vn] :: H) w' ∧ Fx f' [(2, U q), (3, Vq d), (4, Vq i), (6, Vq j), (12, U bm)] ∧ SliceRep encNogood aM aR bB) ay) ?_ ?_
   ·rcases QO ab with ⟨a7, ab⟩ | ⟨a7, ab⟩
    ·refine G ?_
     refine Qp (ds := [U (ah.Bound), ag]) (es := [U (ah.Bound), ag]) cl.f2 A33.h Z Z Z Z (Zj Z (Zj ((aB.mono bt)).one QV)) (Nat.le_of_ble_eq_true Z) Z ?_
     intro eo cm
     have dc := Zu ab
     subst ay
     refine G ?_
     exact ⟨bv, ag, (Zv _), ((((cm.f1).drop).f2).f1).f2, (Fx.mk), (aB.mono bt)⟩
    replace a7 := Zk a7
    have dd := Zu ab
    subst ay
    refine G ?_
    exact V
   intro dr ep bN
   obtain ⟨bm, bA, bB⟩ := ay
   replace b := Js b
   obtain ⟨dK, aR, d8, dy, ⟨dt, rfl⟩, d2⟩ := bN
   cases b
   refine G ?_
   exact ⟨_, Z, V⟩
  cases b
  refine G ?_
  exact ⟨_, .inr (c0 (by intro _ h; cases h)), V⟩
 rintro du er ⟨cP, bj, bO⟩
 have hm := bj.elim (cv _) (cp _)
 clear bj
 obtain ⟨bk, b6, b7⟩ := cP
 replace hm := Js hm
 obtain ⟨dL, aP, d9, dz, ⟨dv, rfl⟩, d3⟩ := bO
 refine G ?_
 refine Yo Z Z Z ?_
 intro et cn
 cases hm
 refine G ?_
 refine ⟨_, QaF Z ⟨_, _, Z, JJ (cn) A33.h⟩ Z, ?_⟩
 exact V
theorem Qnc : (Tryz.prog.info? 39).map (·.zero) = some (some (.int .i64 0)) := by kernel_rfl
theorem Qhh {w0 w : World} {s : PHeap} {H : List Res} {a : (Option Int)} {r : Int} (hm : QaJ a = some r) (hS : St w0 s (H) w) :
  Calls Tryz.prog 26 #[Yc 39 (a)] w fun e w' => ∃ v, e = .returned v ∧ ((fun (f : Int) => ∃ (b : PHeap) , PHeap.le s b ∧ St w0 b (H) w' ∧ v = U f) r) := by
 unfold QaJ at hm
 refine Qb Tryz.func26 Z Z (G ?_)
 refine QP (T := 39) Tryz.underlying35 Z Z Z (G ?_)
 rcases Qk hm with ⟨c, hm⟩ | ⟨c, hm⟩
 ·cases hm
  refine G ?_
  exact fr
 refine G ?_
 refine QeM Tryz.underlying39 Qnc Z Z (G ?_)
 rcases Qk hm with ⟨d, hm⟩ | ⟨d, hm⟩
 ·cases hm
  refine G ?_
  exact fr
 cases hm
 refine G ?_
 exact fr
theorem Qcp {w0 w : World} {s : PHeap} {H : List Res} {a : (Option Int)} {b : Int} {r : Bool} (hm : Qb5 a b = some r) (hS : St w0 s (H) w) :
  Calls Tryz.prog 9 #[Yc 39 (a), U b] w fun e w' => ∃ v, e = .returned v ∧ ((fun (j : Bool) => ∃ (c : PHeap) , PHeap.le s c ∧ St w0 c (H) w' ∧ v = Value.bool (j)) r) := by
 unfold Qb5 at hm
 refine Qb Tryz.func9 Z Z (Zc (Zd (g ?_)))
 refine Zc (Qm (M := fun f' w' => ∃ (d : PHeap) , PHeap.le s d ∧ St w0 d (H) w' ∧ Fx f' [(4, Vb ((a.isSome && decide ((Yj a) = b))))]) ?_ ?_)
 ·refine G ?_
  refine Qh (T := 39) Tryz.underlying35 Z Z Z (G ?_)
  rcases tf (a.isSome) with i | i
  ·refine G ?_
   refine Tc Z Z Z Z (Qhh (QdJ a) hS).r ?_
   rintro _ u ⟨q, o, m, rfl⟩
   refine G ?_
   exact V
  refine G ?_
  exact V
 intro k x h
 obtain ⟨t, p, n, ⟨l, rfl⟩⟩ := h
 cases hm
 refine G ?_
 exact fr
theorem YN {w0 w : World} {s : PHeap} {H : List Res} {fu : Nat} {t1 : Task} {v2 : Value} {v4 : Value} {v6 : Value} {v8 : Value} {r : Bool} (hm : Jb fu t1 = some r) (hS : St w0 s (H) w) (a3 : SliceRep (Qc .i64) s v2 t1.Vars) (a5 : SliceRep (Qc .i64) s v4 t1.Init) (a7 : SliceRep encFact s v6 t1.Goal) (a9 : SliceRep encOp s v8 t1.Ops) (ht : TabS Tryz.prog s) :
  Calls Tryz.prog 3 #[Value.agg #[v2, v4, v6, v8]] w fun e w' => ∃ v, e = .returned v ∧ ((fun (y11 : Bool) => ∃ (ae : PHeap) , PHeap.le s ae ∧ St w0 ae (H) w' ∧ v = Value.bool (y11)) r) := by
 unfold Jb at hm
 refine Qb Tryz.func3 Z Z (G ?_)
 refine Yz Z Z ?_
 intro d d9 a0
 obtain ⟨n, a, hm⟩ := Zg hm
 refine g ?_
 refine Zc (Zc (Qm (M := fun f' w' => (fun (n : Bool) => ∃ (af : PHeap) , PHeap.le s af ∧ St w0 af (Res.box d 26 [v2, v4, v6, v8] :: H) w' ∧ Fx f' [(1, Vq d), (30, Vb n)]) n) ?_ ?_))
 ·obtain ⟨et, br, a⟩ := Zg a
  refine G ?_
  refine Tc Z Z Z Z (Qgh br a0 a3 a5 a7 a9).r ?_
  rintro _ dA ⟨dh, cB, a1, rfl⟩
  refine G ?_
  rcases Qk a with ⟨aU, a⟩ | ⟨aU, a⟩
  ·cases a
   refine G ?_
   exact V
  refine G ?_
  rcases Qk a with ⟨aV, a⟩ | ⟨aV, a⟩
  ·cases a
   refine G ?_
   exact V
  obtain ⟨eu, bs, a⟩ := Zg a
  refine G ?_
  refine Tc Z Z Z Z (QcV bs a1 rq).r ?_
  rintro _ dB ⟨di, cC, a2, rfl⟩
  refine G ?_
  rcases Qk a with ⟨aW, a⟩ | ⟨aW, a⟩
  ·cases a
   refine G ?_
   exact V
  obtain ⟨ev, bt, a⟩ := Zg a
  refine G ?_
  refine Tc Z Z Z Qw (KJ bt a2 (ht.mono lq)).r ?_
  rintro _ dC ⟨dj, cD, cu, rfl⟩
  cases a
  refine G ?_
  exact V
 intro cf dD ar
 obtain ⟨dk, bq, aa, ⟨cg, rfl⟩⟩ := ar
 refine G ?_
 rcases Qk hm with ⟨aX, hm⟩ | ⟨aX, hm⟩
 ·obtain ⟨ew, bu, hm⟩ := Zg hm
  refine G ?_
  refine Tc Z Z Z Qw (KJ bu aa (ht.mono bq)).r ?_
  rintro _ dE ⟨dl, cE, cv, rfl⟩
  cases hm
  refine G ?_
  exact fr
 obtain ⟨ao, bv, hm⟩ := Zg hm
 refine G ?_
 refine Tc Z Z Z Z (Qgj bv aa rq rq rq rq).r ?_
 rintro _ dF ⟨dm, cF, ab, rfl⟩
 refine G ?_
 rcases Qk hm with ⟨aY, hm⟩ | ⟨aY, hm⟩
 ·obtain ⟨bM, bw, hm⟩ := Zg hm
  obtain ⟨ex, ap⟩ := bM
  replace hm := Qy hm
  refine G ?_
  refine Tc Z Z Z Z (Yh bw ab rq rq rq rq).r ?_
  rintro _ dG ⟨bG, am, cG, a4, rfl, bC⟩
  refine G ?_
  refine Exec.alloc (cs := [U 0, Vn]) a4 Z33 Z Z ?_
  intro l dH cw
  refine G ?_
  refine Yo Z Z Z ?_
  intro dI a6
  obtain ⟨o, h, hm⟩ := Zg hm
  refine g ?_
  refine Zc (Zc (Qm (M := fun f' w' => (fun (o : Bool) => ∃ (ag : PHeap) , PHeap.le bG ag ∧ St w0 ag (Res.box d 26 [v2, v4, v6, v8] :: Res.box l 33 [U (ap.Bound), am] :: H) w' ∧ Fx f' [(1, Vq d), (3, U ((-1))), (6, Vq l), (59, Vb o)]) o) ?_ ?_))
  ·refine G ?_
   refine Qh (T := 39) Tryz.underlying35 Z Z Z (G ?_)
   rcases Qk h with ⟨aZ, h⟩ | ⟨aZ, h⟩
   ·cases h
    refine G ?_
    exact V
   obtain ⟨ey, bx, h⟩ := Zg h
   refine G ?_
   refine Tc Z Z Z Z (QM bx a6 rq rq rq rq bC).r ?_
   rintro _ dJ ⟨dn, cH, cx, rfl⟩
   refine G ?_
   refine Qh (T := 39) Tryz.underlying35 Z Z Z ?_
   cases h
   refine G ?_
   exact V
  intro ch dK au
  obtain ⟨dp, cI, a8, ⟨ci, rfl⟩⟩ := au
  refine G ?_
  rcases Qk hm with ⟨ba, hm⟩ | ⟨ba, hm⟩
  ·cases hm
   refine G ?_
   exact fr
  obtain ⟨bN, bz, hm⟩ := Zg hm
  obtain ⟨ez, e0⟩ := bN
  replace hm := Qy hm
  refine G ?_
  refine Tc Z Z Z Z (KN bz a8 rq (ht.mono lq)).r ?_
  rintro _ dL ⟨dq, cJ, aA, rfl⟩
  refine G ?_
  refine Qh (T := 39) Tryz.underlying35 Z Z Z (G ?_)
  rcases Qk hm with ⟨bb, hm⟩ | ⟨bb, hm⟩
  ·cases hm
   refine G ?_
   exact fr
  obtain ⟨bO, b0, hm⟩ := Zg hm
  obtain ⟨e1, e2, bX⟩ := bO
  replace hm := Js hm
  refine G ?_
  refine Tc Z Z Z Z (Qae b0 aA).r ?_
  rintro _ dM ⟨bH, bV, cK, aB, rfl, bD⟩
  refine G ?_
  refine Exec.alloc (cs := [U 0, Vn]) aB Z33 Z Z ?_
  intro y dN cy
  refine G ?_
  refine Yo Z Z Z ?_
  intro dO aC
  obtain ⟨p, i, hm⟩ := Zg hm
  refine g ?_
  refine Zc (Zc (Qm (M := fun f' w' => (fun (p : Bool) => ∃ (ah : PHeap) , PHeap.le bH ah ∧ St w0 ah (Res.box d 26 [v2, v4, v6, v8] :: Res.box l 33 [U (ap.Bound), am] :: Res.box y 33 [U (bX.Bound), bV] :: H) w' ∧ Fx f' [(1, Vq d), (3, U ((-1))), (6, Vq l), (9, Vq y), (80, Vb p)]) p) ?_ ?_))
  ·refine G ?_
   refine Qh (T := 39) Tryz.underlying35 Z Z Z (G ?_)
   rcases Qk i with ⟨bc, i⟩ | ⟨bc, i⟩
   ·cases i
    refine G ?_
    exact V
   obtain ⟨e3, b1, i⟩ := Zg i
   refine G ?_
   refine Tc Z Z Z Z (QM b1 aC rq rq rq rq bD).r ?_
   rintro _ dP ⟨dr, cL, cz, rfl⟩
   refine G ?_
   refine Qh (T := 39) Tryz.underlying35 Z Z Z ?_
   cases i
   refine G ?_
   exact V
  intro cj dQ av
  obtain ⟨ds, cM, aD, ⟨ck, rfl⟩⟩ := av
  refine G ?_
  rcases Qk hm with ⟨bd, hm⟩ | ⟨bd, hm⟩
  ·cases hm
   refine G ?_
   exact fr
  refine G ?_
  rcases Qk hm with ⟨be, hm⟩ | ⟨be, hm⟩
  ·cases hm
   refine G ?_
   exact fr
  obtain ⟨bP, b2, hm⟩ := Zg hm
  obtain ⟨bY, e4⟩ := bP
  replace hm := Qy hm
  refine G ?_
  refine Tc Z Z Z Z (QaS b2 aD rq rq rq rq rq).r ?_
  rintro _ dR ⟨dt, d6, cN, aE, rfl, de⟩
  refine G ?_
  refine Exec.alloc (cs := [U 0, Vn]) aE Z33 Z Z ?_
  intro cc dS c0
  refine G ?_
  refine Yo Z Z Z ?_
  intro dT aF
  refine G ?_
  refine Tc Z Z Z Z (Qcp (Qbj bY 10) aF).r ?_
  rintro _ dU ⟨bI, cO, aG, rfl⟩
  refine G ?_
  rcases Qk hm with ⟨ac, hm⟩ | ⟨ac, hm⟩
  ·cases hm
   refine G ?_
   exact fr
  obtain ⟨q, b, hm⟩ := Zg hm
  refine W_c Z ac (Qa0 (QT (Ze (Zc (Qm (M := fun f' w' => (fun (q : Bool) => ∃ (ai : PHeap) , PHeap.le bI ai ∧ St w0 ai (H) w' ∧ Fx f' [(2, Vb q)]) q) ?_ ?_)))))
  ·refine G ?_
   refine QP (T := 39) Tryz.underlying35 Z Z Z (G ?_)
   rcases Qk b with ⟨bf, b⟩ | ⟨bf, b⟩
   ·obtain ⟨e5, b3, b⟩ := Zg b
    refine G ?_
    refine Tc Z Z Z Z (QM b3 aG rq rq rq rq rq).r ?_
    rintro _ dV ⟨du, cP, c1, rfl⟩
    refine G ?_
    refine QP (T := 39) Tryz.underlying35 Z Z Z (G ?_)
    rcases Qk b with ⟨bg, b⟩ | ⟨bg, b⟩
    ·cases b
     refine G ?_
     exact V
    cases b
    refine G ?_
    exact V
   cases b
   refine G ?_
   exact V
  intro cl dW aw
  obtain ⟨dv, cQ, c2, ⟨cm, rfl⟩⟩ := aw
  cases hm
  refine G ?_
  exact fr
 obtain ⟨bQ, b4, hm⟩ := Zg hm
 obtain ⟨bZ, e6⟩ := bQ
 replace hm := Qy hm
 refine G ?_
 refine Tc Z Z Z Z (Yh b4 ab rq rq rq rq).r ?_
 rintro _ dX ⟨dw, d7, cR, aH, rfl, df⟩
 refine G ?_
 refine Exec.alloc (cs := [U 0, Vn]) aH Z33 Z Z ?_
 intro cd dY c3
 refine G ?_
 refine Yo Z Z Z ?_
 intro dZ aI
 refine G ?_
 refine Tc Z Z Z Z (Qcp (Qbj bZ 13) aI).r ?_
 rintro _ ea ⟨dx, cS, aJ, rfl⟩
 refine G ?_
 rcases Qk hm with ⟨bh, hm⟩ | ⟨bh, hm⟩
 ·cases hm
  refine G ?_
  exact fr
 obtain ⟨bR, b5, hm⟩ := Zg hm
 obtain ⟨e7, aq⟩ := bR
 replace hm := Qy hm
 refine G ?_
 refine Tc Z Z Z Z (Yh b5 aJ rq rq rq rq).r ?_
 rintro _ eb ⟨bJ, an, cT, aK, rfl, bE⟩
 refine G ?_
 refine Exec.alloc (cs := [U 0, Vn]) aK Z33 Z Z ?_
 intro m ec c4
 refine G ?_
 refine Yo Z Z Z ?_
 intro ed aL
 obtain ⟨t, j, hm⟩ := Zg hm
 refine g ?_
 refine Zc (Zc (Qm (M := fun f' w' => (fun (t : Bool) => ∃ (aj : PHeap) , PHeap.le bJ aj ∧ St w0 aj (Res.box d 26 [v2, v4, v6, v8] :: Res.box m 33 [U (aq.Bound), an] :: H) w' ∧ Fx f' [(1, Vq d), (3, U ao), (6, Vq m), (59, Vb t)]) t) ?_ ?_))
 ·refine G ?_
  refine Qh (T := 39) Tryz.underlying35 Z Z Z (G ?_)
  rcases Qk j with ⟨bi, j⟩ | ⟨bi, j⟩
  ·cases j
   refine G ?_
   exact V
  obtain ⟨e8, b6, j⟩ := Zg j
  refine G ?_
  refine Tc Z Z Z Z (QM b6 aL rq rq rq rq bE).r ?_
  rintro _ ee ⟨dy, cU, c5, rfl⟩
  refine G ?_
  refine Qh (T := 39) Tryz.underlying35 Z Z Z ?_
  cases j
  refine G ?_
  exact V
 intro cn ef ax
 obtain ⟨dz, cV, aM, ⟨co, rfl⟩⟩ := ax
 refine G ?_
 rcases Qk hm with ⟨bj, hm⟩ | ⟨bj, hm⟩
 ·cases hm
  refine G ?_
  exact fr
 obtain ⟨bS, b7, hm⟩ := Zg hm
 obtain ⟨e9, eA⟩ := bS
 replace hm := Qy hm
 refine G ?_
 refine Tc Z Z Z Z (KN b7 aM rq (ht.mono lq)).r ?_
 rintro _ eg ⟨d0, cW, aN, rfl⟩
 refine G ?_
 refine Qh (T := 39) Tryz.underlying35 Z Z Z (G ?_)
 rcases Qk hm with ⟨bk, hm⟩ | ⟨bk, hm⟩
 ·cases hm
  refine G ?_
  exact fr
 obtain ⟨bT, b8, hm⟩ := Zg hm
 obtain ⟨eB, eC, ca⟩ := bT
 replace hm := Js hm
 refine G ?_
 refine Tc Z Z Z Z (Qae b8 aN).r ?_
 rintro _ eh ⟨bK, bW, cX, aO, rfl, bF⟩
 refine G ?_
 refine Exec.alloc (cs := [U 0, Vn]) aO Z33 Z Z ?_
 intro z ei c6
 refine G ?_
 refine Yo Z Z Z ?_
 intro ej aP
 obtain ⟨u, k, hm⟩ := Zg hm
 refine g ?_
 refine Zc (Zc (Qm (M := fun f' w' => (fun (u : Bool) => ∃ (ak : PHeap) , PHeap.le bK ak ∧ St w0 ak (Res.box d 26 [v2, v4, v6, v8] :: Res.box m 33 [U (aq.Bound), an] :: Res.box z 33 [U (ca.Bound), bW] :: H) w' ∧ Fx f' [(1, Vq d), (3, U ao), (6, Vq m), (9, Vq z), (80, Vb u)]) u) ?_ ?_))
 ·refine G ?_
  refine Qh (T := 39) Tryz.underlying35 Z Z Z (G ?_)
  rcases Qk k with ⟨bl, k⟩ | ⟨bl, k⟩
  ·cases k
   refine G ?_
   exact V
  obtain ⟨eD, b9, k⟩ := Zg k
  refine G ?_
  refine Tc Z Z Z Z (QM b9 aP rq rq rq rq bF).r ?_
  rintro _ ek ⟨d1, cY, c7, rfl⟩
  refine G ?_
  refine Qh (T := 39) Tryz.underlying35 Z Z Z ?_
  cases k
  refine G ?_
  exact V
 intro cp el ay
 obtain ⟨d2, cZ, aQ, ⟨cq, rfl⟩⟩ := ay
 refine G ?_
 rcases Qk hm with ⟨bm, hm⟩ | ⟨bm, hm⟩
 ·cases hm
  refine G ?_
  exact fr
 refine G ?_
 rcases Qk hm with ⟨bn, hm⟩ | ⟨bn, hm⟩
 ·cases hm
  refine G ?_
  exact fr
 obtain ⟨bU, bA, hm⟩ := Zg hm
 obtain ⟨cb, eE⟩ := bU
 replace hm := Qy hm
 refine G ?_
 refine Tc Z Z Z Z (QaS bA aQ rq rq rq rq rq).r ?_
 rintro _ em ⟨d3, d8, da, aR, rfl, dg⟩
 refine G ?_
 refine Exec.alloc (cs := [U 0, Vn]) aR Z33 Z Z ?_
 intro ce en c8
 refine G ?_
 refine Yo Z Z Z ?_
 intro eo aS
 refine G ?_
 refine Tc Z Z Z Z (Qcp (Qbj cb 10) aS).r ?_
 rintro _ ep ⟨bL, db, aT, rfl⟩
 refine G ?_
 rcases Qk hm with ⟨ad, hm⟩ | ⟨ad, hm⟩
 ·cases hm
  refine G ?_
  exact fr
 obtain ⟨x, c, hm⟩ := Zg hm
 refine W_c Z ad (Qa0 (QT (Ze (Zc (Qm (M := fun f' w' => (fun (x : Bool) => ∃ (al : PHeap) , PHeap.le bL al ∧ St w0 al (H) w' ∧ Fx f' [(2, Vb x)]) x) ?_ ?_)))))
 ·refine G ?_
  refine QP (T := 39) Tryz.underlying35 Z Z Z (G ?_)
  rcases Qk c with ⟨bo, c⟩ | ⟨bo, c⟩
  ·obtain ⟨eF, bB, c⟩ := Zg c
   refine G ?_
   refine Tc Z Z Z Z (QM bB aT rq rq rq rq rq).r ?_
   rintro _ er ⟨d4, dc, c9, rfl⟩
   refine G ?_
   refine QP (T := 39) Tryz.underlying35 Z Z Z (G ?_)
   rcases Qk c with ⟨bp, c⟩ | ⟨bp, c⟩
   ·cases c
    refine G ?_
    exact V
   cases c
   refine G ?_
   exact V
  cases c
  refine G ?_
  exact V
 intro cr es az
 obtain ⟨d5, dd, cA, ⟨ct, rfl⟩⟩ := az
 cases hm
 refine G ?_
 exact fr
end Go.Pw
