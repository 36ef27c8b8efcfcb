/- -/
import Derived.Test.YteiainhbhaodoaaGreatL29
import Derived.Test.YteiainhbhaodoaaGreatL61
import Derived.Test.YteiainhbhaodoaaGreatEg1
set_option maxRecDepth 100000
set_option maxHeartbeats 4000000
set_option linter.unusedVariables false
namespace Go.Pw
open Go.Proofs
attribute [local irreducible] Exec WL W andThen YR DL Jh
theorem QaA {w0 w : World} {s : PHeap} {H : List Res} {a : encode_encoder} {b7 : (List (List Int))} {b : Nat} {j : Value} {i : Value} {l : Value} {m : Value} {n : Value} {aa : Value} {ab : Value} {t : Value} {d : Value} {ah : Value} {r : (List Fact) × (List Bool) × (List Int) × (List Int)} (hm : QU a b7 = some r) (hS : St w0 s (Res.box b 67 [j, i, l, m, n, aa, ab, t, d] :: Res.arr (Qc .i64) 3 aa a.vars :: Res.arr encFact 51 ab a.atoms :: Res.arr encBool 4 t a.grouped :: Res.arr (Qc .i64) 3 d a.fluents :: H) w) (cz : SliceRep encAtom s j a.g.Atoms) (aG : SliceRep encGFluent s i a.g.Fluents) (c0 : SliceRep (Qc .i64) s l a.g.Init) (c1 : SliceRep encCond s m a.g.Goal) (c2 : SliceRep encGOp s n a.g.Ops) (c3 : SliceRep (Qp (Qc .i64)) s ah b7) :
  Calls Tryz.prog 22 #[Value.pointer (some ⟨b, 0, none⟩), ah] w fun e w' => ∃ v, e = .returned v ∧ ((un4 fun (eG : (List Fact)) (eH : (List Bool)) (dD : (List Int)) (dE : (List Int)) => ∃ (bZ : PHeap) (cr : Value) (ct : Value) (cu : Value) (cv : Value), PHeap.le s bZ ∧ St w0 bZ (Res.box b 67 [j, i, l, m, n, cr, cu, cv, ct] :: Res.arr (Qc .i64) 3 cr dD :: Res.arr encFact 51 ab a.atoms :: Res.arr encBool 4 t a.grouped :: Res.arr (Qc .i64) 3 ct dE :: Res.arr encFact 51 cu eG :: Res.arr encBool 4 cv eH :: H) w' ∧ v = Value.tuple #[]) r) := by
 unfold QU at hm
 refine Ql Tryz.func22 Z Z ?_
 obtain ⟨dF, dO, hm⟩ := Zg hm
 refine G ?_
 refine Yg (E := encBool) hS S65.h Z4 Z Z Z Z dO ?_
 intro u gv aH
 refine G ?_
 refine Q2 (aH) S65.h Z Z ?_
 obtain ⟨aV, c8, hm⟩ := Zg hm
 refine G ?_
 refine QS (fun k' s' f' w' => (fun (aV : (List Bool)) => ∃ (ca : PHeap) , PHeap.le s ca ∧ St w0 ca (Res.box b 67 [j, i, l, m, n, aa, ab, t, d] :: Res.arr (Qc .i64) 3 aa a.vars :: Res.arr encFact 51 ab a.atoms :: Res.arr encBool 4 t a.grouped :: Res.arr (Qc .i64) 3 d a.fluents :: Res.arr encBool 4 u aV :: H) w' ∧ Fx f' [(25, O (k' : Int)), (0, Vq b), (1, ah), (4, u), (24, O ((dF.length : Int)))]) s') c8 ?_ ?_ ?_
 ·have cV := aH.f5
  exact ⟨s, (Zv _), (((cV.f5).f5).f5).f5, (Fx.mk)⟩
 ·intro fV aV ep fk gw d3 cF au
  obtain ⟨er, dG, b8, ⟨fl, rfl⟩⟩ := cF
  obtain ⟨hl, be, au⟩ := Zg au
  obtain ⟨fN, eS, b0⟩ := (b8.f5).arr_at be
  refine G ?_
  refine Qn S65.h Z b0 Z (Qr be).1 (Qr be).2.1 ?_
  obtain ⟨fY, dP, au⟩ := Zg au
  refine G ?_
  refine Js b8.f5 b0 A4.h Z Z Z Z (KK.2 Z) dP ?_
  intro gx cW
  have eZ := Zu au
  subst ep
  refine G ?_
  exact ⟨er, dG, ((((cW.f5).f5).f5).f5).f5, (Fx.mk (FxL.cons (J5 d3 aH.arr_le) fxl))⟩
 intro fm gy cG
 obtain ⟨gn, ag, cX, ⟨fn, rfl⟩⟩ := cG
 obtain ⟨cy, dQ, hm⟩ := Zg hm
 refine G ?_
 refine Tc Z Z Z (Zi Z Qx) (Qch dQ cX (cz.mono ag) (aG.mono ag) (c0.mono ag) (c1.mono ag) (c2.mono ag)).r ?_
 rintro cw gz ⟨cb, _, a3, cY, rfl, bX⟩
 obtain ⟨a4, c9, hm⟩ := Zg hm
 refine G ?_
 refine QS (fun k' s' f' w' => (fun (a4 : (List Bool)) => ∃ (cc : PHeap) , PHeap.le cb cc ∧ St w0 cc (Res.box b 67 [j, i, l, m, n, aa, ab, t, d] :: Res.arr (Qc .i64) 3 aa a.vars :: Res.arr encFact 51 ab a.atoms :: Res.arr encBool 4 t a.grouped :: Res.arr (Qc .i64) 3 d a.fluents :: Res.arr encBool 4 u a4 :: H) w' ∧ Fx f' [(38, O (k' : Int)), (0, Vq b), (1, ah), (4, u), (36, cw), (37, O ((cy.length : Int)))]) s') c9 ?_ ?_ ?_
 ·have cZ := cY.f5
  exact ⟨cb, (Zv _), ((((cZ.f5).f5).f5).f5).f5, (Fx.mk)⟩
 ·intro dB a4 et fo g0 d4 cH av
  obtain ⟨cd, bK, b9, ⟨fp, rfl⟩⟩ := cH
  obtain ⟨eE, dR, av⟩ := Zg av
  refine G ?_
  refine QJ S41.h Z Z Z (bX.mono bK) dR ?_
  intro eI gj c4
  refine G ?_
  refine Zw (E := encCond) b9 A85.h Z Z Z c4 ?_
  intro gp dS
  obtain ⟨co, bp, cp, rfl, el, bl, em⟩ := KJ.1 dS
  refine G ?_
  refine Exec.alloc (cs := [Vn, Vn, Vn]) b9 Z85 Z Z ?_
  intro eJ g1 da
  refine G ?_
  refine Qe (ds := [co, bp, cp]) (es := [co, bp, cp]) da A85.h Z Z Z Z (Zj el.one (Zj bl.one (Zj em.one Qk))) (Nat.le_of_ble_eq_true Z) Z ?_
  intro g2 db
  obtain ⟨aW, cA, av⟩ := Zg av
  refine G ?_
  refine QS (fun k' s' f' w' => (fun (aW : (List Bool)) => ∃ (ce : PHeap) , PHeap.le cd ce ∧ St w0 ce (Res.box b 67 [j, i, l, m, n, aa, ab, t, d] :: Res.arr (Qc .i64) 3 aa a.vars :: Res.arr encFact 51 ab a.atoms :: Res.arr encBool 4 t a.grouped :: Res.arr (Qc .i64) 3 d a.fluents :: Res.arr encBool 4 u aW :: H) w' ∧ Fx f' [(45, O (k' : Int)), (0, Vq b), (1, ah), (4, u), (36, cw), (37, O ((cy.length : Int))), (38, O ((dB : Int))), (43, bp), (44, O ((eE.Neg.length : Int)))]) s') cA ?_ ?_ ?_
  ·have dc := db.drop
   exact ⟨cd, (Zv _), (((((dc.f5).f5).f5).f5).f5).f5, (Fx.mk)⟩
  ·intro fW aW eu fq g3 d5 cI al
   obtain ⟨ev, bL, aI, ⟨fr, rfl⟩⟩ := cI
   obtain ⟨hn, dT, al⟩ := Zg al
   refine G ?_
   refine QJ S22.h Z Z Z (bl.mono bL) dT ?_
   intro eK gk c5
   refine G ?_
   refine Zw (E := (Qc .i64)) aI A3.h Z Z Z c5 ?_
   intro gq dU
   obtain rfl := Qm.1 dU
   obtain ⟨ho, bf, al⟩ := Zg al
   obtain ⟨fO, eT, b1⟩ := (aI.f5).arr_at bf
   refine G ?_
   refine Qn S65.h Z b1 Z (Qr bf).1 (Qr bf).2.1 ?_
   obtain ⟨fZ, dV, al⟩ := Zg al
   refine G ?_
   refine Js aI.f5 b1 A4.h Z Z Z Z (KK.2 Z) dV ?_
   intro g4 dd
   have fa := Zu al
   subst eu
   refine G ?_
   exact ⟨ev, bL, ((((dd.f5).f5).f5).f5).f5, (Fx.mk (FxL.cons (J5 d5 (SliceRep.le bl)) fxl))⟩
  intro fs g5 cJ
  obtain ⟨ew, dH, de, ⟨ft, rfl⟩⟩ := cJ
  have fb := Zu av
  subst et
  refine G ?_
  exact ⟨ew, (Zt bK dH), (((((de.f5).f5).f5).f5).f5).f5, (Fx.mk (FxL.cons (J5 d4 (SliceRep.le bX)) fxl))⟩
 intro fu g6 cK
 obtain ⟨aA, a5, a0, ⟨fv, rfl⟩⟩ := cK
 obtain ⟨dI, bW, hm⟩ := Zg hm
 obtain ⟨dJ, bg, hm⟩ := Zg hm
 refine Zc (Zd (g ?_))
 refine Zc (KQ (Zx (decide_eq_false (by omega))) (Qcl (K8 (K8 (QaI (Ze (Zc (Qs (M := fun f' w' => ∃ (cf : PHeap) (o : Value) (p : Value), PHeap.le aA cf ∧ St w0 cf (Res.box b 67 [j, i, l, m, n, aa, o, p, d] :: Res.arr (Qc .i64) 3 aa a.vars :: Res.arr encFact 51 ab a.atoms :: Res.arr encBool 4 t a.grouped :: Res.arr (Qc .i64) 3 d a.fluents :: Res.arr encBool 4 u a4 :: Res.arr encFact 51 o dI :: Res.arr encBool 4 p dJ :: H) w' ∧ Fx f' [(0, Vq b), (1, ah), (4, u)]) ?_ ?_))))))))
 ·refine KM (n0 := 11) (qs 0 4 (.q 5 (.q 6 (.alt (.e 4 [0, 1, 5, 6] (.q 8 (.q 9 (.alt (.e 7 [0, 1, 8, 9] (.e 10 [1] .done)) (.e 10 [1, 5, 6] (.e 7 [1] .done)))))) (.e 7 [0, 1, 2, 3] (.e 4 [0, 1] (.q 8 (.q 9 (.e 10 [1] .done))))))))) KL (by kernel_rfl) (by kernel_rfl) (G ?_)
  refine Q2 ((a0.drew).f5) S65.h Z Z ⟨Z, ?_⟩
  refine G ?_
  refine Q2 ((a0.drew).f5) S65.h Z Z ⟨Z, ?_⟩
  refine QH ?_ ?_
  ·refine G ?_
   refine Yg (E := encFact) (y := (⟨0, 0⟩ : Fact)) a0.drew S24.h Z51 ⟨[O 0], [O 0], Z, Z, Z⟩ Z Z Z bW ?_
   intro aj g7 ar
   refine ⟨(Qa (U Z Z (Zm (v := Vq b) Z Z ⟨Z, Z⟩)) (Qa (U Z Z (Zm (v := Vq b) Z Z ⟨Z, Z⟩)) (Qa (U Z Z (Zm (v := u) Z Z ⟨Z, Z⟩)) (Qa (U Z Z (Q2 (ar.f6) S65.h Z Z ⟨Z, Z⟩)) Qi)))), ?_⟩
   refine G ?_
   refine QH ?_ ?_
   ·refine G ?_
    refine Yg (E := encBool) ar S65.h Z4 Z Z Z Z bg ?_
    intro bq g8 aJ
    refine ⟨(Qa (U Z Z (Zm (v := Vq b) Z Z ⟨Z, Z⟩)) (Qa (U Z Z (Zm (v := Vq b) Z Z ⟨Z, Z⟩)) (Qa (U Z Z (Qb Z Z ⟨Z, Z⟩)) (Qa (U Z Z (Zp F67_2.h Z Z Z ⟨Z, Z⟩)) Qi)))), ?_⟩
    refine G ?_
    refine Qe (ds := [aj]) (es := [j, i, l, m, n, aa, aj, t, d]) aJ.f2 A24.h Z Z Z (Qj ((aJ.f2).f2).arr_one) (Zj ((aJ.f2).f2).arr_one Qk) (Nat.le_of_ble_eq_true Z) Z ?_
    intro g9 aK
    refine ⟨(Qa (U Z Z (Zm (v := Vq b) Z Z ⟨Z, Z⟩)) Qi), ?_⟩
    refine G ?_
    refine Qe (ds := [bq]) (es := [j, i, l, m, n, aa, aj, bq, d]) aK A65.h Z Z Z (Qj (aK.f1).arr_one) (Zj (aK.f1).arr_one Qk) (Nat.le_of_ble_eq_true Z) Z ?_
    intro gA df
    refine G ?_
    exact ⟨aA, aj, bq, (Zv _), (((((((df.f1).f2).f7).f7).f7).f7).f7).f7, (Fx.mk)⟩
   refine G ?_
   refine Qe (ds := [aj]) (es := [j, i, l, m, n, aa, aj, t, d]) ar.f1 A24.h Z Z Z (Qj ((ar.f1).f1).arr_one) (Zj ((ar.f1).f1).arr_one Qk) (Nat.le_of_ble_eq_true Z) Z ?_
   intro gB bA
   refine ⟨(Qa (U Z Z (Zm (v := Vq b) Z Z ⟨Z, Z⟩)) (Qa (U Z Z (Zm (v := u) Z Z ⟨Z, Z⟩)) (Qa (U Z Z (Q2 (bA.f6) S65.h Z Z ⟨Z, Z⟩)) Qi))), ?_⟩
   refine G ?_
   refine Yg (E := encBool) bA S65.h Z4 Z Z Z Z bg ?_
   intro br gC aL
   refine ⟨(Qa (U Z Z (Zm (v := Vq b) Z Z ⟨Z, Z⟩)) Qi), ?_⟩
   refine G ?_
   refine Qe (ds := [br]) (es := [j, i, l, m, n, aa, aj, br, d]) aL.f1 A65.h Z Z Z (Qj ((aL.f1).f1).arr_one) (Zj ((aL.f1).f1).arr_one Qk) (Nat.le_of_ble_eq_true Z) Z ?_
   intro gD dg
   refine G ?_
   exact ⟨aA, aj, br, (Zv _), (((((((dg.f1).f2).f7).f7).f7).f7).f7).f7, (Fx.mk)⟩
  refine G ?_
  refine Yg (E := encBool) a0.drew S65.h Z4 Z Z Z Z bg ?_
  intro bs gE bB
  refine ⟨(Qa (U Z Z (Zm (v := Vq b) Z Z ⟨Z, Z⟩)) (Qa (U Z Z (Zm (v := Vq b) Z Z ⟨Z, Z⟩)) (Qa (U Z Z (Zm (v := u) Z Z ⟨Z, Z⟩)) (Qa (U Z Z (Q2 (bB.f6) S65.h Z Z ⟨Z, Z⟩)) Qi)))), ?_⟩
  refine G ?_
  refine Yg (E := encFact) (y := (⟨0, 0⟩ : Fact)) bB S24.h Z51 ⟨[O 0], [O 0], Z, Z, Z⟩ Z Z Z bW ?_
  intro aC gF aM
  refine ⟨(Qa (U Z Z (Zm (v := Vq b) Z Z ⟨Z, Z⟩)) (Qa (U Z Z (Zm (v := Vq b) Z Z ⟨Z, Z⟩)) Qi)), ?_⟩
  refine G ?_
  refine Qe (ds := [aC]) (es := [j, i, l, m, n, aa, aC, t, d]) aM.f2 A24.h Z Z Z (Qj ((aM.f2).f1).arr_one) (Zj ((aM.f2).f1).arr_one Qk) (Nat.le_of_ble_eq_true Z) Z ?_
  intro gG aN
  refine ⟨(Qa (U Z Z (Zm (v := Vq b) Z Z ⟨Z, Z⟩)) Qi), ?_⟩
  refine G ?_
  refine Qe (ds := [bs]) (es := [j, i, l, m, n, aa, aC, bs, d]) aN A65.h Z Z Z (Qj (aN.f2).arr_one) (Zj (aN.f2).arr_one Qk) (Nat.le_of_ble_eq_true Z) Z ?_
  intro gH dh
  refine G ?_
  exact ⟨aA, aC, bs, (Zv _), (((((((dh.f2).f2).f7).f7).f7).f7).f7).f7, (Fx.mk)⟩
 intro fw gI cS
 obtain ⟨bm, o, p, a6, di, ⟨fx, rfl⟩⟩ := cS
 obtain ⟨bx, cB, fU, d9, d2⟩ := Qu hm
 refine g ?_
 refine Zc (Qs (M := fun f' w' => ∃ s', (bx = .next s' ∨ bx = .brk s') ∧ (un4 fun (bM : (List Int)) (bN : (List Bool)) (a7 : (List Fact)) (aw : (List Bool)) => ∃ (cg : PHeap) (aD : Value), PHeap.le bm cg ∧ St w0 cg (Res.box b 67 [j, i, l, m, n, aD, o, p, d] :: Res.arr (Qc .i64) 3 aD bM :: Res.arr encFact 51 ab a.atoms :: Res.arr encBool 4 t a.grouped :: Res.arr (Qc .i64) 3 d a.fluents :: Res.arr encBool 4 u bN :: Res.arr encFact 51 o a7 :: Res.arr encBool 4 p aw :: H) w' ∧ Fx f' [(0, Vq b), (1, ah), (4, u)]) s') ?_ ?_)
 ·refine G ?_
  refine Ym (fun s' f' w' => (un4 fun (ax : (List Int)) (bO : (List Bool)) (bP : (List Fact)) (bQ : (List Bool)) => ∃ (ch : PHeap) (an : Value), PHeap.le bm ch ∧ St w0 ch (Res.box b 67 [j, i, l, m, n, an, o, p, d] :: Res.arr (Qc .i64) 3 an ax :: Res.arr encFact 51 ab a.atoms :: Res.arr encBool 4 t a.grouped :: Res.arr (Qc .i64) 3 d a.fluents :: Res.arr encBool 4 u bO :: Res.arr encFact 51 o bP :: Res.arr encBool 4 p bQ :: H) w' ∧ Fx f' [(0, Vq b), (1, ah), (4, u)]) s') cB ?_ ?_
  ·have dj := di.f7
   exact ⟨bm, aa, (Zv _), ((((((dj.f7).f7).f7).f7).f7).f7).f7, (Fx.mk)⟩
  intro e5 bz fy gJ cL x dA
  obtain ⟨ax, bO, bP, bQ⟩ := e5
  replace x := Qhg x
  obtain ⟨go, an, aX, dk, ⟨fz, rfl⟩⟩ := cL
  obtain ⟨ht, dW, x⟩ := Zg x
  refine G ?_
  refine Tc Z Z Z (Zi Z (Zi Z Qx)) (Qcw dW dk.f5 (c3.mono (Zt (Zt (Zt (Zt ag a3) a5) a6) aX))).r ?_
  rintro gr gK ⟨bn, _, bR, bC, rfl, en⟩
  refine G ?_
  rcases JV x with ⟨aT, x⟩ | ⟨aT, x⟩
  ·have fc := Zu x
   subst bz
   refine G ?_
   refine ⟨_, .inr (dA (by intro _ h; cases h)), ?_⟩; exact ⟨bn, an, (Zt aX bR), (((((((bC.f7).f7).f2).f7).f7).f7).f7).f7, (Fx.mk)⟩
  replace aT := Zk aT
  refine G ?_
  refine Qc7 Z Z Z ?_
  obtain ⟨aq, dX, x⟩ := Zg x
  refine G ?_
  refine QcT S22.h Z Z Z en dX ?_
  intro cx bY
  obtain ⟨e6, cC, x⟩ := Zg x
  refine G ?_
  refine QS (fun k' s' f' w' => (un3 fun (aY : (List Bool)) (aZ : (List Fact)) (ba : (List Bool)) => ∃ (ci : PHeap) , PHeap.le bn ci ∧ St w0 ci (Res.box b 67 [j, i, l, m, n, an, o, p, d] :: Res.arr (Qc .i64) 3 an ax :: Res.arr encFact 51 ab a.atoms :: Res.arr encBool 4 t a.grouped :: Res.arr (Qc .i64) 3 d a.fluents :: Res.arr encBool 4 u aY :: Res.arr encFact 51 o aZ :: Res.arr encBool 4 p ba :: H) w' ∧ Fx f' [(79, O (k' : Int)), (0, Vq b), (1, ah), (4, u), (10, cx), (77, cx), (78, O ((aq.length : Int)))]) s') cC ?_ ?_ ?_
  ·have dl := bC.f7
   exact ⟨bn, (Zv _), ((((((dl.f7).f2).f7).f7).f7).f7).f7, (Fx.mk)⟩
  ·intro bJ e7 ex f0 gL d6 cM z
   obtain ⟨aY, aZ, ba⟩ := e7
   replace z := QbP z
   obtain ⟨ey, bS, ak, ⟨f8, rfl⟩⟩ := cM
   obtain ⟨bw, dY, z⟩ := Zg z
   refine G ?_
   refine QJ S22.h Z Z Z (bY.mono bS) dY ?_
   intro eL gl c6
   refine G ?_
   refine Zw (E := (Qc .i64)) ak A3.h Z Z Z c6 ?_
   intro gs dZ
   obtain rfl := Qm.1 dZ
   refine G ?_
   refine KM (n0 := 24) (qs 0 21 (.e 21 [9, 10, 11] (.q 22 (.e 23 [10, 11] .done)))) KL (by kernel_rfl) (by kernel_rfl) (G ?_)
   refine Zn (ak.drew) A24.h Z Z Z ⟨Z, ?_⟩
   refine G ?_
   refine Zn (ak.drew) A65.h Z Z Z ⟨Z, ?_⟩
   refine G ?_
   refine Zn (ak.drew) A22.h Z Z Z ⟨Z, ?_⟩
   refine G ?_
   refine Q2 ((ak.drew).f1) S22.h Z Z ⟨Z, ?_⟩
   refine G ?_
   refine Exec.build Z (Qd (c := [O ((ax.length : Int))]) (Qf Z Z) (Qd (c := [O (IntKind.i64.wrap ((bJ : Int) + 1))]) (Qf Z Z) Qg)) (v := Value.agg #[O ((ax.length : Int)), O (IntKind.i64.wrap ((bJ : Int) + 1))]) (fun _ => by kernel_rfl) ⟨Z, ?_⟩
   obtain ⟨hp, bh, z⟩ := Zg z
   obtain ⟨fP, eU, b2⟩ := ((ak.drew).f6).arr_at bh
   refine G ?_
   refine Qn S24.h Z b2 Z (Qr bh).1 (Qr bh).2.1 ⟨Z, ?_⟩
   obtain ⟨ga, ea, z⟩ := Zg z
   refine G ?_
   refine Js (ak.drew).f6 b2 A51.h Z Z Z Z (Ju.2 Z) ea ?_
   intro gM bD
   refine ⟨(Qa (U Z Z (Zm (v := O bw) Z Z ⟨Z, Z⟩)) (Qa (U Z Z (Zm (v := u) Z Z ⟨Z, Z⟩)) (Qa (U Z Z (Zm (v := O bw) Z Z ⟨Z, Z⟩)) Qi))), ?_⟩
   obtain ⟨hq, bi, z⟩ := Zg z
   obtain ⟨fQ, eV, b3⟩ := (bD.f7).arr_at bi
   refine G ?_
   refine Qn S65.h Z b3 Z (Qr bi).1 (Qr bi).2.1 ⟨Z, ?_⟩
   obtain ⟨gb, eb, z⟩ := Zg z
   refine G ?_
   refine Js bD.f7 b3 A4.h Z Z Z Z (KK.2 Z) eb ?_
   intro gN bE
   refine ⟨(Qa (U Z Z (Zm (v := u) Z Z ⟨Z, Z⟩)) (Qa (U Z Z (Zm (v := O bw) Z Z ⟨Z, Z⟩)) Qi)), ?_⟩
   obtain ⟨hr, bj, z⟩ := Zg z
   obtain ⟨fR, eW, b4⟩ := (bE.f7).arr_at bj
   refine G ?_
   refine Qn S65.h Z b4 Z (Qr bj).1 (Qr bj).2.1 ?_
   obtain ⟨gc, ec, z⟩ := Zg z
   refine G ?_
   refine Js bE.f7 b4 A4.h Z Z Z Z (KK.2 Z) ec ?_
   intro gO dm
   have fd := Zu z
   subst ex
   refine G ?_
   exact ⟨ey, bS, (((((((dm.f1).f2).f2).f7).f7).f7).f7).f7, (Fx.mk (FxL.cons (J5 d6 (SliceRep.le bY)) fxl))⟩
  intro f9 gP cN
  obtain ⟨aY, aZ, ba⟩ := e6
  replace x := QbP x
  obtain ⟨ez, dK, dn, ⟨fA, rfl⟩⟩ := cN
  refine G ?_
  refine Exec.buildSlice (Te := 3) (cs := [O (IntKind.i64.wrap ((aq.length : Int) + 1))]) dn Z (Qd (c := [O (IntKind.i64.wrap ((aq.length : Int) + 1))]) (Qf Z Z) Qg) (fun _ => by kernel_rfl) ?_
  intro eM gQ dp
  obtain ⟨gd, ed, x⟩ := Zg x
  refine G ?_
  refine Qh (E := (Qc .i64)) (ys := [IntKind.i64.wrap ((aq.length : Int) + 1)]) dp.f2 S22.h Z3 Z (by decide) Z Z Z Z ⟨[O (IntKind.i64.wrap ((aq.length : Int) + 1))], [], Z, Z, Z⟩ Z ed ?_
  intro bt gR aO
  refine G ?_
  refine Qe (ds := [bt]) (es := [j, i, l, m, n, bt, o, p, d]) aO.f1 A22.h Z Z Z (Qj ((aO.f1).f1).arr_one) (Zj ((aO.f1).f1).arr_one Qk) (Nat.le_of_ble_eq_true Z) Z ?_
  intro gS dq
  have fe := Zu x
  subst bz
  refine G ?_
  refine ⟨_, Z, ?_⟩; exact ⟨ez, bt, (Zt (Zt aX bR) dK), (((((((dq.f7).f7).f7).f7).f7).f7).f7).f7, (Fx.mk)⟩
 rintro fB gT ⟨e8, bI, cT⟩
 have hm := bI.elim (d9 _) (d2 _)
 clear bI
 obtain ⟨bM, bN, a7, aw⟩ := e8
 replace hm := Qhg hm
 obtain ⟨cj, aD, bb, aP, ⟨fC, rfl⟩⟩ := cT
 refine G ?_
 refine Q2 (aP.f6) S24.h Z Z ?_
 obtain ⟨e9, cD, hm⟩ := Zg hm
 refine G ?_
 refine QS (fun k' s' f' w' => (QO fun (ay : (List Int)) (a8 : (List Fact)) => ∃ (ck : PHeap) (ao : Value), PHeap.le cj ck ∧ St w0 ck (Res.box b 67 [j, i, l, m, n, ao, o, p, d] :: Res.arr (Qc .i64) 3 ao ay :: Res.arr encFact 51 ab a.atoms :: Res.arr encBool 4 t a.grouped :: Res.arr (Qc .i64) 3 d a.fluents :: Res.arr encFact 51 o a8 :: Res.arr encBool 4 p aw :: H) w' ∧ Fx f' [(125, O (k' : Int)), (0, Vq b), (124, O ((a7.length : Int)))]) s') cD ?_ ?_ ?_
 ·have dr := (aP.f5).drop
  exact ⟨cj, aD, (Zv _), ((((((dr.f6).f6).f6).f6).f6).f6).f6, (Fx.mk)⟩
 ·intro dC eA e0 fD gU d7 cO ae
  obtain ⟨ay, a8⟩ := eA
  replace ae := Q3 ae
  obtain ⟨bo, ao, dL, ai, ⟨fE, rfl⟩⟩ := cO
  obtain ⟨eF, a9, ae⟩ := Zg ae
  obtain ⟨fS, eX, b5⟩ := (ai.f6).arr_at a9
  refine G ?_
  refine Qn S65.h Z b5 Z (Qr a9).1 (Qr a9).2.1 (G ?_)
  refine Qz (F := encBool) (ai.f6) b5 A4.h Z Z Z a9 (Sub.refl _) ?_
  intro eD ee
  obtain rfl : eD = Value.bool (eF) := KK.1 ee
  obtain ⟨aB, ad, ae⟩ := Zg ae
  refine g ?_
  refine Qs (M := fun f' w' => (QO fun (bT : (List Int)) (bU : (List Fact)) => ∃ (cl : PHeap) (aE : Value), PHeap.le bo cl ∧ St w0 cl (Res.box b 67 [j, i, l, m, n, aE, o, p, d] :: Res.arr (Qc .i64) 3 aE bT :: Res.arr encFact 51 ab a.atoms :: Res.arr encBool 4 t a.grouped :: Res.arr (Qc .i64) 3 d a.fluents :: Res.arr encFact 51 o bU :: Res.arr encBool 4 p aw :: H) w' ∧ Fx f' [(0, Vq b), (124, O ((a7.length : Int))), (125, O ((dC : Int)))]) aB) ?_ ?_
  ·rcases JV ad with ⟨aU, ad⟩ | ⟨aU, ad⟩
   ·refine G ?_
    refine KM (n0 := 11) (qs 0 11 .done) KL (by kernel_rfl) (by kernel_rfl) (G ?_)
    refine Zn (ai.drew) A24.h Z Z Z ⟨Z, ?_⟩
    refine G ?_
    refine Zn (ai.drew) A22.h Z Z Z ⟨Z, ?_⟩
    refine G ?_
    refine Q2 ((ai.drew).f1) S22.h Z Z ⟨Z, ?_⟩
    refine G ?_
    refine Exec.build Z (Qd (c := [O ((ay.length : Int))]) (Qf Z Z) (Qd (c := [O 1]) (Qf Z Z) Qg)) (v := Value.agg #[O ((ay.length : Int)), O 1]) (fun _ => by kernel_rfl) ⟨Z, ?_⟩
    obtain ⟨hs, bk, ad⟩ := Zg ad
    obtain ⟨fT, eY, b6⟩ := ((ai.drew).f5).arr_at bk
    refine G ?_
    refine Qn S24.h Z b6 Z (Qr bk).1 (Qr bk).2.1 ?_
    obtain ⟨gf, ef, ad⟩ := Zg ad
    refine G ?_
    refine Js (ai.drew).f5 b6 A51.h Z Z Z Z (Ju.2 Z) ef ?_
    intro gV dt
    refine G ?_
    refine Exec.buildSlice (Te := 3) (cs := [O 2]) dt Z (Qd (c := [O 2]) (Qf Z Z) Qg) (fun _ => by kernel_rfl) ?_
    intro eN gW du
    obtain ⟨gg, eg, ad⟩ := Zg ad
    refine G ?_
    refine Qh (E := (Qc .i64)) (ys := [2]) du.f3 S22.h Z3 Z (by decide) Z Z Z Z ⟨[O 2], [], Z, Z, Z⟩ Z eg ?_
    intro bu gX aQ
    refine G ?_
    refine Qe (ds := [bu]) (es := [j, i, l, m, n, bu, o, p, d]) aQ.f2 A22.h Z Z Z (Qj ((aQ.f2).f1).arr_one) (Zj ((aQ.f2).f1).arr_one Qk) (Nat.le_of_ble_eq_true Z) Z ?_
    intro gY dv
    have ff := Zu ad
    subst aB
    refine G ?_
    exact ⟨bo, bu, (Zv _), ((((((dv.f6).f3).f6).f6).f6).f6).f6, (Fx.mk)⟩
   replace aU := Zk aU
   have fg := Zu ad
   subst aB
   refine G ?_
   exact ⟨bo, ao, (Zv _), ((((((ai.f6).f6).f6).f6).f6).f6).f6, (Fx.mk)⟩
  intro fF gZ cU
  obtain ⟨bT, bU⟩ := aB
  replace ae := Q3 ae
  obtain ⟨e1, aE, dM, dw, ⟨fG, rfl⟩⟩ := cU
  have fh := Zu ae
  subst e0
  refine G ?_
  exact ⟨e1, aE, (Zt dL dM), ((((((dw.f6).f6).f6).f6).f6).f6).f6, (Fx.mk (FxL.cons (J5 d7 (aP.f6).arr_le) fxl))⟩
 intro fH ha cP
 obtain ⟨ay, a8⟩ := e9
 replace hm := Q3 hm
 obtain ⟨cm, ao, bc, dx, ⟨fI, rfl⟩⟩ := cP
 obtain ⟨eB, cE, hm⟩ := Zg hm
 refine G ?_
 refine QS (fun k' s' f' w' => (QO fun (am : (List Int)) (bd : (List Int)) => ∃ (cn : PHeap) (ap : Value) (az : Value), PHeap.le cm cn ∧ St w0 cn (Res.box b 67 [j, i, l, m, n, ap, o, p, az] :: Res.arr (Qc .i64) 3 ap am :: Res.arr encFact 51 ab a.atoms :: Res.arr encBool 4 t a.grouped :: Res.arr (Qc .i64) 3 az bd :: Res.arr encFact 51 o a8 :: Res.arr encBool 4 p aw :: H) w' ∧ Fx f' [(164, O (k' : Int)), (0, Vq b), (162, i), (163, O ((a.g.Fluents.length : Int)))]) s') cE ?_ ?_ ?_
 ·have dy := dx.f6
  exact ⟨cm, ao, d, (Zv _), (((((dy.f6).f6).f6).f6).f6).f6, (Fx.mk)⟩
 ·intro fX eC e2 fJ hb d8 cQ af
  obtain ⟨am, bd⟩ := eC
  replace af := Q3 af
  obtain ⟨e3, ap, az, bV, bF, ⟨fK, rfl⟩⟩ := cQ
  obtain ⟨ac, eh, af⟩ := Zg af
  refine G ?_
  refine QJ S40.h Z Z Z (aG.mono (Zt (Zt (Zt (Zt (Zt (Zt ag a3) a5) a6) bb) bc) bV)) eh ?_
  intro eO gm c7
  refine G ?_
  refine Zw (E := encGFluent) bF A74.h Z Z Z c7 ?_
  intro gu ei
  obtain ⟨cq, rfl, eo⟩ := Qad.1 ei
  refine G ?_
  refine Exec.alloc (cs := [Value.string (⟨#[]⟩), Vn, O 0, O 0, O 0]) bF Z74 Z Z ?_
  intro eP hc dz
  refine G ?_
  refine Qe (ds := [Value.string (ac.Fluent.Name), cq, O (ac.Lo), O (ac.Hi), O (ac.Init)]) (es := [Value.string (ac.Fluent.Name), cq, O (ac.Lo), O (ac.Hi), O (ac.Init)]) dz A74.h Z Z Z Z (Zj Z (Zj eo.one (Zj Z (Zj Z (Zj Z Qk))))) (Nat.le_of_ble_eq_true Z) Z ?_
  intro hd a1
  refine G ?_
  refine KM (n0 := 12) (qs 0 10 (.e 10 [0, 1, 2, 3, 4] (.e 11 [0] .done))) KL (by kernel_rfl) (by kernel_rfl) (G ?_)
  refine Zn ((a1.drew).f1) A22.h Z Z Z ⟨Z, ?_⟩
  refine G ?_
  refine Zn ((a1.drew).f1) A22.h Z Z Z ⟨Z, ?_⟩
  refine G ?_
  refine Q2 ((a1.drew).f2) S22.h Z Z ⟨Z, ?_⟩
  refine G ?_
  refine Exec.buildSlice (Te := 3) (cs := [O ((am.length : Int))]) a1.drew Z (Qd (c := [O ((am.length : Int))]) (Qf Z Z) Qg) (fun _ => by kernel_rfl) ?_
  intro eQ he bG
  refine ⟨(Qa (U Z Z (Zm (v := Vq b) Z Z ⟨Z, Z⟩)) (Qa (U Z Z (Zm (v := Vq b) Z Z ⟨Z, Z⟩)) (Qa (U Z Z (Qb Z Z ⟨Z, Z⟩)) (Qa (U Z Z (Zp F67_4.h Z Z Z ⟨Z, Z⟩)) (Qa (U Z Z (Zn (bG.f2) A22.h Z Z Z ⟨Z, Z⟩)) Qi))))), ?_⟩
  obtain ⟨gh, ej, af⟩ := Zg af
  refine G ?_
  refine Qh (E := (Qc .i64)) (ys := [(am.length : Int)]) bG.f6 S22.h Z3 Z (by decide) Z Z Z Z ⟨[O ((am.length : Int))], [], Z, Z, Z⟩ Z ej ?_
  intro aF hf aR
  refine ⟨(Qa (U Z Z (Zm (v := Vq b) Z Z ⟨Z, Z⟩)) Qi), ?_⟩
  refine G ?_
  refine Qe (ds := [aF]) (es := [j, i, l, m, n, ap, o, p, aF]) aR.f2 A22.h Z Z Z (Qj ((aR.f2).f1).arr_one) (Zj ((aR.f2).f1).arr_one Qk) (Nat.le_of_ble_eq_true Z) Z ?_
  intro hg a2
  refine G ?_
  refine KM (n0 := 13) (qs 0 11 (.e 11 [0, 1, 2, 3, 4] (.e 12 [0] .done))) KL (by kernel_rfl) (by kernel_rfl) (G ?_)
  refine Zn (a2.drew) A22.h Z Z Z ⟨Z, ?_⟩
  refine G ?_
  refine Zn ((a2.drew).f2) A3.h Z Z Z ⟨Z, ?_⟩
  refine G ?_
  refine Zn ((a2.drew).f2) A3.h Z Z Z ⟨Z, ?_⟩
  refine G ?_
  refine Exec.buildSlice (Te := 3) (cs := [O (IntKind.i64.wrap ((IntKind.i64.wrap (ac.Hi - ac.Lo)) + 1))]) a2.drew Z (Qd (c := [O (IntKind.i64.wrap ((IntKind.i64.wrap (ac.Hi - ac.Lo)) + 1))]) (Qf Z Z) Qg) (fun _ => by kernel_rfl) ?_
  intro eR hh bH
  refine ⟨(Qa (U Z Z (Zm (v := Vq b) Z Z ⟨Z, Z⟩)) (Qa (U Z Z (Zm (v := Vq b) Z Z ⟨Z, Z⟩)) (Qa (U Z Z (Qb Z Z ⟨Z, Z⟩)) (Qa (U Z Z (Zp F67_1.h Z Z Z ⟨Z, Z⟩)) (Qa (U Z Z (Zn (bH.f1) A22.h Z Z Z ⟨Z, Z⟩)) Qi))))), ?_⟩
  obtain ⟨gi, ek, af⟩ := Zg af
  refine G ?_
  refine Qh (E := (Qc .i64)) (ys := [IntKind.i64.wrap ((IntKind.i64.wrap (ac.Hi - ac.Lo)) + 1)]) bH.f4 S22.h Z3 Z (by decide) Z Z Z Z ⟨[O (IntKind.i64.wrap ((IntKind.i64.wrap (ac.Hi - ac.Lo)) + 1))], [], Z, Z, Z⟩ Z ek ?_
  intro bv hi aS
  refine ⟨(Qa (U Z Z (Zm (v := Vq b) Z Z ⟨Z, Z⟩)) Qi), ?_⟩
  refine G ?_
  refine Qe (ds := [bv]) (es := [j, i, l, m, n, bv, o, p, aF]) aS.f1 A22.h Z Z Z (Qj ((aS.f1).f1).arr_one) (Zj ((aS.f1).f1).arr_one Qk) (Nat.le_of_ble_eq_true Z) Z ?_
  intro hj d0
  have fi := Zu af
  subst e2
  refine G ?_
  exact ⟨e3, bv, aF, bV, ((((((((d0.f3).drop).f6).f6).f4).f6).f6).f6).f6, (Fx.mk (FxL.cons (J5 d8 (SliceRep.le (aG.mono (Zt (Zt (Zt (Zt (Zt ag a3) a5) a6) bb) bc)))) fxl))⟩
 intro fL hk cR
 obtain ⟨am, bd⟩ := eB
 replace hm := Q3 hm
 obtain ⟨e4, ap, az, dN, d1, ⟨fM, rfl⟩⟩ := cR
 have fj := Zu hm
 subst r
 refine G ?_
 refine ⟨_, QiE Z, ?_⟩
 exact ⟨e4, ap, az, o, p, (Zt (Zt (Zt (Zt (Zt (Zt ag a3) a5) a6) bb) bc) dN), ((((((d1.f6).f6).f6).f6).f6).f6).f6, Z⟩
theorem Qlx : JF Tryz.prog 106 = some (Value.agg #[Value.string ⟨#[]⟩, O 0, Value.slice none 0 0]) := by kernel_rfl
theorem Qcg {fu : Nat} (ih : ∀ {w0 w : World} {s : PHeap} {H : List Res} {a : GExpr} {l : Q0} {d : Value} {b : Nat} {r : Q0} (hm : Q7 fu a l = some r) (hS : St w0 s (Res.bmap Tryz.prog 3 4 b l :: H) w) (x : SliceRep encGExpr s d a.Kids), Calls Tryz.prog 72 #[Value.agg #[Value.string (a.Op), O (a.N), d], Value.map (some b)] w fun e w' => ∃ v, e = .returned v ∧ ((fun (m : Q0) => ∃ (j : PHeap) , PHeap.le s j ∧ St w0 j (Res.bmap Tryz.prog 3 4 b m :: H) w' ∧ v = Value.tuple #[]) r)) {w0 w : World} {s : PHeap} {H : List Res} {a : GExpr} {l : Q0} {d : Value} {b : Nat} {r : Q0} (hm : Q7 (fu + 1) a l = some r) (hS : St w0 s (Res.bmap Tryz.prog 3 4 b l :: H) w) (x : SliceRep encGExpr s d a.Kids) :
  Calls Tryz.prog 72 #[Value.agg #[Value.string (a.Op), O (a.N), d], Value.map (some b)] w fun e w' => ∃ v, e = .returned v ∧ ((fun (m : Q0) => ∃ (j : PHeap) , PHeap.le s j ∧ St w0 j (Res.bmap Tryz.prog 3 4 b m :: H) w' ∧ v = Value.tuple #[]) r) := by
 rw [Q7] at hm
 refine Ql Tryz.func72 Z Z (G ?_)
 refine JH Z Z ?_
 intro p aH ad
 obtain ⟨n, c, hm⟩ := Zg hm
 refine g ?_
 refine Zc (Zc (Zd (g ?_)))
 refine Qs (M := fun f' w' => (fun (n : Q0) => ∃ (t : PHeap) , PHeap.le s t ∧ St w0 t (Res.bmap Tryz.prog 3 4 b n :: Res.box p 106 [Value.string (a.Op), O (a.N), d] :: H) w' ∧ Fx f' [(1, Value.map (some b)), (2, Vq p)]) n) ?_ ?_
 ·rcases Qv c with ⟨ag, c⟩ | ⟨ag, c⟩
  ·obtain ⟨a9, ah, c⟩ := Zg c
   refine G ?_
   refine Kg ad.f1 ⟨Tryz.underlying100, Tryz.underlying3, Tryz.underlying4⟩ Z Z Z Z ah ?_
   intro aI ax
   cases c
   refine G ?_
   exact fq
  cases c
  refine G ?_
  exact fq
 intro ap aJ ac
 obtain ⟨am, a4, ae, ⟨aq, rfl⟩⟩ := ac
 obtain ⟨o, z, hm⟩ := Zg hm
 refine G ?_
 refine QS (fun k' s' f' w' => (fun (o : Q0) => ∃ (u : PHeap) , PHeap.le am u ∧ St w0 u (Res.bmap Tryz.prog 3 4 b o :: H) w' ∧ Fx f' [(15, O (k' : Int)), (1, Value.map (some b)), (13, d), (14, O ((a.Kids.length : Int)))]) s') z ?_ ?_ ?_
 ·have ay := (ae.f1).drop
  exact fq
 ·intro a3 o aB ar aK a2 aa i
  obtain ⟨aC, a5, q, ⟨au, rfl⟩⟩ := aa
  obtain ⟨aP, ai, i⟩ := Zg i
  refine G ?_
  refine QI Z Z Z ai ?_
  intro an aA y
  refine G ?_
  refine Zw (E := encGExpr) q A106.h Z Z Z y ?_
  intro aG aj
  obtain ⟨aF, rfl, al⟩ := Kc.1 aj
  refine G ?_
  refine Exec.alloc (cs := [Value.string (⟨#[]⟩), O 0, Vn]) q Qlx Z Z ?_
  intro ao aL az
  refine G ?_
  refine Xst Z Z Z ?_
  intro aM af
  obtain ⟨a6, ak, i⟩ := Zg i
  refine G ?_
  refine Tc Z Z Z Z (ih ak af.f1 al).r ?_
  rintro _ aN ⟨aD, a7, a0, rfl⟩
  cases i
  refine G ?_
  exact fq
 intro av aO ab
 obtain ⟨aE, a8, a1, ⟨aw, rfl⟩⟩ := ab
 cases hm
 refine G ?_
 refine ⟨_, QiE Z, ?_⟩
 exact fq
theorem JX {fu : Nat} : ∀ {w0 w : World} {s : PHeap} {H : List Res} {a : GExpr} {d : Q0} {f : Value} {b : Nat} {r : Q0} (hm : Q7 fu a d = some r) (hS : St w0 s (Res.bmap Tryz.prog 3 4 b d :: H) w) (h : SliceRep encGExpr s f a.Kids), Calls Tryz.prog 72 #[Value.agg #[Value.string (a.Op), O (a.N), f], Value.map (some b)] w fun e w' => ∃ v, e = .returned v ∧ ((fun (g : Q0) => ∃ (c : PHeap) , PHeap.le s c ∧ St w0 c (Res.bmap Tryz.prog 3 4 b g :: H) w' ∧ v = Value.tuple #[]) r) := by
 induction fu with
 | zero => intros; rename_i hm _ _; rw [Q7] at hm; cases hm
 | succ fu ih => exact Qcg ih
end Go.Pw
