/- -/
import Derived.Test.YtpjojkomdndamaaGreatDoorL27
import Derived.Test.YtpjojkomdndamaaGreatDoorMa5
import Derived.Test.YtpjojkomdndamaaGreatDoorMaDl
set_option maxRecDepth 100000
set_option maxHeartbeats 4000000
set_option linter.unusedVariables false
namespace Go.Pw
open Go.Proofs
theorem N82 : (Tryz.f82.name == "runtime.NumGoroutine") = false := by kernel_rfl
theorem QeQ {w0 w : World} {s : PHeap} {H : List Res} {d : System} {g : Int} {ag : Value} {ah : Value} {ai : Value} {r : (List Int) × (Option Int)} (hm : Y5 d g = some r) (hS : St w0 s (H) w) (bw : SliceRep (Qa .i64) s ag d.Costs) (bx : SliceRep encEdge s ah d.Edges) (aE : SliceRep encBool s ai d.Goals) :
  Calls Tryz.prog 82 #[Value.agg #[U (d.States), U (d.Init), ag, ah, ai], U g] w fun e w' => ∃ v, e = .returned v ∧ ((J2 fun (dk : (List Int)) (dl : (Option Int)) => ∃ (bj : PHeap) (bs : Value), PHeap.le s bj ∧ St w0 bj (Res.arr (Qa .i64) 3 bs dk :: H) w' ∧ v = Value.tuple #[bs, QG 50 (dl)]) r) := by
 unfold Y5 at hm
 refine Qy Tryz.func82 Z Z (Zc (Zd (O Z Z (Exec.box (cs := [U (d.States), U (d.Init), ag, ah, ai]) hS Z Z Z ?_))))
 intro aF dY aN
 refine O Z Z (Zo (v := Vs none 0 0) Z Z (O Z Z (Zo (v := QG 50 (none)) Z Z (Zb (V (Zc (Zd (O Z Z (Qn (ds := [U (d.States), U (d.Init), ag, ah, ai]) (aN) KH Z Z Z ?_)))))))))
 obtain ⟨de, cK, hm⟩ := Zg hm
 obtain ⟨bv, u⟩ := de
 replace hm := Jf hm
 refine O Z Z (Exec.call Z Z Tryz.func83 Z N83 (Zi Z Qk) ((Qag cK aN bw bx aE).mono ?_))
 rintro _ dZ ⟨_, rfl, ⟨cW, a, aw, aO, rfl⟩⟩
 refine ⟨_, Z, ?_⟩
 refine O Z Z (Zm (v := Value.tuple #[a, QG 50 (u)]) Z Z (O Z Z (Exec.extract (v := a) Z Z Z (O Z Z (Exec.extract (v := QG 50 (u)) Z Z Z (O Z Z (Zo (v := a) Z Z (O Z Z (Zo (v := QG 50 (u)) Z Z (Zb (V (Zc (Zc (Zd (O Z Z (Zm (v := QG 50 (u)) Z Z (O Z Z (Je (T := 50) Tryz.underlying32 Z Z Z (Zb (V ?_))))))))))))))))))))
 rcases Qg hm with ⟨y, hm⟩ | ⟨y, hm⟩
 ·refine Qv Z y (Zc (Zd (O Z Z (Zm (v := QG 50 (u)) Z Z (O Z Z (Zo (v := Vs none 0 0) Z Z (O Z Z (Zo (v := QG 50 (u)) Z Z (Zb (V (Q1 (Qj ?_))))))))))))
  have du := Zu hm
  subst r
  refine ⟨_, Qbu Z, ?_⟩
  have bB := aO.nilArr (Qa .i64) 3
  have bC := (bB.f1).drop
  have bD := (bC.f1).drop
  exact ⟨cW, (Vs none 0 0), aw, bD, (KX Z Z)⟩
 refine Qw Z y ?_
 replace y := Zk y
 refine Qp (V (Zc (Zd (O Z Z (Zm (v := U g) Z Z (O Z Z (QeO Z Z Z (O Z Z (Qcy Z Z Z (O Z Z (Zo (v := U (max 1 (min g 4096))) Z Z (Zb (V (Zc (Zd (O Z Z (Zm (v := a) Z Z ?_)))))))))))))))))
 obtain ⟨et, cL, hm⟩ := Zg hm
 refine O Z Z (Exec.call Z Z Tryz.func109 Z QnG (Zi Z Qk) ((Y0 cL aO).mono ?_))
 rintro _ ea ⟨_, rfl, ⟨bk, aQ, bE, rfl⟩⟩
 refine ⟨_, Z, ?_⟩
 refine O Z Z (Exec.add Z Z Z ?_)
 obtain ⟨dI, cM, hm⟩ := Zg hm
 refine O Z Z (JX (E := encBool) bE S36 Z4 Z Z Z Z cM ?_)
 intro aj eb aq
 refine O Z Z (Zo (v := aj) Z Z (Zb (V (Zc (Zc (Zd (O Z Z (Zm (v := a) Z Z (O Z Z (QQ (aq.f1) Jt Z Z (O Z Z (Zm (v := U 0) Z Z (Zb (V ?_))))))))))))))
 obtain ⟨ax, b0, hm⟩ := Zg hm
 refine Qm (J3 (fun k' s' f' w' => (fun (ax : (List Bool)) => ∃ (bl : PHeap) , PHeap.le bk bl ∧ St w0 bl (Res.box aF 38 [U (d.States), U (d.Init), ag, ah, ai] :: Res.arr (Qa .i64) 3 a bv :: Res.arr encBool 4 aj ax :: H) w' ∧ f' 1 = U (max 1 (min g 4096)) ∧ f' 2 = Vp (some ⟨aF, 0, none⟩) ∧ f' 6 = a ∧ f' 8 = aj ∧ f' 30 = a ∧ f' 31 = U ((bv.length : Int)) ∧ f' 32 = U (k' : Int)) s') b0 ?_ ?_ ?_)
 ·have bF := aq.f1
  have bG := bF.f2
  exact ⟨bk, (Zv _), bG, Z, Z, Z, Z, Z, Z, Z⟩
 ·intro am ax cX d4 ec cn b3 j
  obtain ⟨cY, aR, t, c0, aV, c1, aW, aX, aY, ap⟩ := b3
  refine Zc (Zd (O Z Z (Zq Z ap aY (Zb (V (Zc (QK (Zx (decide_eq_true (by omega))) (Qp (V (Zc (Qm (Zc (Zd (O Z Z (Zm (v := U ((am : Int))) Z ap ?_)))))))))))))))
  obtain ⟨bu, ao, j⟩ := Zg j
  obtain ⟨dC, dn, aI⟩ := (t.f1).arr_at ao
  refine O Z Z (Qc Jt Z (Eq.trans aX aI) ap (Qe ao).1 (Qe ao).2.1 (O Z Z (Qt (F := (Qa .i64)) (t.f1) aI A3 Z Z Z ao (Sub.refl _) ?_)))
  intro dV cN
  obtain rfl := Qs.1 cN
  refine O Z Z (Zo (v := U ((am : Int))) Z Z (O Z Z (Zo (v := U bu) Z Z (Zb (V (Zd (O Z Z (Zm (v := aj) Z aW (O Z Z (Zm (v := U bu) Z Z (O Z Z (Zp Qbo Z aV Z (O Z Z (Zn (t) A36 Z Z Z (O Z Z (Zm (v := U ((am : Int))) Z Z ?_))))))))))))))))
  obtain ⟨ep, cO, j⟩ := Zg j
  refine O Z Z (Qu S36 Z Z Z (aE.mono (Zt (Zt aw aQ) aR)) cO ?_)
  intro dm dN bz
  refine O Z Z (Zw (E := encBool) t A4 Z Z Z bz ?_)
  intro dW cP
  obtain rfl := Ju.1 cP
  obtain ⟨er, a8, j⟩ := Zg j
  obtain ⟨dD, dp, aJ⟩ := (t.f2).arr_at a8
  refine O Z Z (Qc S36 Z aJ Z (Qe a8).1 (Qe a8).2.1 ?_)
  obtain ⟨dJ, cQ, j⟩ := Zg j
  have bH := t.f2
  refine O Z Z (QN bH aJ A4 Z Z Z Z (Ju.2 Z) cQ ?_)
  intro ed bI
  refine Zb (Qz (V (Zd (O Z Z (Exec.add Z ap Z (O Z Z (Zm (v := U (IntKind.i64.wrap ((am : Int) + 1))) Z Z (Zb (V ?_)))))))))
  have dv := Zu j
  subst cX
  have bJ := bI.f2
  have bK := bJ.f2
  exact ⟨cY, aR, bK, c0, aV, c1, aW, aX, aY, (Eq.trans Z (QB cn (aq.f1).arr_le))⟩
 intro d5 ee b4
 obtain ⟨aA, cr, bL, c2, dO, c3, c4, dP, c5, di⟩ := b4
 refine Zc (Zd (O Z Z (Zq Z di c5 (Zb (V (Zc (QA (Zx (decide_eq_false (by omega))) (QF (Ql (Ql (Q7 (V (Zc ?_)))))))))))))
 obtain ⟨aG, b1, dH, cp, cm⟩ := QO hm
 refine QJ (M := fun f' w' => ∃ s', (aG = .next s' ∨ aG = .brk s') ∧ (J2 fun (aS : (List Int)) (aT : (List Bool)) => ∃ (bm : PHeap) (aD : Value), PHeap.le aA bm ∧ St w0 bm (Res.arr (Qa .i64) 3 a aS :: Res.arr encBool 4 aD aT :: H) w' ∧ f' 1 = U (max 1 (min g 4096)) ∧ f' 6 = a ∧ f' 8 = aD) s') ?_ ?_
 ·refine Qm (Yy (fun s' f' w' => (J2 fun (ac : (List Int)) (ad : (List Bool)) => ∃ (bn : PHeap) (c : Value), PHeap.le aA bn ∧ St w0 bn (Res.arr (Qa .i64) 3 a ac :: Res.arr encBool 4 c ad :: H) w' ∧ f' 1 = U (max 1 (min g 4096)) ∧ f' 6 = a ∧ f' 8 = c) s') b1 ?_ ?_)
  ·have bM := bL.drop
   have bN := bM.f1
   have bO := bN.f1
   exact ⟨aA, aj, (Zv _), bO, c2, c3, c4⟩
  intro df aH d6 ef b5 b cq
  obtain ⟨ac, ad⟩ := df
  replace b := Jf b
  obtain ⟨cZ, c, aU, ar, az, a0, an⟩ := b5
  refine Zc (Zc (Zd (O Z Z (Zm (v := c) Z an (O Z Z (QQ (ar.f1) S36 Z Z (O Z Z (Zm (v := U (max 1 (min g 4096))) Z az (O Z Z (Exec.gtr Z Z Z (Zb (V ?_))))))))))))
  rcases Qg b with ⟨z, b⟩ | ⟨z, b⟩
  ·refine Qv Z z (Qp (V (Qm (Zc (Zd (O Z Z (Zm (v := c) Z an ?_)))))))
   obtain ⟨dg, cR, b⟩ := Zg b
   obtain ⟨q, i⟩ := dg
   replace b := Jf b
   have bP := ar.f1
   refine O Z Z (Exec.call Z Z Tryz.func110 Z QoF (Zi Z Qk) ((Qe1 cR bP).mono ?_))
   rintro _ eg ⟨_, rfl, ⟨bo, ct, au, rfl⟩⟩
   refine ⟨_, Z, ?_⟩
   refine O Z Z (Zm (v := Value.tuple #[U q, U i]) Z Z (O Z Z (Exec.extract (v := U q) Z Z Z (O Z Z (Exec.extract (v := U i) Z Z Z (O Z Z (Zo (v := U q) Z Z (O Z Z (Zo (v := U i) Z Z (Zb (V (Zc (Zc (Zd (O Z Z (Zm (v := a) Z a0 (O Z Z (QQ (au.f1) Jt Z Z (O Z Z (Zm (v := U 0) Z Z (Zb (V ?_))))))))))))))))))))))
   obtain ⟨ay, b2, b⟩ := Zg b
   refine Qm (J3 (fun k' s' f' w' => (fun (ay : (List Int)) => ∃ (bp : PHeap) , PHeap.le bo bp ∧ St w0 bp (Res.arr (Qa .i64) 3 a ay :: Res.arr encBool 4 c ad :: H) w' ∧ f' 1 = U (max 1 (min g 4096)) ∧ f' 6 = a ∧ f' 8 = c ∧ f' 11 = U q ∧ f' 12 = U i ∧ f' 55 = a ∧ f' 56 = U ((ac.length : Int)) ∧ f' 57 = U (k' : Int)) s') b2 ?_ ?_ ?_)
   ·have bQ := au.f1
    exact ⟨bo, (Zv _), bQ, az, a0, an, Z, Z, Z, Z, Z⟩
   ·intro m ay da d7 eh co b6 n
    obtain ⟨aB, cu, x, aZ, a1, ba, a2, a3, a4, a5, ak⟩ := b6
    refine Zc (Zd (O Z Z (Zq Z ak a5 (Zb (V (Zc (QK (Zx (decide_eq_true (by omega))) (Qp (V (Zc (Qm (Zc (Zd (O Z Z (Zm (v := U ((m : Int))) Z ak ?_)))))))))))))))
    obtain ⟨al, p, n⟩ := Zg n
    obtain ⟨dE, dq, aK⟩ := x.arr_at p
    refine O Z Z (Qc Jt Z (Eq.trans a4 aK) ak (Qe p).1 (Qe p).2.1 (O Z Z (Qt (F := (Qa .i64)) (x) aK A3 Z Z Z p (Sub.refl _) ?_)))
    intro dX cS
    obtain rfl := Qs.1 cS
    refine O Z Z (Zo (v := U ((m : Int))) Z Z (O Z Z (Zo (v := U al) Z Z (Zb (V (Zc (Zc (Zd (O Z Z (Zm (v := U al) Z Z (O Z Z (Zm (v := U i) Z a3 (O Z Z (Exec.eql Z Z Z (Zb (V ?_))))))))))))))))
    obtain ⟨ae, o, n⟩ := Zg n
    refine QJ (M := fun f' w' => (fun (ae : (List Int)) => ∃ (bq : PHeap) , PHeap.le aB bq ∧ St w0 bq (Res.arr (Qa .i64) 3 a ae :: Res.arr encBool 4 c ad :: H) w' ∧ f' 1 = U (max 1 (min g 4096)) ∧ f' 6 = a ∧ f' 8 = c ∧ f' 11 = U q ∧ f' 12 = U i ∧ f' 13 = U ((m : Int)) ∧ f' 14 = U al ∧ f' 55 = a ∧ f' 56 = U ((ac.length : Int)) ∧ f' 57 = U ((m : Int))) ae) ?_ ?_
    ·rcases Qg o with ⟨aa, o⟩ | ⟨aa, o⟩
     ·refine Qv Z aa (Zd (O Z Z (Zm (v := a) Z a1 (O Z Z (Zm (v := U ((m : Int))) Z Z (O Z Z (Zm (v := U q) Z a2 ?_)))))))
      obtain ⟨dF, dr, aL⟩ := x.arr_at p
      refine O Z Z (Qc Jt Z aL Z (Qe p).1 (Qe p).2.1 ?_)
      obtain ⟨dK, cT, o⟩ := Zg o
      refine O Z Z (QN x aL A3 Z Z Z Z (Qs.2 Z) cT ?_)
      intro ei bR
      refine Zb (V ?_)
      have dw := Zu o
      subst ae
      have bS := bR.f1
      have bT := bS.f1
      exact ⟨aB, (Zv _), bT, aZ, a1, ba, a2, a3, Z, Z, a4, a5, ak⟩
     refine Qw Z aa ?_
     replace aa := Zk aa
     refine Qp (V ?_)
     have dx := Zu o
     subst ae
     have bU := x.f1
     have bV := bU.f1
     exact ⟨aB, (Zv _), bV, aZ, a1, ba, a2, a3, Z, Z, a4, a5, ak⟩
    intro d8 ej b8
    obtain ⟨aC, cv, av, bb, a6, bc, bd, a7, c6, be, bf, bg, bh⟩ := b8
    refine (V (Zc (Zd (O Z Z (Zm (v := U al) Z be (O Z Z (Zm (v := U i) Z a7 (O Z Z (Exec.gtr Z Z Z (Zb (V ?_)))))))))))
    obtain ⟨af, l, n⟩ := Zg n
    refine QJ (M := fun f' w' => (fun (af : (List Int)) => ∃ (br : PHeap) , PHeap.le aC br ∧ St w0 br (Res.arr (Qa .i64) 3 a af :: Res.arr encBool 4 c ad :: H) w' ∧ f' 1 = U (max 1 (min g 4096)) ∧ f' 6 = a ∧ f' 8 = c ∧ f' 11 = U q ∧ f' 12 = U i ∧ f' 55 = a ∧ f' 56 = U ((ac.length : Int)) ∧ f' 57 = U ((m : Int))) af) ?_ ?_
    ·rcases Qg l with ⟨ab, l⟩ | ⟨ab, l⟩
     ·refine Qv Z ab (Zd (O Z Z (Zm (v := a) Z a6 (O Z Z (Zm (v := U ((m : Int))) Z c6 (O Z Z (Zm (v := U al) Z be (O Z Z (Exec.sub Z Z Z ?_)))))))))
      obtain ⟨es, a9, l⟩ := Zg l
      obtain ⟨dG, dt, aM⟩ := av.arr_at a9
      refine O Z Z (Qc Jt Z aM Z (Qe a9).1 (Qe a9).2.1 ?_)
      obtain ⟨dL, cU, l⟩ := Zg l
      refine O Z Z (QN av aM A3 Z Z Z Z (Qs.2 Z) cU ?_)
      intro ek bW
      refine Zb (V ?_)
      have dy := Zu l
      subst af
      have bX := bW.f1
      have bY := bX.f1
      exact ⟨aC, (Zv _), bY, bb, a6, bc, bd, a7, bf, bg, bh⟩
     refine Qw Z ab ?_
     replace ab := Zk ab
     refine Qp (V ?_)
     have dz := Zu l
     subst af
     have bZ := av.f1
     have ca := bZ.f1
     exact ⟨aC, (Zv _), ca, bb, a6, bc, bd, a7, bf, bg, bh⟩
    intro d9 el b9
    obtain ⟨db, cw, cb, c7, c8, c9, cA, cB, cC, cD, cE⟩ := b9
    refine (Qz (V (Zd (O Z Z (Exec.add Z cE Z (O Z Z (Zm (v := U (IntKind.i64.wrap ((m : Int) + 1))) Z Z (Zb (V ?_)))))))))
    have d0 := Zu n
    subst da
    have cc := cb.f1
    have cd := cc.f1
    exact ⟨db, (Zt (Zt cu cv) cw), cd, c7, c8, c9, cA, cB, cC, cD, (Eq.trans Z (QB co (au.f1).arr_le))⟩
   intro dA em b7
   obtain ⟨dU, cx, ce, cF, cG, cH, dQ, bi, dR, cI, dj⟩ := b7
   refine Zc (Zd (O Z Z (Zq Z dj cI (Zb (V (Zc (QA (Zx (decide_eq_false (by omega))) (QF (Ql (Ql (Q7 (V (Zd (O Z Z (Zm (v := c) Z cH (O Z Z (Zm (v := U i) Z bi (O Z Z (Zm (v := U i) Z bi (O Z Z (Exec.add Z Z Z ?_)))))))))))))))))))))
   obtain ⟨dM, cV, b⟩ := Zg b
   have cf := ce.f1
   refine O Z Z (Exec.call Z Z Tryz.func111 Z QoE (Zi Z (Zi Z (Zi Z Qk))) ((QlQ cV cf).mono ?_))
   rintro _ en ⟨bt, rfl, ⟨dc, _, cy, cg, rfl⟩⟩
   refine ⟨_, Z, ?_⟩
   refine O Z Z (Zo (v := bt) Z Z (Zb (Qz (V ?_))))
   have d1 := Zu b
   subst aH
   have ch := cg.f1
   refine ⟨_, Z, ?_⟩; exact ⟨dc, bt, (Zt (Zt (Zt aU ct) cx) cy), ch, cF, cG, Z⟩
  refine Qw Z z ?_
  replace z := Zk z
  refine QF (Ql (Ql (Q7 (V ?_))))
  have d2 := Zu b
  subst aH
  have ci := ar.f1
  have cj := ci.f1
  refine ⟨_, .inr (cq (by intro _ h; cases h)), ?_⟩; exact ⟨cZ, c, aU, cj, az, a0, an⟩
 rintro dB eo ⟨dh, aP, bA⟩
 have hm := aP.elim (cp _) (cm _)
 clear aP
 obtain ⟨aS, aT⟩ := dh
 replace hm := Jf hm
 obtain ⟨dd, aD, cz, ck, dS, cJ, dT⟩ := bA
 refine (V (Zc (Zd (O Z Z (Zm (v := a) Z cJ (O Z Z (Zo (v := a) Z Z (O Z Z (Zo (v := QG 50 (none)) Z Z (Zb (V (Q1 ?_))))))))))))
 have d3 := Zu hm
 subst r
 refine ⟨_, Qbu Z, ?_⟩
 have cl := (ck.f1).drop
 exact ⟨dd, a, (Zt (Zt (Zt aw aQ) cr) cz), cl, (KX Z Z)⟩
theorem QjH : Jk Tryz.prog 74 3 = some 3 := by kernel_rfl
theorem N84 : (Tryz.f84.name == "runtime.NumGoroutine") = false := by kernel_rfl
theorem Qah {w0 w : World} {s : PHeap} {H : List Res} {b : (List Int)} {a : Value} {r : Int} (hm : Jv b = some r) (hS : St w0 s (Res.arr (Qa .i64) 3 a b :: H) w) :
  Calls Tryz.prog 84 #[a] w fun e w' => ∃ v, e = .returned v ∧ ((fun (i : Int) => ∃ (c : PHeap) , PHeap.le s c ∧ St w0 c (Res.arr (Qa .i64) 3 a b :: H) w' ∧ v = U i) r) := by
 unfold Jv at hm
 refine Qy Tryz.func84 Z Z (Zc (Zd (O Z Z (Zo (v := U 0) Z Z (Zb (V (Zc (Zd (O Z Z (Zm (v := a) Z Z ?_))))))))))
 obtain ⟨j, g, hm⟩ := Zg hm
 refine O Z Z (Exec.call Z Z Tryz.func109 Z QnG (Zi Z Qk) ((Y0 g hS).mono ?_))
 rintro _ l ⟨_, rfl, ⟨h, f, d, rfl⟩⟩
 refine ⟨_, Z, ?_⟩
 refine O Z Z (Exec.add Z Z Z (O Z Z (Zo (v := U (IntKind.i64.wrap (j + 1))) Z Z (Zb (V (Q1 ?_))))))
 have k := Zu hm
 subst r
 refine ⟨_, QX Z, ?_⟩
 exact ⟨h, f, d, Z⟩
theorem QoB : (Tryz.f115.name == "runtime.NumGoroutine") = false := by kernel_rfl
theorem Qdg {w0 w : World} {s : PHeap} {H : List Res} {d : (List Int)} {g : Int} {b : Value} {r : Int × Bool} (hm : Kn d g = some r) (hS : St w0 s (Res.arr (Qa .i64) 3 b d :: H) w) :
  Calls Tryz.prog 115 #[b, U g] w fun e w' => ∃ v, e = .returned v ∧ ((J2 fun (bZ : Int) (ca : Bool) => ∃ (aC : PHeap) , PHeap.le s aC ∧ St w0 aC (Res.arr (Qa .i64) 3 b d :: H) w' ∧ v = Value.tuple #[U bZ, Value.bool (ca)]) r) := by
 unfold Kn at hm
 refine Qy Tryz.func115 Z Z (Zc (Zd (O Z Z (Zo (v := U 0) Z Z (O Z Z (Zo (v := Vb false) Z Z (Zb (V (Zc (Zc (Zd (O Z Z (Zm (v := b) Z Z (O Z Z (QQ (hS) Jt Z Z (O Z Z (Zm (v := U g) Z Z (O Z Z (Exec.neq Z Z Z (Zb (V ?_)))))))))))))))))))))
 rcases Qg hm with ⟨o, hm⟩ | ⟨o, hm⟩
 ·refine Qv Z o (Zc (Zd (O Z Z (Zo (v := U 0) Z Z (O Z Z (Zo (v := Vb false) Z Z (Zb (V (Q1 (Qj ?_))))))))))
  have ce := Zu hm
  subst r
  refine ⟨_, Qbu Z, ?_⟩
  exact ⟨s, (Zv _), hS, (KX Z Z)⟩
 refine Qw Z o ?_
 replace o := Zk o
 refine Qp (V (Zc (Zd (O Z Z (Zm (v := U g) Z Z ?_)))))
 obtain ⟨cv, bK, hm⟩ := Zg hm
 refine O Z Z (JX (E := encBool) hS S36 Z4 Z Z Z Z bK ?_)
 intro j c9 z
 refine O Z Z (Zo (v := j) Z Z (Zb (V (Zc (Zd (O Z Z (Zo (v := U 0) Z Z (Zb (V (Zc (Zc (Zd (O Z Z (Zm (v := b) Z Z (O Z Z (QQ (z.f1) Jt Z Z (O Z Z (Zm (v := U 0) Z Z (Zb (V ?_))))))))))))))))))))
 obtain ⟨al, aN, bv, br, bn⟩ := QO hm
 refine QJ (M := fun f' w' => ∃ s', (al = .next s' ∨ al = .brk s') ∧ (J2 fun (m : Int) (ax : (List Bool)) => ∃ (aD : PHeap) , PHeap.le s aD ∧ St w0 aD (Res.arr (Qa .i64) 3 b d :: Res.arr encBool 4 j ax :: H) w' ∧ f' 1 = U g ∧ f' 6 = j ∧ f' 7 = U m ∧ f' 18 = b ∧ f' 19 = U ((d.length : Int))) s') ?_ ?_
 ·refine Qm (J4 (fun k' s' f' w' => (J2 fun (n : Int) (u : (List Bool)) => ∃ (aE : PHeap) , PHeap.le s aE ∧ St w0 aE (Res.arr (Qa .i64) 3 b d :: Res.arr encBool 4 j u :: H) w' ∧ f' 1 = U g ∧ f' 6 = j ∧ f' 7 = U n ∧ f' 18 = b ∧ f' 19 = U ((d.length : Int)) ∧ f' 20 = U (k' : Int)) s') aN ?_ ?_ ?_)
  ·have aW := z.f1
   exact ⟨s, (Zv _), aW, Z, Z, Z, Z, Z, Z⟩
  ·intro aw bU am cm cA bp aP a bx
   obtain ⟨n, u⟩ := bU
   replace a := Jf a
   obtain ⟨ai, ay, t, ad, a2, a3, ae, af, y⟩ := aP
   refine Zc (Zd (O Z Z (Zq Z y af (Zb (V (Zc (QK (Zx (decide_eq_true (by omega))) (Qp (V (Zc (Qm (Zc (Zd ?_)))))))))))))
   obtain ⟨c, x, a⟩ := Zg a
   obtain ⟨ct, cc, aq⟩ := t.arr_at x
   refine O Z Z (Qc Jt Z (Eq.trans ae aq) y (Qe x).1 (Qe x).2.1 (O Z Z (Qt (F := (Qa .i64)) (t) aq A3 Z Z Z x (Sub.refl _) ?_)))
   intro c7 bL
   obtain rfl := Qs.1 bL
   refine O Z Z (Zo (v := U c) Z Z (Zb (V (Zc (Zc (QJ (M := fun f' w' => ∃ (aF : PHeap) , PHeap.le ai aF ∧ St w0 aF (Res.arr (Qa .i64) 3 b d :: Res.arr encBool 4 j u :: H) w' ∧ f' 1 = U g ∧ f' 6 = j ∧ f' 7 = U n ∧ f' 9 = U c ∧ f' 18 = b ∧ f' 19 = U ((d.length : Int)) ∧ f' 20 = U ((aw : Int)) ∧ f' 30 = Vb (((decide (c < 0)) || decide (g ≤ c)))) ?_ ?_))))))
   ·refine Zd (O Z Z (Zm (v := U c) Z Z (O Z Z (Zq Z Z Z (O Z Z (Zm (v := Vb (decide (c < 0))) Z Z ?_))))))
    by_cases i : (decide (c < 0)) = true
    ·refine Q0 4 (by rw [i]; rfl) ?_
     refine Zb (V ?_)
     have aX := t.f1
     have aY := aX.f1
     exact ⟨ai, (Zv _), aY, ad, a2, a3, Z, ae, af, y, (Zx (QdV i)).symm⟩
    replace i := Zk i
    refine Qo Z (Zf Z (Zx i)) Z (Zm (v := U c) Z Z (Qo Z (Zf Z (Zx i)) Z (Zm (v := U g) Z ad (Qo Z (Zf Z (Zx i)) Z (Exec.geq Z Z Z (O Z Z (Q5 (v := Vb (decide (g ≤ c))) Z (Zx i) Z (Zb (V ?_)))))))))
    have aZ := t.f1
    have ba := aZ.f1
    exact ⟨ai, (Zv _), ba, ad, a2, a3, Z, ae, af, y, (Zx (Qaj i)).symm⟩
   intro cn cB aT
   obtain ⟨aG, az, aa, b6, a4, b7, a5, b8, b9, bA, a6⟩ := aT
   refine (V ?_)
   rcases Qg a with ⟨p, a⟩ | ⟨p, a⟩
   ·refine Qv a6 p (Zc (Zd (O Z Z (Zo (v := U 0) Z Z (O Z Z (Zo (v := Vb false) Z Z (Zb (V (Q1 (Qj (QD (Qj (Qj (QD (Qj (Qj ?_))))))))))))))))
    have cf := Zu a
    subst am
    have bt := bv _ (bx (by intro _ h; cases h))
    have cg := Zu bt
    subst r
    refine ⟨_, Qbu Z, ?_⟩
    have bb := (aa.f1).drop
    exact ⟨aG, (Zt ay az), bb, (KX Z Z)⟩
   refine Qw a6 p ?_
   replace p := Zk p
   refine Qp (V (Zc (Zd (O Z Z (Zm (v := j) Z a4 (O Z Z (Zm (v := U c) Z a5 ?_)))))))
   obtain ⟨cI, ag, a⟩ := Zg a
   obtain ⟨cu, cd, ar⟩ := (aa.f1).arr_at ag
   refine O Z Z (Qc S36 Z ar Z (Qe ag).1 (Qe ag).2.1 ?_)
   obtain ⟨cw, bM, a⟩ := Zg a
   have bc := aa.f1
   refine O Z Z (QN bc ar A4 Z Z Z Z (Ju.2 Z) bM ?_)
   intro cC bd
   refine Zb (V (Zd (O Z Z (Zm (v := U n) Z b7 (O Z Z (Zm (v := U c) Z a5 (O Z Z (Exec.add Z Z Z (O Z Z (Qcy Z Z Z (O Z Z (Zo (v := U (max n (IntKind.i64.wrap (c + 1)))) Z Z (Zb (Qz (V (Zd (O Z Z (Exec.add Z bA Z (O Z Z (Zm (v := U (IntKind.i64.wrap ((aw : Int) + 1))) Z Z (Zb (V ?_))))))))))))))))))))))
   have ch := Zu a
   subst am
   have be := bd.f1
   refine ⟨_, Z, ?_⟩; exact ⟨aG, (Zt ay az), be, b6, a4, Z, b8, b9, (Eq.trans Z (QB bp (z.f1).arr_le))⟩
  intro bV co cD aQ bz
  obtain ⟨n, u⟩ := bV
  obtain ⟨bR, b3, bf, bB, bC, bD, bE, a7, bX⟩ := aQ
  refine Zc (Zd (O Z Z (Zq Z bX a7 (Zb (V (Zc (QA (Zx (decide_eq_false (by omega))) (QF (Ql (Ql (Q7 (V ?_))))))))))))
  have bg := bf.f1
  have bh := bg.f1
  refine ⟨_, .inl bz, ?_⟩; exact ⟨bR, b3, bh, bB, bC, bD, bE, a7⟩
 rintro cp cE ⟨bW, au, aU⟩
 have hm := au.elim (br _) (bn _)
 clear au
 obtain ⟨m, ax⟩ := bW
 replace hm := Jf hm
 obtain ⟨c3, a0, bi, cy, bF, a8, cz, c0⟩ := aU
 refine (V (Zc (Zc (Zd (O Z Z (Zm (v := j) Z bF (O Z Z (Zm (v := U m) Z a8 ?_))))))))
 have bj := bi.f1
 obtain ⟨aj, a1, bk, bQ⟩ := bj.freezeArr
 obtain ⟨an, bN, hm⟩ := Zg hm
 refine O Z Z (QgI S36 Z Z Z bQ bN ?_)
 intro aK ah
 refine O Z Z (Zr S36 Z Z ah (O Z Z (Zm (v := U 0) Z Z (Zb (V ?_)))))
 obtain ⟨ao, aO, bw, bs, bo⟩ := QO hm
 refine QJ (M := fun f' w' => ∃ s', (ao = .next s' ∨ ao = .brk s') ∧ (fun (_ : Unit) => ∃ (aH : PHeap) , PHeap.le aj aH ∧ St w0 aH (Res.arr (Qa .i64) 3 b d :: H) w' ∧ f' 7 = U m ∧ f' 41 = aK ∧ f' 42 = U ((an.length : Int))) s') ?_ ?_
 ·refine Qm (J4 (fun k' s' f' w' => (fun (_ : Unit) => ∃ (aI : PHeap) , PHeap.le aj aI ∧ St w0 aI (Res.arr (Qa .i64) 3 b d :: H) w' ∧ f' 7 = U m ∧ f' 41 = aK ∧ f' 42 = U ((an.length : Int)) ∧ f' 43 = U (k' : Int)) s') aO ?_ ?_ ?_)
  ·exact ⟨aj, (Zv _), bk, a8, Z, Z, Z⟩
  ·intro b2 c4 ap cq cF bq aR l b0
   obtain ⟨aJ, ac, ab, bG, a9, aA, ak⟩ := aR
   refine Zc (Zd (O Z Z (Zq Z ak aA (Zb (V (Zc (QK (Zx (decide_eq_true (by omega))) (Qp (V (Zc (Qm (Zc (Zd ?_)))))))))))))
   obtain ⟨aL, bO, l⟩ := Zg l
   refine O Z Z (Qu S36 Z a9 ak (ah.mono ac) bO ?_)
   intro cb cx aM
   refine O Z Z (Zw (E := encBool) ab A4 Z Z Z aM ?_)
   intro c8 bP
   obtain rfl := Ju.1 bP
   refine O Z Z (Zo (v := Vb aL) Z Z (Zb (V (Zc (Zd (O Z Z (Zm (v := Vb aL) Z Z (O Z Z (Exec.not Z Z (Zb (V ?_)))))))))))
   rcases Qg l with ⟨q, l⟩ | ⟨q, l⟩
   ·refine Qv Z q (Zc (Zd (O Z Z (Zo (v := U 0) Z Z (O Z Z (Zo (v := Vb false) Z Z (Zb (V (Q1 (QD (Qj (Qj (QD (Qj (Qj ?_)))))))))))))))
    have ci := Zu l
    subst ap
    have bu := bw _ (b0 (by intro _ h; cases h))
    have cj := Zu bu
    subst r
    refine ⟨_, Qbu Z, ?_⟩
    exact ⟨aJ, (Zt (Zt a0 a1) ac), ab, (KX Z Z)⟩
   refine Qw Z q ?_
   replace q := Zk q
   refine Qp (Qz (V (Zd (O Z Z (Exec.add Z ak Z (O Z Z (Zm (v := U (IntKind.i64.wrap ((b2 : Int) + 1))) Z Z (Zb (V ?_)))))))))
   have ck := Zu l
   subst ap
   refine ⟨_, Z, ?_⟩; exact ⟨aJ, ac, ab, bG, a9, aA, (Eq.trans Z (QB bq (SliceRep.le ah)))⟩
  intro c5 cr cG aS b1
  obtain ⟨bS, b4, bl, bH, bI, aB, bY⟩ := aS
  refine Zc (Zd (O Z Z (Zq Z bY aB (Zb (V (Zc (QA (Zx (decide_eq_false (by omega))) (QF (Ql (Ql (Q7 (V ?_))))))))))))
  refine ⟨_, .inl b1, ?_⟩; exact ⟨bS, b4, bl, bH, bI, aB⟩
 rintro cs cH ⟨c6, av, aV⟩
 have hm := av.elim (bs _) (bo _)
 clear av
 obtain ⟨bT, b5, bm, bJ, c1, c2⟩ := aV
 refine (V (Zc (Zd (O Z Z (Zm (v := U m) Z bJ (O Z Z (Zo (v := U m) Z Z (O Z Z (Zo (v := Vb true) Z Z (Zb (V (Q1 ?_))))))))))))
 have cl := Zu hm
 subst r
 refine ⟨_, Qbu Z, ?_⟩
 exact ⟨bT, (Zt (Zt a0 a1) b5), bm, (KX Z Z)⟩
theorem Qd0 {w0 w : World} {s : PHeap} {H : List Res} {a : Edge} {b : Edge} {r : Int} (hm : Qa3 a b = some r) (hS : St w0 s (H) w) :
  Calls Tryz.prog 137 #[Value.agg #[U (a.From), U (a.Label), U (a.To)], Value.agg #[U (b.From), U (b.Label), U (b.To)]] w fun e w' => ∃ v, e = .returned v ∧ ((fun (ae : Int) => ∃ (h : PHeap) , PHeap.le s h ∧ St w0 h (H) w' ∧ v = U ae) r) := by
 unfold Qa3 at hm
 refine Qy Tryz.func137 Z Z (Zc (Zd (O Z Z (Exec.box (cs := [U (a.From), U (a.Label), U (a.To)]) hS Z Z Z ?_))))
 intro ag ao i
 refine O Z Z (Exec.box (cs := [U (b.From), U (b.Label), U (b.To)]) i Z Z Z ?_)
 intro ah ap j
 refine O Z Z (Zo (v := U 0) Z Z (Zb (V (Zc (K3 (n0 := 17) (.q 0 (.q 1 (.q 2 (.q 3 (.q 5 (.q 6 (.q 7 (.q 8 (.q 10 (.q 11 (.q 12 (.q 13 (.e 4 [5, 6, 7, 8, 10, 11, 12, 13] (.e 9 [10, 11, 12, 13] (.e 14 [] (.e 15 [] (.e 16 [] .done))))))))))))))))) K8 (by kernel_rfl) (by kernel_rfl) ?_)))))
 have d := j.drew
 refine Qh Z Z (Zp Qbn Z Z Z ⟨Z, ?_⟩)
 refine Qh Z Z (Zn (d.f1) A3 Z Z Z ⟨Z, ?_⟩)
 refine Qh Z Z (Zp Qbn Z Z Z ⟨Z, ?_⟩)
 refine Qh Z Z (Zn (d) A3 Z Z Z ⟨Z, ?_⟩)
 refine Qh Z Z (Zp Qan Z Z Z ⟨Z, ?_⟩)
 refine Qh Z Z (Zn (d.f1) A3 Z Z Z ⟨Z, ?_⟩)
 refine Qh Z Z (Zp Qan Z Z Z ⟨Z, ?_⟩)
 refine Qh Z Z (Zn (d) A3 Z Z Z ⟨Z, ?_⟩)
 refine Qh Z Z (Zp YZ Z Z Z ⟨Z, ?_⟩)
 refine Qh Z Z (Zn (d.f1) A3 Z Z Z ⟨Z, ?_⟩)
 refine Qh Z Z (Zp YZ Z Z Z ⟨Z, ?_⟩)
 refine Qh Z Z (Zn (d) A3 Z Z Z ⟨Z, ?_⟩)
 refine JH Z Z (Exec.call Z Z Tryz.func119 Z Qib (Zi Z (Zi Z Qk)) ((J6 (Jr a.From b.From) d).mono ?_))
 rintro _ aq ⟨_, rfl, ⟨ak, u, f, rfl⟩⟩
 refine ⟨_, Z, ?_⟩
 refine ⟨(Qd (Q4 Z Z (Zp Qan Z Z Z ⟨Z, Z⟩)) (Qd (Q4 Z Z (Zn (f.f1) A3 Z Z Z ⟨Z, Z⟩)) (Qd (Q4 Z Z (Zp Qan Z Z Z ⟨Z, Z⟩)) (Qd (Q4 Z Z (Zn (f) A3 Z Z Z ⟨Z, Z⟩)) (Qd (Q4 Z Z (Zp YZ Z Z Z ⟨Z, Z⟩)) (Qd (Q4 Z Z (Zn (f.f1) A3 Z Z Z ⟨Z, Z⟩)) (Qd (Q4 Z Z (Zp YZ Z Z Z ⟨Z, Z⟩)) (Qd (Q4 Z Z (Zn (f) A3 Z Z Z ⟨Z, Z⟩)) QY)))))))), ?_⟩
 refine JH Z Z (Exec.call Z Z Tryz.func119 Z Qib (Zi Z (Zi Z Qk)) ((J6 (Jr a.Label b.Label) f).mono ?_))
 rintro _ ar ⟨_, rfl, ⟨al, x, g, rfl⟩⟩
 refine ⟨_, Z, ?_⟩
 refine ⟨(Qd (Q4 Z Z (Zp YZ Z Z Z ⟨Z, Z⟩)) (Qd (Q4 Z Z (Zn (g.f1) A3 Z Z Z ⟨Z, Z⟩)) (Qd (Q4 Z Z (Zp YZ Z Z Z ⟨Z, Z⟩)) (Qd (Q4 Z Z (Zn (g) A3 Z Z Z ⟨Z, Z⟩)) QY)))), ?_⟩
 refine JH Z Z (Exec.call Z Z Tryz.func119 Z Qib (Zi Z (Zi Z Qk)) ((J6 (Jr a.To b.To) g).mono ?_))
 rintro _ au ⟨_, rfl, ⟨am, y, k, rfl⟩⟩
 refine ⟨_, Z, ?_⟩
 refine ⟨QY, ?_⟩
 refine JH Z Z (Exec.buildSlice (Te := 3) (cs := [U ((Qr a.From b.From)), U ((Qr a.Label b.Label)), U ((Qr a.To b.To))]) k Z (Qb (c := [U ((Qr a.From b.From))]) (Qi Z Z) (Qb (c := [U ((Qr a.Label b.Label))]) (Qi Z Z) (Qb (c := [U ((Qr a.To b.To))]) (Qi Z Z) Qx))) (fun _ => by kernel_rfl) ?_)
 intro ai av l
 refine ⟨QY, ?_⟩
 have m := St.boxArr (E := (Qa .i64)) (xs := [(Qr a.From b.From), (Qr a.Label b.Label), (Qr a.To b.To)]) l ⟨[U ((Qr a.From b.From))], [U ((Qr a.Label b.Label)), U ((Qr a.To b.To))], rfl, rfl, ⟨[U ((Qr a.Label b.Label))], [U ((Qr a.To b.To))], rfl, rfl, ⟨[U ((Qr a.To b.To))], [], rfl, rfl, rfl⟩⟩⟩ (by simp [maxLen])
 obtain ⟨an, z, n, ac⟩ := m.freezeArr
 obtain ⟨af, ab, hm⟩ := Zg hm
 refine JH Z Z (Exec.call Z Z Tryz.func118 Z Qnp (Zi Z Qk) ((Qbk ab n ac).mono ?_))
 rintro _ aw ⟨_, rfl, ⟨ad, aa, o, rfl⟩⟩
 refine ⟨_, Z, ?_⟩
 refine ⟨QY, ?_⟩
 refine QC (O Z Z (Zo (v := U af) Z Z (Zb (V (Q1 ?_)))))
 have aj := Zu hm
 subst r
 refine ⟨_, QX Z, ?_⟩
 have p := o.drop
 have t := p.drop
 exact ⟨ad, (Zt (Zt (Zt (Zt u x) y) z) aa), t, Z⟩
theorem N87 : (Tryz.f87.name == "runtime.NumGoroutine") = false := by kernel_rfl
end Go.Pw
