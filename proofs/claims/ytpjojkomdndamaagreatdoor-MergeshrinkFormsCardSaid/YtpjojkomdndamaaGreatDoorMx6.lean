/- -/
import Derived.Test.YtpjojkomdndamaaGreatDoorLC
import Derived.Test.YtpjojkomdndamaaGreatDoorMx5
import Derived.Test.YtpjojkomdndamaaGreatDoorMxDl
set_option maxRecDepth 100000
set_option maxHeartbeats 4000000
set_option linter.unusedVariables false
namespace Go.Pw
open Go.Proofs
theorem QeW {w0 w : World} {s : PHeap} {H : List Res} {d : System} {g : Int} {ag : Value} {ah : Value} {ai : Value} {r : (List Int) × (Option Int)} (hm : YD d g = some r) (hS : St w0 s (H) w) (bw : SliceRep (Qa .i64) s ag d.Costs) (bx : SliceRep encEdge s ah d.Edges) (aE : SliceRep encBool s ai d.Goals) :
  Calls Tryz.prog 82 #[Value.agg #[U (d.States), U (d.Init), ag, ah, ai], U g] w fun e w' => ∃ v, e = .returned v ∧ ((J2 fun (cM : (List Int)) (cN : (Option Int)) => ∃ (bj : PHeap) (bs : Value), PHeap.le s bj ∧ St w0 bj (Res.arr (Qa .i64) 3 bs cM :: H) w' ∧ v = Value.tuple #[bs, QD 50 (cN)]) r) := by
 unfold YD at hm
 refine Qw Tryz.func82 Z Z (Zc (Zd (O Z Z (Exec.box (cs := [U (d.States), U (d.Init), ag, ah, ai]) hS Z Z Z ?_))))
 intro aF dA aN
 refine O Z Z (Zo (v := Vn) Z Z (O Z Z (Zo (v := QD 50 (none)) Z Z (Zb (V (Zc (Zd (O Z Z (Ql (ds := [U (d.States), U (d.Init), ag, ah, ai]) (aN) KS Z Z Z ?_)))))))))
 obtain ⟨cG, cw, hm⟩ := Zg hm
 obtain ⟨bv, u⟩ := cG
 replace hm := Jp hm
 refine O Z Z (Tc Z Z Z (Zi Z Qk) (Qar cw aN bw bx aE).r ?_)
 rintro _ dB ⟨c8, a, aw, aO, rfl⟩
 refine O Z Z (Zm (v := Value.tuple #[a, QD 50 (u)]) Z Z (O Z Z (Exec.extract (v := a) Z Z Z (O Z Z (Exec.extract (v := QD 50 (u)) Z Z Z (O Z Z (Zo (v := a) Z Z (O Z Z (Zo (v := QD 50 (u)) Z Z (Zb (V (Zc (Zc (Zd (O Z Z (Zm (v := QD 50 (u)) Z Z (O Z Z (Jj (T := 50) Tryz.underlying32 Z Z Z (Zb (V ?_))))))))))))))))))))
 rcases Qf hm with ⟨y, hm⟩ | ⟨y, hm⟩
 ·refine Qr Z y (Zc (Zd (O Z Z (Zm (v := QD 50 (u)) Z Z (O Z Z (Zo (v := Vn) Z Z (O Z Z (Zo (v := QD 50 (u)) Z Z (Zb (V (Q0 (Qi ?_))))))))))))
  have cU := Zu hm
  subst r
  refine ⟨_, QbU Z, ?_⟩
  have bB := aO.nilArr (Qa .i64) 3
  exact ⟨c8, Vn, aw, (((bB.f1).drop).f1).drop, (Yp Z Z)⟩
 refine Qs Z y ?_
 replace y := Zk y
 refine Qq (V (Zc (Zd (O Z Z (Zm (v := U g) Z Z (O Z Z (QeU Z Z Z (O Z Z (Qc5 Z Z Z (O Z Z (Zo (v := U (max 1 (min g 4096))) Z Z (Zb (V (Zc (Zd (O Z Z (Zm (v := a) Z Z ?_)))))))))))))))))
 obtain ⟨dU, cx, hm⟩ := Zg hm
 refine O Z Z (Tc Z Z Z (Zi Z Qk) (Y8 cx aO).r ?_)
 rintro _ dC ⟨bk, aQ, bC, rfl⟩
 refine O Z Z (Exec.add Z Z Z ?_)
 obtain ⟨du, cy, hm⟩ := Zg hm
 refine O Z Z (Kr (E := encBool) bC S36 Z4 Z Z Z Z cy ?_)
 intro aj dD aq
 refine O Z Z (Zo (v := aj) Z Z (Zb (V (Zc (Zc (Zd (O Z Z (Zm (v := a) Z Z (O Z Z (QP (aq.f1) JG Z Z (O Z Z (Zm (v := U 0) Z Z (Zb (V ?_))))))))))))))
 obtain ⟨ax, b0, hm⟩ := Zg hm
 refine Qo (JZ (fun k' s' f' w' => (fun (ax : (List Bool)) => ∃ (bl : PHeap) , PHeap.le bk bl ∧ St w0 bl (Res.box aF 38 [U (d.States), U (d.Init), ag, ah, ai] :: Res.arr (Qa .i64) 3 a bv :: Res.arr encBool 4 aj ax :: H) w' ∧ f' 1 = U (max 1 (min g 4096)) ∧ f' 2 = Vq aF ∧ f' 6 = a ∧ f' 8 = aj ∧ f' 30 = a ∧ f' 31 = U ((bv.length : Int)) ∧ f' 32 = U (k' : Int)) s') b0 ?_ ?_ ?_)
 ·have bD := aq.f1
  exact ⟨bk, (Zv _), bD.f2, Z, Z, Z, Z, Z, Z, Z⟩
 ·intro am ax c9 de dE bP b3 j
  obtain ⟨cA, aR, t, cb, aV, cc, aW, aX, aY, ap⟩ := b3
  refine Zc (Zd (O Z Z (Zq Z ap aY (Zb (V (Zc (QL (Zx (decide_eq_true (by omega))) (Qq (V (Zc (Qo (Zc (Zd (O Z Z (Zm (v := U ((am : Int))) Z ap ?_)))))))))))))))
  obtain ⟨bu, ao, j⟩ := Zg j
  obtain ⟨dm, cP, aI⟩ := (t.f1).arr_at ao
  refine O Z Z (Qd JG Z (Eq.trans aX aI) ap (Qg ao).1 (Qg ao).2.1 (O Z Z (Qt (F := (Qa .i64)) (t.f1) aI A3 Z Z Z ao (Sub.refl _) ?_)))
  intro d7 cz
  obtain rfl := Qv.1 cz
  refine O Z Z (Zo (v := U ((am : Int))) Z Z (O Z Z (Zo (v := U bu) Z Z (Zb (V (Zd (O Z Z (Zm (v := aj) Z aW (O Z Z (Zm (v := U bu) Z Z (O Z Z (Zp Qby Z aV Z (O Z Z (Zn (t) A36 Z Z Z (O Z Z (Zm (v := U ((am : Int))) Z Z ?_))))))))))))))))
  obtain ⟨dR, c0, j⟩ := Zg j
  refine O Z Z (Qy S36 Z Z Z (aE.mono (Zt (Zt aw aQ) aR)) c0 ?_)
  intro cO dz bz
  refine O Z Z (Zw (E := encBool) t A4 Z Z Z bz ?_)
  intro d8 c1
  obtain rfl := J0.1 c1
  obtain ⟨dS, a8, j⟩ := Zg j
  obtain ⟨dn, cQ, aJ⟩ := (t.f2).arr_at a8
  refine O Z Z (Qd S36 Z aJ Z (Qg a8).1 (Qg a8).2.1 ?_)
  obtain ⟨dv, c2, j⟩ := Zg j
  refine O Z Z (QQ t.f2 aJ A4 Z Z Z Z (J0.2 Z) c2 ?_)
  intro dF bE
  refine Zb (Qz (V (Zd (O Z Z (Exec.add Z ap Z (O Z Z (Zm (v := U (IntKind.i64.wrap ((am : Int) + 1))) Z Z (Zb (V ?_)))))))))
  have cV := Zu j
  subst c9
  exact ⟨cA, aR, (bE.f2).f2, cb, aV, cc, aW, aX, aY, (Eq.trans Z (QF bP (aq.f1).arr_le))⟩
 intro df dG b4
 obtain ⟨aA, bT, bF, cd, d0, ce, cf, d1, cg, cK⟩ := b4
 refine Zc (Zd (O Z Z (Zq Z cK cg (Zb (V (Zc (QB (Zx (decide_eq_false (by omega))) (QJ (Qn (Qn (Q9 (V (Zc ?_)))))))))))))
 obtain ⟨aG, b1, dt, bR, bO⟩ := QN hm
 refine QK (M := fun f' w' => ∃ s', (aG = .next s' ∨ aG = .brk s') ∧ (J2 fun (aS : (List Int)) (aT : (List Bool)) => ∃ (bm : PHeap) (aD : Value), PHeap.le aA bm ∧ St w0 bm (Res.arr (Qa .i64) 3 a aS :: Res.arr encBool 4 aD aT :: H) w' ∧ f' 1 = U (max 1 (min g 4096)) ∧ f' 6 = a ∧ f' 8 = aD) s') ?_ ?_
 ·refine Qo (YG (fun s' f' w' => (J2 fun (ac : (List Int)) (ad : (List Bool)) => ∃ (bn : PHeap) (c : Value), PHeap.le aA bn ∧ St w0 bn (Res.arr (Qa .i64) 3 a ac :: Res.arr encBool 4 c ad :: H) w' ∧ f' 1 = U (max 1 (min g 4096)) ∧ f' 6 = a ∧ f' 8 = c) s') b1 ?_ ?_)
  ·have bG := bF.drop
   exact ⟨aA, aj, (Zv _), (bG.f1).f1, cd, ce, cf⟩
  intro cH aH dg dH b5 b bS
  obtain ⟨ac, ad⟩ := cH
  replace b := Jp b
  obtain ⟨cB, c, aU, ar, az, a0, an⟩ := b5
  refine Zc (Zc (Zd (O Z Z (Zm (v := c) Z an (O Z Z (QP (ar.f1) S36 Z Z (O Z Z (Zm (v := U (max 1 (min g 4096))) Z az (O Z Z (Exec.gtr Z Z Z (Zb (V ?_))))))))))))
  rcases Qf b with ⟨z, b⟩ | ⟨z, b⟩
  ·refine Qr Z z (Qq (V (Qo (Zc (Zd (O Z Z (Zm (v := c) Z an ?_)))))))
   obtain ⟨cI, c3, b⟩ := Zg b
   obtain ⟨q, i⟩ := cI
   replace b := Jp b
   refine O Z Z (Tc Z Z Z (Zi Z Qk) (Qe9 c3 ar.f1).r ?_)
   rintro _ dI ⟨bo, bU, au, rfl⟩
   refine O Z Z (Zm (v := Value.tuple #[U q, U i]) Z Z (O Z Z (Exec.extract (v := U q) Z Z Z (O Z Z (Exec.extract (v := U i) Z Z Z (O Z Z (Zo (v := U q) Z Z (O Z Z (Zo (v := U i) Z Z (Zb (V (Zc (Zc (Zd (O Z Z (Zm (v := a) Z a0 (O Z Z (QP (au.f1) JG Z Z (O Z Z (Zm (v := U 0) Z Z (Zb (V ?_))))))))))))))))))))))
   obtain ⟨ay, b2, b⟩ := Zg b
   refine Qo (JZ (fun k' s' f' w' => (fun (ay : (List Int)) => ∃ (bp : PHeap) , PHeap.le bo bp ∧ St w0 bp (Res.arr (Qa .i64) 3 a ay :: Res.arr encBool 4 c ad :: H) w' ∧ f' 1 = U (max 1 (min g 4096)) ∧ f' 6 = a ∧ f' 8 = c ∧ f' 11 = U q ∧ f' 12 = U i ∧ f' 55 = a ∧ f' 56 = U ((ac.length : Int)) ∧ f' 57 = U (k' : Int)) s') b2 ?_ ?_ ?_)
   ·have bH := au.f1
    exact ⟨bo, (Zv _), bH, az, a0, an, Z, Z, Z, Z, Z⟩
   ·intro m ay cC dh dJ bQ b6 n
    obtain ⟨aB, bV, x, aZ, a1, ba, a2, a3, a4, a5, ak⟩ := b6
    refine Zc (Zd (O Z Z (Zq Z ak a5 (Zb (V (Zc (QL (Zx (decide_eq_true (by omega))) (Qq (V (Zc (Qo (Zc (Zd (O Z Z (Zm (v := U ((m : Int))) Z ak ?_)))))))))))))))
    obtain ⟨al, p, n⟩ := Zg n
    obtain ⟨dp, cR, aK⟩ := x.arr_at p
    refine O Z Z (Qd JG Z (Eq.trans a4 aK) ak (Qg p).1 (Qg p).2.1 (O Z Z (Qt (F := (Qa .i64)) (x) aK A3 Z Z Z p (Sub.refl _) ?_)))
    intro d9 c4
    obtain rfl := Qv.1 c4
    refine O Z Z (Zo (v := U ((m : Int))) Z Z (O Z Z (Zo (v := U al) Z Z (Zb (V (Zc (Zc (Zd (O Z Z (Zm (v := U al) Z Z (O Z Z (Zm (v := U i) Z a3 (O Z Z (Exec.eql Z Z Z (Zb (V ?_))))))))))))))))
    obtain ⟨ae, o, n⟩ := Zg n
    refine QK (M := fun f' w' => (fun (ae : (List Int)) => ∃ (bq : PHeap) , PHeap.le aB bq ∧ St w0 bq (Res.arr (Qa .i64) 3 a ae :: Res.arr encBool 4 c ad :: H) w' ∧ f' 1 = U (max 1 (min g 4096)) ∧ f' 6 = a ∧ f' 8 = c ∧ f' 11 = U q ∧ f' 12 = U i ∧ f' 13 = U ((m : Int)) ∧ f' 14 = U al ∧ f' 55 = a ∧ f' 56 = U ((ac.length : Int)) ∧ f' 57 = U ((m : Int))) ae) ?_ ?_
    ·rcases Qf o with ⟨aa, o⟩ | ⟨aa, o⟩
     ·refine Qr Z aa (Zd (O Z Z (Zm (v := a) Z a1 (O Z Z (Zm (v := U ((m : Int))) Z Z (O Z Z (Zm (v := U q) Z a2 ?_)))))))
      obtain ⟨dq, cS, aL⟩ := x.arr_at p
      refine O Z Z (Qd JG Z aL Z (Qg p).1 (Qg p).2.1 ?_)
      obtain ⟨dw, c5, o⟩ := Zg o
      refine O Z Z (QQ x aL A3 Z Z Z Z (Qv.2 Z) c5 ?_)
      intro dK bI
      refine Zb (V ?_)
      have cW := Zu o
      subst ae
      exact ⟨aB, (Zv _), (bI.f1).f1, aZ, a1, ba, a2, a3, Z, Z, a4, a5, ak⟩
     refine Qs Z aa ?_
     replace aa := Zk aa
     refine Qq (V ?_)
     have cX := Zu o
     subst ae
     exact ⟨aB, (Zv _), (x.f1).f1, aZ, a1, ba, a2, a3, Z, Z, a4, a5, ak⟩
    intro di dL b8
    obtain ⟨aC, bW, av, bb, a6, bc, bd, a7, ch, be, bf, bg, bh⟩ := b8
    refine (V (Zc (Zd (O Z Z (Zm (v := U al) Z be (O Z Z (Zm (v := U i) Z a7 (O Z Z (Exec.gtr Z Z Z (Zb (V ?_)))))))))))
    obtain ⟨af, l, n⟩ := Zg n
    refine QK (M := fun f' w' => (fun (af : (List Int)) => ∃ (br : PHeap) , PHeap.le aC br ∧ St w0 br (Res.arr (Qa .i64) 3 a af :: Res.arr encBool 4 c ad :: H) w' ∧ f' 1 = U (max 1 (min g 4096)) ∧ f' 6 = a ∧ f' 8 = c ∧ f' 11 = U q ∧ f' 12 = U i ∧ f' 55 = a ∧ f' 56 = U ((ac.length : Int)) ∧ f' 57 = U ((m : Int))) af) ?_ ?_
    ·rcases Qf l with ⟨ab, l⟩ | ⟨ab, l⟩
     ·refine Qr Z ab (Zd (O Z Z (Zm (v := a) Z a6 (O Z Z (Zm (v := U ((m : Int))) Z ch (O Z Z (Zm (v := U al) Z be (O Z Z (Exec.sub Z Z Z ?_)))))))))
      obtain ⟨dT, a9, l⟩ := Zg l
      obtain ⟨dr, cT, aM⟩ := av.arr_at a9
      refine O Z Z (Qd JG Z aM Z (Qg a9).1 (Qg a9).2.1 ?_)
      obtain ⟨dx, c6, l⟩ := Zg l
      refine O Z Z (QQ av aM A3 Z Z Z Z (Qv.2 Z) c6 ?_)
      intro dM bJ
      refine Zb (V ?_)
      have cY := Zu l
      subst af
      exact ⟨aC, (Zv _), (bJ.f1).f1, bb, a6, bc, bd, a7, bf, bg, bh⟩
     refine Qs Z ab ?_
     replace ab := Zk ab
     refine Qq (V ?_)
     have cZ := Zu l
     subst af
     exact ⟨aC, (Zv _), (av.f1).f1, bb, a6, bc, bd, a7, bf, bg, bh⟩
    intro dj dN b9
    obtain ⟨cD, bX, bK, ci, cj, ck, cl, cm, cn, co, cp⟩ := b9
    refine (Qz (V (Zd (O Z Z (Exec.add Z cp Z (O Z Z (Zm (v := U (IntKind.i64.wrap ((m : Int) + 1))) Z Z (Zb (V ?_)))))))))
    have da := Zu n
    subst cC
    exact ⟨cD, (Zt (Zt bV bW) bX), (bK.f1).f1, ci, cj, ck, cl, cm, cn, co, (Eq.trans Z (QF bQ (au.f1).arr_le))⟩
   intro dk dO b7
   obtain ⟨d6, bY, bL, cq, cr, ct, d2, bi, d3, cu, cL⟩ := b7
   refine Zc (Zd (O Z Z (Zq Z cL cu (Zb (V (Zc (QB (Zx (decide_eq_false (by omega))) (QJ (Qn (Qn (Q9 (V (Zd (O Z Z (Zm (v := c) Z ct (O Z Z (Zm (v := U i) Z bi (O Z Z (Zm (v := U i) Z bi (O Z Z (Exec.add Z Z Z ?_)))))))))))))))))))))
   obtain ⟨dy, c7, b⟩ := Zg b
   refine O Z Z (Tc Z Z Z (Zi Z (Zi Z (Zi Z Qk))) (Qma c7 bL.f1).r ?_)
   rintro bt dP ⟨cE, _, bZ, bM, rfl⟩
   refine O Z Z (Zo (v := bt) Z Z (Zb (Qz (V ?_))))
   have db := Zu b
   subst aH
   refine ⟨_, Z, ?_⟩; exact ⟨cE, bt, (Zt (Zt (Zt aU bU) bY) bZ), bM.f1, cq, cr, Z⟩
  refine Qs Z z ?_
  replace z := Zk z
  refine QJ (Qn (Qn (Q9 (V ?_))))
  have dc := Zu b
  subst aH
  refine ⟨_, .inr (bS (by intro _ h; cases h)), ?_⟩; exact ⟨cB, c, aU, (ar.f1).f1, az, a0, an⟩
 rintro dl dQ ⟨cJ, aP, bA⟩
 have hm := aP.elim (bR _) (bO _)
 clear aP
 obtain ⟨aS, aT⟩ := cJ
 replace hm := Jp hm
 obtain ⟨cF, aD, ca, bN, d4, cv, d5⟩ := bA
 refine (V (Zc (Zd (O Z Z (Zm (v := a) Z cv (O Z Z (Zo (v := a) Z Z (O Z Z (Zo (v := QD 50 (none)) Z Z (Zb (V (Q0 ?_))))))))))))
 have dd := Zu hm
 subst r
 refine ⟨_, QbU Z, ?_⟩
 exact ⟨cF, a, (Zt (Zt (Zt aw aQ) bT) ca), (bN.f1).drop, (Yp Z Z)⟩
theorem QjN : Jt Tryz.prog 74 3 = some 3 := by kernel_rfl
theorem Qas {w0 w : World} {s : PHeap} {H : List Res} {b : (List Int)} {a : Value} {r : Int} (hm : J1 b = some r) (hS : St w0 s (Res.arr (Qa .i64) 3 a b :: H) w) :
  Calls Tryz.prog 84 #[a] w fun e w' => ∃ v, e = .returned v ∧ ((fun (i : Int) => ∃ (c : PHeap) , PHeap.le s c ∧ St w0 c (Res.arr (Qa .i64) 3 a b :: H) w' ∧ v = U i) r) := by
 unfold J1 at hm
 refine Qw Tryz.func84 Z Z (Zc (Zd (O Z Z (Zo (v := U 0) Z Z (Zb (V (Zc (Zd (O Z Z (Zm (v := a) Z Z ?_))))))))))
 obtain ⟨j, g, hm⟩ := Zg hm
 refine O Z Z (Tc Z Z Z (Zi Z Qk) (Y8 g hS).r ?_)
 rintro _ l ⟨h, f, d, rfl⟩
 refine O Z Z (Exec.add Z Z Z (O Z Z (Zo (v := U (IntKind.i64.wrap (j + 1))) Z Z (Zb (V (Q0 ?_))))))
 have k := Zu hm
 subst r
 refine ⟨_, QW Z, ?_⟩
 exact ⟨h, f, d, Z⟩
theorem Qdt {w0 w : World} {s : PHeap} {H : List Res} {d : (List Int)} {g : Int} {b : Value} {r : Int × Bool} (hm : Ky d g = some r) (hS : St w0 s (Res.arr (Qa .i64) 3 b d :: H) w) :
  Calls Tryz.prog 115 #[b, U g] w fun e w' => ∃ v, e = .returned v ∧ ((J2 fun (bP : Int) (bQ : Bool) => ∃ (aC : PHeap) , PHeap.le s aC ∧ St w0 aC (Res.arr (Qa .i64) 3 b d :: H) w' ∧ v = Value.tuple #[U bP, Value.bool (bQ)]) r) := by
 unfold Ky at hm
 refine Qw Tryz.func115 Z Z (Zc (Zd (O Z Z (Zo (v := U 0) Z Z (O Z Z (Zo (v := Vb false) Z Z (Zb (V (Zc (Zc (Zd (O Z Z (Zm (v := b) Z Z (O Z Z (QP (hS) JG Z Z (O Z Z (Zm (v := U g) Z Z (O Z Z (Exec.neq Z Z Z (Zb (V ?_)))))))))))))))))))))
 rcases Qf hm with ⟨o, hm⟩ | ⟨o, hm⟩
 ·refine Qr Z o (Zc (Zd (O Z Z (Zo (v := U 0) Z Z (O Z Z (Zo (v := Vb false) Z Z (Zb (V (Q0 (Qi ?_))))))))))
  have bU := Zu hm
  subst r
  refine ⟨_, QbU Z, ?_⟩
  exact ⟨s, (Zv _), hS, (Yp Z Z)⟩
 refine Qs Z o ?_
 replace o := Zk o
 refine Qq (V (Zc (Zd (O Z Z (Zm (v := U g) Z Z ?_)))))
 obtain ⟨cl, bA, hm⟩ := Zg hm
 refine O Z Z (Kr (E := encBool) hS S36 Z4 Z Z Z Z bA ?_)
 intro j cz z
 refine O Z Z (Zo (v := j) Z Z (Zb (V (Zc (Zd (O Z Z (Zo (v := U 0) Z Z (Zb (V (Zc (Zc (Zd (O Z Z (Zm (v := b) Z Z (O Z Z (QP (z.f1) JG Z Z (O Z Z (Zm (v := U 0) Z Z (Zb (V ?_))))))))))))))))))))
 obtain ⟨al, aN, bl, bh, bd⟩ := QN hm
 refine QK (M := fun f' w' => ∃ s', (al = .next s' ∨ al = .brk s') ∧ (J2 fun (m : Int) (ax : (List Bool)) => ∃ (aD : PHeap) , PHeap.le s aD ∧ St w0 aD (Res.arr (Qa .i64) 3 b d :: Res.arr encBool 4 j ax :: H) w' ∧ f' 1 = U g ∧ f' 6 = j ∧ f' 7 = U m ∧ f' 18 = b ∧ f' 19 = U ((d.length : Int))) s') ?_ ?_
 ·refine Qo (JI (fun k' s' f' w' => (J2 fun (n : Int) (u : (List Bool)) => ∃ (aE : PHeap) , PHeap.le s aE ∧ St w0 aE (Res.arr (Qa .i64) 3 b d :: Res.arr encBool 4 j u :: H) w' ∧ f' 1 = U g ∧ f' 6 = j ∧ f' 7 = U n ∧ f' 18 = b ∧ f' 19 = U ((d.length : Int)) ∧ f' 20 = U (k' : Int)) s') aN ?_ ?_ ?_)
  ·have aW := z.f1
   exact ⟨s, (Zv _), aW, Z, Z, Z, Z, Z, Z⟩
  ·intro aw bK am cc c0 bf aP a bn
   obtain ⟨n, u⟩ := bK
   replace a := Jp a
   obtain ⟨ai, ay, t, ad, a2, a3, ae, af, y⟩ := aP
   refine Zc (Zd (O Z Z (Zq Z y af (Zb (V (Zc (QL (Zx (decide_eq_true (by omega))) (Qq (V (Zc (Qo (Zc (Zd ?_)))))))))))))
   obtain ⟨c, x, a⟩ := Zg a
   obtain ⟨cj, bS, aq⟩ := t.arr_at x
   refine O Z Z (Qd JG Z (Eq.trans ae aq) y (Qg x).1 (Qg x).2.1 (O Z Z (Qt (F := (Qa .i64)) (t) aq A3 Z Z Z x (Sub.refl _) ?_)))
   intro cx bB
   obtain rfl := Qv.1 bB
   refine O Z Z (Zo (v := U c) Z Z (Zb (V (Zc (Zc (QK (M := fun f' w' => ∃ (aF : PHeap) , PHeap.le ai aF ∧ St w0 aF (Res.arr (Qa .i64) 3 b d :: Res.arr encBool 4 j u :: H) w' ∧ f' 1 = U g ∧ f' 6 = j ∧ f' 7 = U n ∧ f' 9 = U c ∧ f' 18 = b ∧ f' 19 = U ((d.length : Int)) ∧ f' 20 = U ((aw : Int)) ∧ f' 30 = Vb (((decide (c < 0)) || decide (g ≤ c)))) ?_ ?_))))))
   ·refine Zd (O Z Z (Zm (v := U c) Z Z (O Z Z (Zq Z Z Z (O Z Z (Zm (v := Vb (decide (c < 0))) Z Z ?_))))))
    by_cases i : (decide (c < 0)) = true
    ·refine Qx 4 (by rw [i]; rfl) ?_
     refine Zb (V ?_)
     exact ⟨ai, (Zv _), (t.f1).f1, ad, a2, a3, Z, ae, af, y, (Zx (Qd7 i)).symm⟩
    replace i := Zk i
    refine Qj Z (Zf Z (Zx i)) Z (Zm (v := U c) Z Z (Qj Z (Zf Z (Zx i)) Z (Zm (v := U g) Z ad (Qj Z (Zf Z (Zx i)) Z (Exec.geq Z Z Z (O Z Z (Q8 (v := Vb (decide (g ≤ c))) Z (Zx i) Z (Zb (V ?_)))))))))
    exact ⟨ai, (Zv _), (t.f1).f1, ad, a2, a3, Z, ae, af, y, (Zx (YV i)).symm⟩
   intro cd c1 aT
   obtain ⟨aG, az, aa, bv, a4, bw, a5, bx, bz, b0, a6⟩ := aT
   refine (V ?_)
   rcases Qf a with ⟨p, a⟩ | ⟨p, a⟩
   ·refine Qr a6 p (Zc (Zd (O Z Z (Zo (v := U 0) Z Z (O Z Z (Zo (v := Vb false) Z Z (Zb (V (Q0 (Qi (QC (Qi (Qi (QC (Qi (Qi ?_))))))))))))))))
    have bV := Zu a
    subst am
    have bj := bl _ (bn (by intro _ h; cases h))
    have bW := Zu bj
    subst r
    refine ⟨_, QbU Z, ?_⟩
    exact ⟨aG, (Zt ay az), (aa.f1).drop, (Yp Z Z)⟩
   refine Qs a6 p ?_
   replace p := Zk p
   refine Qq (V (Zc (Zd (O Z Z (Zm (v := j) Z a4 (O Z Z (Zm (v := U c) Z a5 ?_)))))))
   obtain ⟨c8, ag, a⟩ := Zg a
   obtain ⟨ck, bT, ar⟩ := (aa.f1).arr_at ag
   refine O Z Z (Qd S36 Z ar Z (Qg ag).1 (Qg ag).2.1 ?_)
   obtain ⟨cm, bC, a⟩ := Zg a
   refine O Z Z (QQ aa.f1 ar A4 Z Z Z Z (J0.2 Z) bC ?_)
   intro c2 aX
   refine Zb (V (Zd (O Z Z (Zm (v := U n) Z bw (O Z Z (Zm (v := U c) Z a5 (O Z Z (Exec.add Z Z Z (O Z Z (Qc5 Z Z Z (O Z Z (Zo (v := U (max n (IntKind.i64.wrap (c + 1)))) Z Z (Zb (Qz (V (Zd (O Z Z (Exec.add Z b0 Z (O Z Z (Zm (v := U (IntKind.i64.wrap ((aw : Int) + 1))) Z Z (Zb (V ?_))))))))))))))))))))))
   have bX := Zu a
   subst am
   refine ⟨_, Z, ?_⟩; exact ⟨aG, (Zt ay az), aX.f1, bv, a4, Z, bx, bz, (Eq.trans Z (QF bf (z.f1).arr_le))⟩
  intro bL ce c3 aQ bo
  obtain ⟨n, u⟩ := bL
  obtain ⟨bH, bs, aY, b1, b2, b3, b4, a7, bN⟩ := aQ
  refine Zc (Zd (O Z Z (Zq Z bN a7 (Zb (V (Zc (QB (Zx (decide_eq_false (by omega))) (QJ (Qn (Qn (Q9 (V ?_))))))))))))
  refine ⟨_, .inl bo, ?_⟩; exact ⟨bH, bs, (aY.f1).f1, b1, b2, b3, b4, a7⟩
 rintro cf c4 ⟨bM, au, aU⟩
 have hm := au.elim (bh _) (bd _)
 clear au
 obtain ⟨m, ax⟩ := bM
 replace hm := Jp hm
 obtain ⟨ct, a0, aZ, co, b5, a8, cp, cq⟩ := aU
 refine (V (Zc (Zc (Zd (O Z Z (Zm (v := j) Z b5 (O Z Z (Zm (v := U m) Z a8 ?_))))))))
 obtain ⟨aj, a1, ba, bG⟩ := aZ.f1.freezeArr
 obtain ⟨an, bD, hm⟩ := Zg hm
 refine O Z Z (QgL S36 Z Z Z bG bD ?_)
 intro aK ah
 refine O Z Z (Zr S36 Z Z ah (O Z Z (Zm (v := U 0) Z Z (Zb (V ?_)))))
 obtain ⟨ao, aO, bm, bi, be⟩ := QN hm
 refine QK (M := fun f' w' => ∃ s', (ao = .next s' ∨ ao = .brk s') ∧ (fun (_ : Unit) => ∃ (aH : PHeap) , PHeap.le aj aH ∧ St w0 aH (Res.arr (Qa .i64) 3 b d :: H) w' ∧ f' 7 = U m ∧ f' 41 = aK ∧ f' 42 = U ((an.length : Int))) s') ?_ ?_
 ·refine Qo (JI (fun k' s' f' w' => (fun (_ : Unit) => ∃ (aI : PHeap) , PHeap.le aj aI ∧ St w0 aI (Res.arr (Qa .i64) 3 b d :: H) w' ∧ f' 7 = U m ∧ f' 41 = aK ∧ f' 42 = U ((an.length : Int)) ∧ f' 43 = U (k' : Int)) s') aO ?_ ?_ ?_)
  ·exact ⟨aj, (Zv _), ba, a8, Z, Z, Z⟩
  ·intro br cu ap cg c5 bg aR l bp
   obtain ⟨aJ, ac, ab, b6, a9, aA, ak⟩ := aR
   refine Zc (Zd (O Z Z (Zq Z ak aA (Zb (V (Zc (QL (Zx (decide_eq_true (by omega))) (Qq (V (Zc (Qo (Zc (Zd ?_)))))))))))))
   obtain ⟨aL, bE, l⟩ := Zg l
   refine O Z Z (Qy S36 Z a9 ak (ah.mono ac) bE ?_)
   intro bR cn aM
   refine O Z Z (Zw (E := encBool) ab A4 Z Z Z aM ?_)
   intro cy bF
   obtain rfl := J0.1 bF
   refine O Z Z (Zo (v := Vb aL) Z Z (Zb (V (Zc (Zd (O Z Z (Zm (v := Vb aL) Z Z (O Z Z (Exec.not Z Z (Zb (V ?_)))))))))))
   rcases Qf l with ⟨q, l⟩ | ⟨q, l⟩
   ·refine Qr Z q (Zc (Zd (O Z Z (Zo (v := U 0) Z Z (O Z Z (Zo (v := Vb false) Z Z (Zb (V (Q0 (QC (Qi (Qi (QC (Qi (Qi ?_)))))))))))))))
    have bY := Zu l
    subst ap
    have bk := bm _ (bp (by intro _ h; cases h))
    have bZ := Zu bk
    subst r
    refine ⟨_, QbU Z, ?_⟩
    exact ⟨aJ, (Zt (Zt a0 a1) ac), ab, (Yp Z Z)⟩
   refine Qs Z q ?_
   replace q := Zk q
   refine Qq (Qz (V (Zd (O Z Z (Exec.add Z ak Z (O Z Z (Zm (v := U (IntKind.i64.wrap ((br : Int) + 1))) Z Z (Zb (V ?_)))))))))
   have ca := Zu l
   subst ap
   refine ⟨_, Z, ?_⟩; exact ⟨aJ, ac, ab, b6, a9, aA, (Eq.trans Z (QF bg (SliceRep.le ah)))⟩
  intro cv ch c6 aS bq
  obtain ⟨bI, bt, bb, b7, b8, aB, bO⟩ := aS
  refine Zc (Zd (O Z Z (Zq Z bO aB (Zb (V (Zc (QB (Zx (decide_eq_false (by omega))) (QJ (Qn (Qn (Q9 (V ?_))))))))))))
  refine ⟨_, .inl bq, ?_⟩; exact ⟨bI, bt, bb, b7, b8, aB⟩
 rintro ci c7 ⟨cw, av, aV⟩
 have hm := av.elim (bi _) (be _)
 clear av
 obtain ⟨bJ, bu, bc, b9, cr, cs⟩ := aV
 refine (V (Zc (Zd (O Z Z (Zm (v := U m) Z b9 (O Z Z (Zo (v := U m) Z Z (O Z Z (Zo (v := Vb true) Z Z (Zb (V (Q0 ?_))))))))))))
 have cb := Zu hm
 subst r
 refine ⟨_, QbU Z, ?_⟩
 exact ⟨bJ, (Zt (Zt a0 a1) bu), bc, (Yp Z Z)⟩
theorem QdB {w0 w : World} {s : PHeap} {H : List Res} {a : Edge} {b : Edge} {r : Int} (hm : QaA a b = some r) (hS : St w0 s (H) w) :
  Calls Tryz.prog 137 #[Value.agg #[U (a.From), U (a.Label), U (a.To)], Value.agg #[U (b.From), U (b.Label), U (b.To)]] w fun e w' => ∃ v, e = .returned v ∧ ((fun (ab : Int) => ∃ (h : PHeap) , PHeap.le s h ∧ St w0 h (H) w' ∧ v = U ab) r) := by
 unfold QaA at hm
 refine Qw Tryz.func137 Z Z (Zc (Zd (O Z Z (Exec.box (cs := [U (a.From), U (a.Label), U (a.To)]) hS Z Z Z ?_))))
 intro ad al i
 refine O Z Z (Exec.box (cs := [U (b.From), U (b.Label), U (b.To)]) i Z Z Z ?_)
 intro ae am j
 refine O Z Z (Zo (v := U 0) Z Z (Zb (V (Zc (KT (n0 := 17) (qs 0 4 (qs 5 4 (qs 10 4 (.e 4 [5, 6, 7, 8, 10, 11, 12, 13] (.e 9 [10, 11, 12, 13] (.e 14 [] (.e 15 [] (.e 16 [] .done)))))))) Yc (by kernel_rfl) (by kernel_rfl) ?_)))))
 have d := j.drew
 refine Qm Z Z (Zp Qbx Z Z Z ⟨Z, ?_⟩)
 refine Qm Z Z (Zn (d.f1) A3 Z Z Z ⟨Z, ?_⟩)
 refine Qm Z Z (Zp Qbx Z Z Z ⟨Z, ?_⟩)
 refine Qm Z Z (Zn (d) A3 Z Z Z ⟨Z, ?_⟩)
 refine Qm Z Z (Zp Qaw Z Z Z ⟨Z, ?_⟩)
 refine Qm Z Z (Zn (d.f1) A3 Z Z Z ⟨Z, ?_⟩)
 refine Qm Z Z (Zp Qaw Z Z Z ⟨Z, ?_⟩)
 refine Qm Z Z (Zn (d) A3 Z Z Z ⟨Z, ?_⟩)
 refine Qm Z Z (Zp Qan Z Z Z ⟨Z, ?_⟩)
 refine Qm Z Z (Zn (d.f1) A3 Z Z Z ⟨Z, ?_⟩)
 refine Qm Z Z (Zp Qan Z Z Z ⟨Z, ?_⟩)
 refine Qm Z Z (Zn (d) A3 Z Z Z ⟨Z, ?_⟩)
 refine JQ Z Z (Tc Z Z Z (Zi Z (Zi Z Qk)) (JC (Jy a.From b.From) d).r ?_)
 rintro _ an ⟨ah, p, f, rfl⟩
 refine ⟨(Qb (Q4 Z Z (Zp Qaw Z Z Z ⟨Z, Z⟩)) (Qb (Q4 Z Z (Zn (f.f1) A3 Z Z Z ⟨Z, Z⟩)) (Qb (Q4 Z Z (Zp Qaw Z Z Z ⟨Z, Z⟩)) (Qb (Q4 Z Z (Zn (f) A3 Z Z Z ⟨Z, Z⟩)) (Qb (Q4 Z Z (Zp Qan Z Z Z ⟨Z, Z⟩)) (Qb (Q4 Z Z (Zn (f.f1) A3 Z Z Z ⟨Z, Z⟩)) (Qb (Q4 Z Z (Zp Qan Z Z Z ⟨Z, Z⟩)) (Qb (Q4 Z Z (Zn (f) A3 Z Z Z ⟨Z, Z⟩)) QV)))))))), ?_⟩
 refine JQ Z Z (Tc Z Z Z (Zi Z (Zi Z Qk)) (JC (Jy a.Label b.Label) f).r ?_)
 rintro _ ao ⟨ai, q, g, rfl⟩
 refine ⟨(Qb (Q4 Z Z (Zp Qan Z Z Z ⟨Z, Z⟩)) (Qb (Q4 Z Z (Zn (g.f1) A3 Z Z Z ⟨Z, Z⟩)) (Qb (Q4 Z Z (Zp Qan Z Z Z ⟨Z, Z⟩)) (Qb (Q4 Z Z (Zn (g) A3 Z Z Z ⟨Z, Z⟩)) QV)))), ?_⟩
 refine JQ Z Z (Tc Z Z Z (Zi Z (Zi Z Qk)) (JC (Jy a.To b.To) g).r ?_)
 rintro _ ap ⟨aj, t, k, rfl⟩
 refine ⟨QV, ?_⟩
 refine JQ Z Z (Exec.buildSlice (Te := 3) (cs := [U ((Qp a.From b.From)), U ((Qp a.Label b.Label)), U ((Qp a.To b.To))]) k Z (Qc (c := [U ((Qp a.From b.From))]) (Qh Z Z) (Qc (c := [U ((Qp a.Label b.Label))]) (Qh Z Z) (Qc (c := [U ((Qp a.To b.To))]) (Qh Z Z) Qu))) (fun _ => by kernel_rfl) ?_)
 intro af aq l
 refine ⟨QV, ?_⟩
 have m := St.boxArr (E := (Qa .i64)) (xs := [(Qp a.From b.From), (Qp a.Label b.Label), (Qp a.To b.To)]) l ⟨[U ((Qp a.From b.From))], [U ((Qp a.Label b.Label)), U ((Qp a.To b.To))], rfl, rfl, ⟨[U ((Qp a.Label b.Label))], [U ((Qp a.To b.To))], rfl, rfl, ⟨[U ((Qp a.To b.To))], [], rfl, rfl, rfl⟩⟩⟩ (by simp [maxLen])
 obtain ⟨ak, u, n, z⟩ := m.freezeArr
 obtain ⟨ac, y, hm⟩ := Zg hm
 refine JQ Z Z (Tc Z Z Z (Zi Z Qk) (Qbw y n z).r ?_)
 rintro _ ar ⟨aa, x, o, rfl⟩
 refine ⟨QV, ?_⟩
 refine QG (O Z Z (Zo (v := U ac) Z Z (Zb (V (Q0 ?_)))))
 have ag := Zu hm
 subst r
 refine ⟨_, QW Z, ?_⟩
 exact ⟨aa, (Zt (Zt (Zt (Zt p q) t) u) x), (o.drop).drop, Z⟩
end Go.Pw
