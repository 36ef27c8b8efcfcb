/- -/
import Derived.Test.YtpjojkomdndamaaGreatDoorLC
import Derived.Test.YtpjojkomdndamaaGreatDoorMx9
set_option maxRecDepth 100000
set_option maxHeartbeats 4000000
set_option linter.unusedVariables false
namespace Go.Pw
open Go.Proofs
theorem Qg0 {w0 w : World} {s : PHeap} {H : List Res} {n : Task} {o : Value} {p : Value} {q : Value} {t : Value} {r : (List base_Edge)} (hm : Qax n = some r) (hS : St w0 s (H) w) (ai : SliceRep (Qa .i64) s o n.Vars) (aF : SliceRep (Qa .i64) s p n.Init) (aG : SliceRep encFact s q n.Goal) (aj : SliceRep encOp s t n.Ops) :
  Calls Tryz.prog 23 #[Value.agg #[o, p, q, t]] w fun e w' => ∃ v, e = .returned v ∧ ((fun (bH : (List base_Edge)) => ∃ (au : PHeap) (aD : Value), PHeap.le s au ∧ St w0 au (H) w' ∧ v = aD ∧ SliceRep encbase_Edge au aD bH) r) := by
 unfold Qax at hm
 refine Qx Tryz.func23 Z Z (Zc (Zd (O Z Z (Exec.box (cs := [o, p, q, t]) hS Z Z Z ?_))))
 intro x cc ax
 refine O Z Z (Zo (v := Vn) Z Z (Zb (V (Zc (Zd (O Z Z (Zo (v := Vn) Z Z (Zb (V (Zc (Zc (Zd (O Z Z (Zp Yg Z Z Z (O Z Z (Zn (ax) A22 Z Z Z ?_))))))))))))))))
 obtain ⟨aw, bz, hm⟩ := Zg hm
 refine O Z Z (Tc Z Z Z (Zi Z Ql) (Qbn bz ax ai).r ?_)
 rintro av cd ⟨a7, _, h, aP, rfl, ar⟩
 refine O Z Z (Zr S44 Z Z ar (O Z Z (Zm (v := U 0) Z Z (Zb (V ?_)))))
 obtain ⟨an, aI, hm⟩ := Zg hm
 refine Qk (J0 (fun k' s' f' w' => (fun (an : (List base_Edge)) => ∃ (a8 : PHeap) (i : Value), PHeap.le a7 a8 ∧ St w0 a8 (Res.box x 26 [o, p, q, t] :: Res.arr encbase_Edge 57 i an :: H) w' ∧ f' 1 = Vq x ∧ f' 3 = i ∧ f' 11 = av ∧ f' 12 = U ((aw.length : Int)) ∧ f' 13 = U (k' : Int)) s') aI ?_ ?_ ?_)
 ·have aQ := aP.nilArr encbase_Edge 57
  exact ⟨a7, Vn, (Zv _), aQ.f1, Z, Z, Z, Z, Z⟩
 ·intro a an b8 bP ce aZ aK z
  obtain ⟨a9, i, g, ak, a0, bg, a1, a2, af⟩ := aK
  refine Zc (Zd (O Z Z (Zq Z af a2 (Zb (V (Zc (QG (Zx (decide_eq_true (by omega))) (Qp (V (Zc (Qk (Zc (Zd (O Z Z (Zm (v := U ((a : Int))) Z af ?_)))))))))))))))
  obtain ⟨cn, b0, z⟩ := Zg z
  refine O Z Z (Qq S44 Z a1 af (ar.mono g) b0 ?_)
  intro bI bV aH
  refine O Z Z (Zw (E := (QE (Qa .i64))) ak A22 Z Z Z aH ?_)
  intro ac b1
  have b5 := Jy.1 b1
  refine O Z Z (Zo (v := U ((a : Int))) Z Z (O Z Z (Zo (v := ac) Z Z (Zb (V (Zc (Zd (O Z Z (Zp YJ Z a0 Z (O Z Z (Zn (ak) A24 Z Z Z (O Z Z (Zr S24 Z Z (aj.mono (Zt h g)) (O Z Z (Zm (v := U 0) Z Z (Zb (V ?_)))))))))))))))))
  obtain ⟨am, aJ, z⟩ := Zg z
  refine Qk (J0 (fun k' s' f' w' => (fun (am : (List base_Edge)) => ∃ (aA : PHeap) (u : Value), PHeap.le a9 aA ∧ St w0 aA (Res.box x 26 [o, p, q, t] :: Res.arr encbase_Edge 57 u am :: H) w' ∧ f' 1 = Vq x ∧ f' 3 = u ∧ f' 4 = U ((a : Int)) ∧ f' 5 = ac ∧ f' 11 = av ∧ f' 12 = U ((aw.length : Int)) ∧ f' 13 = U ((a : Int)) ∧ f' 20 = U ((n.Ops.length : Int)) ∧ f' 21 = U (k' : Int)) s') aJ ?_ ?_ ?_)
  ·have aR := ak.f1
   exact ⟨a9, i, (Zv _), aR.f1, a0, bg, Z, Z, a1, a2, af, Z, Z⟩
  ·intro b am b9 bQ cf ba aL l
   obtain ⟨ca, u, m, ay, ab, a3, ao, ap, a4, a5, a6, aq, ag⟩ := aL
   refine Zc (Zd (O Z Z (Zq Z ag aq (Zb (V (Zc (QG (Zx (decide_eq_true (by omega))) (Qp (V (Zc (Qk (Zc (Zd (O Z Z (Zm (v := U ((b : Int))) Z ag (O Z Z (Zo (v := U ((b : Int))) Z Z (Zb (V (Zc (Zd (O Z Z (Qm (ds := [o, p, q, t]) (ay) A26 Z ab Z (O Z Z (Zm (v := ac) Z ap (O Z Z (Zm (v := U ((b : Int))) Z Z ?_)))))))))))))))))))))))))))
   obtain ⟨bE, b2, l⟩ := Zg l
   obtain ⟨co, ah⟩ := bE
   replace l := Je l
   refine O Z Z (Tc Z Z Z (Zi Z (Zi Z (Zi Z Ql))) (Qg1 b2 ay (ai.mono (Zt (Zt h g) m)) (aF.mono (Zt (Zt h g) m)) (aG.mono (Zt (Zt h g) m)) (aj.mono (Zt (Zt h g) m)) (b5.mono m)).r ?_)
   rintro _ cg ⟨aB, ad, az, al, rfl, b6⟩
   refine O Z Z (Zm (v := Value.tuple #[ad, Vb ah]) Z Z (O Z Z (Exec.extract (v := ad) Z Z Z (O Z Z (Exec.extract (v := Vb ah) Z Z Z (O Z Z (Zo (v := ad) Z Z (O Z Z (Zo (v := Vb ah) Z Z (Zb (V (Zc (Zd (O Z Z (Zm (v := Vb ah) Z Z (Zb (V ?_)))))))))))))))))
   obtain ⟨aa, d, l⟩ := Zg l
   refine QI (M := fun f' w' => (fun (aa : (List base_Edge)) => ∃ (aC : PHeap) (ae : Value), PHeap.le aB aC ∧ St w0 aC (Res.box x 26 [o, p, q, t] :: Res.arr encbase_Edge 57 ae aa :: H) w' ∧ f' 1 = Vq x ∧ f' 3 = ae ∧ f' 4 = U ((a : Int)) ∧ f' 5 = ac ∧ f' 11 = av ∧ f' 12 = U ((aw.length : Int)) ∧ f' 13 = U ((a : Int)) ∧ f' 20 = U ((n.Ops.length : Int)) ∧ f' 21 = U ((b : Int))) aa) ?_ ?_
   ·rcases Qg d with ⟨y, d⟩ | ⟨y, d⟩
    ·refine Qt Z y (Zd (O Z Z (Zm (v := u) Z a3 (O Z Z (Zm (v := U ((a : Int))) Z ao (O Z Z (Zm (v := U ((b : Int))) Z Z (O Z Z (Zp Yg Z ab Z (O Z Z (Zn (al) A22 Z Z Z (O Z Z (Zm (v := ad) Z Z ?_)))))))))))))
     obtain ⟨j, b3, d⟩ := Zg d
     refine O Z Z (Tc Z Z Z (Zi Z (Zi Z Ql)) (QgM b3 al (ai.mono (Zt (Zt (Zt h g) m) az)) b6).r ?_)
     rintro _ ch ⟨bA, bb, aS, rfl⟩
     refine O Z Z (Exec.build Z (Qb (c := [U ((a : Int))]) (Qi Z Z) (Qb (c := [U ((b : Int))]) (Qi Z Z) (Qb (c := [U j]) (Qi Z Z) Qw))) (v := Value.agg #[U ((a : Int)), U ((b : Int)), U j]) (fun _ => by kernel_rfl) (O Z Z (Exec.buildSlice (Te := 57) (cs := [U ((a : Int)), U ((b : Int)), U j]) aS Z (Qb (c := [U ((a : Int)), U ((b : Int)), U j]) (Qi Z Z) Qw) (fun _ => by kernel_rfl) ?_)))
     intro bJ ci aT
     obtain ⟨bU, b4, d⟩ := Zg d
     refine O Z Z (QT (E := encbase_Edge) (ys := [(⟨(a : Int), (b : Int), j⟩ : base_Edge)]) aT.f2 S54 Z57 Z (by decide) Z Z Z Z ⟨[U ((a : Int)), U ((b : Int)), U j], [], Z, ⟨[U ((a : Int))], [U ((b : Int)), U j], Z, Z, ⟨[U ((b : Int))], [U j], Z, Z, Z⟩⟩, Z⟩ Z b4 ?_)
     intro aE cj aU
     refine O Z Z (Zo (v := aE) Z Z (Zb (V ?_)))
     have bK := Zu d
     subst aa
     exact ⟨bA, aE, bb, aU.f1, ab, Z, ao, ap, a4, a5, a6, aq, ag⟩
    refine Qu Z y ?_
    replace y := Zk y
    refine Qp (V ?_)
    have bL := Zu d
    subst aa
    exact ⟨aB, u, (Zv _), (al.f1).f1, ab, a3, ao, ap, a4, a5, a6, aq, ag⟩
   intro bR ck aO
   obtain ⟨bB, ae, bc, aV, bh, bi, bj, bk, bl, bm, bn, bo, bp⟩ := aO
   refine (Qy (V (Zd (O Z Z (Exec.add Z bp Z (O Z Z (Zm (v := U (IntKind.i64.wrap ((b : Int) + 1))) Z Z (Zb (V ?_)))))))))
   have bM := Zu l
   subst b9
   exact ⟨bB, ae, (Zt (Zt m az) bc), (aV.f1).f1, bh, bi, bj, bk, bl, bm, bn, bo, (Eq.trans Z (Q9 ba (SliceRep.le (aj.mono (Zt h g)))))⟩
  intro bS cl aM
  obtain ⟨bC, u, bd, aW, bq, br, bW, bX, bs, bt, bu, bv, bF⟩ := aM
  refine Zc (Zd (O Z Z (Zq Z bF bv (Zb (V (Zc (Q7 (Zx (decide_eq_false (by omega))) (QC (Qj (Qj (Q4 (Qy (V (Zd (O Z Z (Exec.add Z bu Z (O Z Z (Zm (v := U (IntKind.i64.wrap ((a : Int) + 1))) Z Z (Zb (V ?_))))))))))))))))))))
  have bN := Zu z
  subst b8
  exact ⟨bC, u, (Zt g bd), (aW.f1).f1, bq, br, bs, bt, (Eq.trans Z (Q9 aZ (SliceRep.le ar)))⟩
 intro bT cm aN
 obtain ⟨cb, i, be, aX, bY, bw, bZ, bx, bG⟩ := aN
 refine Zc (Zd (O Z Z (Zq Z bG bx (Zb (V (Zc (Q7 (Zx (decide_eq_false (by omega))) (QC (Qj (Qj (Q4 (V (Zc (Zd (O Z Z (Zm (v := i) Z bw (O Z Z (Zo (v := i) Z Z (Zb (V (Q0 ?_)))))))))))))))))))))
 have bO := Zu hm
 subst r
 refine ⟨_, QU Z, ?_⟩
 obtain ⟨bD, bf, aY, b7⟩ := aX.f1.freezeArr
 exact ⟨bD, i, (Zt (Zt h be) bf), aY.drop, Z, b7⟩
theorem A57 : JK Tryz.prog 57 = some (true, 3) := by kernel_rfl
theorem Qlh : Jk Tryz.prog 57 2 = some 2 := by kernel_rfl
theorem Qne : Jk Tryz.prog 57 0 = some 0 := by kernel_rfl
theorem QnR : Jk Tryz.prog 57 1 = some 1 := by kernel_rfl
theorem QgK {w0 w : World} {s : PHeap} {H : List Res} {a : Task} {af : Value} {ag : Value} {ah : Value} {c : Value} {r : Bool} (hm : QaY a = some r) (hS : St w0 s (H) w) (c1 : SliceRep (Qa .i64) s af a.Vars) (c2 : SliceRep (Qa .i64) s ag a.Init) (c3 : SliceRep encFact s ah a.Goal) (y : SliceRep encOp s c a.Ops) :
  Calls Tryz.prog 24 #[Value.agg #[af, ag, ah, c]] w fun e w' => ∃ v, e = .returned v ∧ ((fun (c0 : Bool) => ∃ (aC : PHeap) , PHeap.le s aC ∧ St w0 aC (H) w' ∧ v = Value.bool (c0)) r) := by
 unfold QaY at hm
 refine Qx Tryz.func24 Z Z (Zc (Zd (O Z Z (Exec.box (cs := [af, ag, ah, c]) hS Z Z Z ?_))))
 intro c4 dn ar
 refine O Z Z (Zo (v := Vb false) Z Z (Zb (V (Zc (Zc (Zd (O Z Z (Zp YJ Z Z Z (O Z Z (Zn (ar) A24 Z Z Z (O Z Z (Zr S24 Z Z y (O Z Z (Zm (v := U 0) Z Z (Zb (V ?_))))))))))))))))
 obtain ⟨al, aO, bx, br, bl⟩ := QK hm
 refine QI (M := fun f' w' => ∃ s', (al = .next s' ∨ al = .brk s') ∧ (fun (_ : Unit) => ∃ (aD : PHeap) , PHeap.le s aD ∧ St w0 aD (H) w' ∧ f' 10 = c ∧ f' 11 = U ((a.Ops.length : Int))) s') ?_ ?_
 ·refine Qk (Jp (fun k' s' f' w' => (fun (_ : Unit) => ∃ (aE : PHeap) , PHeap.le s aE ∧ St w0 aE (H) w' ∧ f' 10 = c ∧ f' 11 = U ((a.Ops.length : Int)) ∧ f' 12 = U (k' : Int)) s') aO ?_ ?_ ?_)
  ·have ba := ar.drop
   exact ⟨s, (Zv _), ba, Z, Z, Z⟩
  ·intro o db am cI dp bo aR m b1
   obtain ⟨ad, aa, au, a2, a3, ai⟩ := aR
   refine Zc (Zd (O Z Z (Zq Z ai a3 (Zb (V (Zc (QG (Zx (decide_eq_true (by omega))) (Qp (V (Zc (Qk (Zc (Zd ?_)))))))))))))
   obtain ⟨d, cj, m⟩ := Zg m
   refine O Z Z (Qq S24 Z a2 ai (y.mono aa) cj ?_)
   intro c5 cR aL
   refine O Z Z (Zw (E := encOp) au A60 Z Z Z aL ?_)
   intro dk ck
   obtain ⟨aK, i, rfl, cp, t⟩ := Yu.1 ck
   refine O Z Z (Exec.alloc (cs := [Value.string (⟨#[]⟩), U 0, Vn, Vn]) au Z60 Z Z ?_)
   intro c6 dq bb
   refine O Z Z (Qe (ds := [Value.string (d.Name), U (d.Cost), aK, i]) (es := [Value.string (d.Name), U (d.Cost), aK, i]) bb A60 Z Z Z Z (Zj Z (Zj Z (Zj cp.one (Zj t.one Q5)))) (Nat.le_of_ble_eq_true Z) Z ?_)
   intro dr av
   refine Zb (V (Zc (Zd (O Z Z (Zp Qd8 Z Z Z (O Z Z (Zn (av) A58 Z Z Z (O Z Z (Zr S58 Z Z t (O Z Z (Zm (v := U 0) Z Z (Zb (V ?_)))))))))))))
   obtain ⟨an, aP, bz, bs, bm⟩ := QK m
   refine QI (M := fun f' w' => ∃ s', (an = .next s' ∨ an = .brk s') ∧ (fun (_ : Unit) => ∃ (aF : PHeap) , PHeap.le ad aF ∧ St w0 aF (H) w' ∧ f' 10 = c ∧ f' 11 = U ((a.Ops.length : Int)) ∧ f' 12 = U ((o : Int)) ∧ f' 17 = i ∧ f' 18 = U ((d.Effs.length : Int))) s') ?_ ?_
   ·refine Qk (Jp (fun k' s' f' w' => (fun (_ : Unit) => ∃ (aG : PHeap) , PHeap.le ad aG ∧ St w0 aG (H) w' ∧ f' 10 = c ∧ f' 11 = U ((a.Ops.length : Int)) ∧ f' 12 = U ((o : Int)) ∧ f' 17 = i ∧ f' 18 = U ((d.Effs.length : Int)) ∧ f' 19 = U (k' : Int)) s') aP ?_ ?_ ?_)
    ·have bc := av.drop
     exact ⟨ad, (Zv _), bc, a2, a3, ai, Z, Z, Z⟩
    ·intro z dc ao cJ dt bp aS n b2
     obtain ⟨ae, ab, aw, bE, bF, bG, a4, a5, aj⟩ := aS
     refine Zc (Zd (O Z Z (Zq Z aj a5 (Zb (V (Zc (QG (Zx (decide_eq_true (by omega))) (Qp (V (Zc (Qk (Zc (Zd ?_)))))))))))))
     obtain ⟨b, cl, n⟩ := Zg n
     refine O Z Z (Qq S58 Z a4 aj (t.mono ab) cl ?_)
     intro c7 cS aM
     refine O Z Z (Zw (E := encEffect) aw A95 Z Z Z aM ?_)
     intro dl cm
     obtain ⟨j, rfl, u⟩ := KS.1 cm
     refine O Z Z (Exec.alloc (cs := [Vn, U 0, U 0]) aw Z95 Z Z ?_)
     intro p du bd
     refine O Z Z (Qe (ds := [j, U (b.Var), U (b.Val)]) (es := [j, U (b.Var), U (b.Val)]) bd A95 Z Z Z Z (Zj u.one (Zj Z (Zj Z Q5))) (Nat.le_of_ble_eq_true Z) Z ?_)
     intro dv ax
     refine Zb (V (Zc (Zd (O Z Z (Zp Qhb Z Z Z (O Z Z (Zn (ax) A23 Z Z Z (O Z Z (Zr S23 Z Z u (O Z Z (Zm (v := U 0) Z Z (Zb (V ?_)))))))))))))
     obtain ⟨ap, aQ, b0, bt, bn⟩ := QK n
     refine QI (M := fun f' w' => ∃ s', (ap = .next s' ∨ ap = .brk s') ∧ (fun (_ : Unit) => ∃ (aH : PHeap) , PHeap.le ae aH ∧ St w0 aH (Res.box p 95 [j, U (b.Var), U (b.Val)] :: H) w' ∧ f' 6 = Vq p ∧ f' 10 = c ∧ f' 11 = U ((a.Ops.length : Int)) ∧ f' 12 = U ((o : Int)) ∧ f' 17 = i ∧ f' 18 = U ((d.Effs.length : Int)) ∧ f' 19 = U ((z : Int)) ∧ f' 24 = j ∧ f' 25 = U ((b.When.length : Int))) s') ?_ ?_
     ·refine Qk (Jp (fun k' s' f' w' => (fun (_ : Unit) => ∃ (aI : PHeap) , PHeap.le ae aI ∧ St w0 aI (Res.box p 95 [j, U (b.Var), U (b.Val)] :: H) w' ∧ f' 6 = Vq p ∧ f' 10 = c ∧ f' 11 = U ((a.Ops.length : Int)) ∧ f' 12 = U ((o : Int)) ∧ f' 17 = i ∧ f' 18 = U ((d.Effs.length : Int)) ∧ f' 19 = U ((z : Int)) ∧ f' 24 = j ∧ f' 25 = U ((b.When.length : Int)) ∧ f' 26 = U (k' : Int)) s') aQ ?_ ?_ ?_)
      ·exact ⟨ae, (Zv _), ax, Z, bE, bF, bG, a4, a5, aj, Z, Z, Z⟩
      ·intro b7 dd aq cK dw bq aT g b3
       obtain ⟨aJ, ac, ay, a6, bH, bI, bJ, bK, bL, bM, a7, a8, ak⟩ := aT
       refine Zc (Zd (O Z Z (Zq Z ak a8 (Zb (V (Zc (QG (Zx (decide_eq_true (by omega))) (Qp (V (Zc (Qk (Zc (Zd ?_)))))))))))))
       obtain ⟨x, cn, g⟩ := Zg g
       refine O Z Z (Qq S23 Z a7 ak (u.mono ac) cn ?_)
       intro c8 cT aN
       refine O Z Z (Zw (E := encFact) ay A90 Z Z Z aN ?_)
       intro dm co
       obtain rfl := KL.1 co
       refine O Z Z (Exec.alloc (cs := [U 0, U 0]) ay Z90 Z Z ?_)
       intro c9 dx be
       refine O Z Z (Qe (ds := [U (x.Var), U (x.Val)]) (es := [U (x.Var), U (x.Val)]) be A90 Z Z Z Z (Zj Z (Zj Z Q5)) (Nat.le_of_ble_eq_true Z) Z ?_)
       intro dy q
       refine Zb (V (Zc (Zd (O Z Z (Zp Yf Z Z Z (O Z Z (Zn (q) A3 Z Z Z (O Z Z (Zp QfB Z a6 Z (O Z Z (Zn (q.f1) A3 Z Z Z (O Z Z (Exec.neq Z Z Z (Zb (V ?_)))))))))))))))
       rcases Qg g with ⟨l, g⟩ | ⟨l, g⟩
       ·refine Qt Z l (Zc (Zd (O Z Z (Zo (v := Vb false) Z Z (Zb (V (Q0 (Q8 (Qh (Qh (Q8 (Qh (Q8 (Qh (Qh (Q8 (Qh (Q8 (Qh (Qh (Q8 (Qh (Qh ?_)))))))))))))))))))))))
        have cA := Zu g
        subst aq
        have bu := b0 _ (b3 (by intro _ h; cases h))
        have cB := Zu bu
        subst ao
        have bv := bz _ (b2 (by intro _ h; cases h))
        have cC := Zu bv
        subst am
        have bw := bx _ (b1 (by intro _ h; cases h))
        have cD := Zu bw
        subst r
        refine ⟨_, QU Z, ?_⟩
        exact ⟨aJ, (Zt (Zt aa ab) ac), (q.drop).drop, Z⟩
       refine Qu Z l ?_
       replace l := Zk l
       refine Qp (Qy (V (Zd (O Z Z (Exec.add Z ak Z (O Z Z (Zm (v := U (IntKind.i64.wrap ((b7 : Int) + 1))) Z Z (Zb (V ?_)))))))))
       have cE := Zu g
       subst aq
       refine ⟨_, Z, ?_⟩; exact ⟨aJ, ac, q.drop, a6, bH, bI, bJ, bK, bL, bM, a7, a8, (Eq.trans Z (Q9 bq (SliceRep.le u)))⟩
      intro de cL dz aU b4
      obtain ⟨cq, b8, bf, bN, bO, bP, bQ, bR, bS, bT, bU, a9, cx⟩ := aU
      refine Zc (Zd (O Z Z (Zq Z cx a9 (Zb (V (Zc (Q7 (Zx (decide_eq_false (by omega))) (QC (Qj (Qj (Q4 (V ?_))))))))))))
      refine ⟨_, .inl b4, ?_⟩; exact ⟨cq, b8, bf, bN, bO, bP, bQ, bR, bS, bT, bU, a9⟩
     rintro cM d0 ⟨df, az, aX⟩
     have n := az.elim (bt _) (bn _)
     clear az
     obtain ⟨cr, b9, bg, cU, bV, bW, bX, bY, bZ, ca, cV, cW⟩ := aX
     refine (Qy (V (Zd (O Z Z (Exec.add Z ca Z (O Z Z (Zm (v := U (IntKind.i64.wrap ((z : Int) + 1))) Z Z (Zb (V ?_)))))))))
     have cF := Zu n
     subst ao
     refine ⟨_, Z, ?_⟩; exact ⟨cr, (Zt ab b9), bg.drop, bV, bW, bX, bY, bZ, (Eq.trans Z (Q9 bp (SliceRep.le t)))⟩
    intro dg cN d1 aV b5
    obtain ⟨ct, bA, bh, cb, cc, cd, ce, aA, cy⟩ := aV
    refine Zc (Zd (O Z Z (Zq Z cy aA (Zb (V (Zc (Q7 (Zx (decide_eq_false (by omega))) (QC (Qj (Qj (Q4 (V ?_))))))))))))
    refine ⟨_, .inl b5, ?_⟩; exact ⟨ct, bA, bh, cb, cc, cd, ce, aA⟩
   rintro cO d2 ⟨dh, a0, aY⟩
   have m := a0.elim (bs _) (bm _)
   clear a0
   obtain ⟨cu, bB, bi, cf, cg, ch, cX, cY⟩ := aY
   refine (Qy (V (Zd (O Z Z (Exec.add Z ch Z (O Z Z (Zm (v := U (IntKind.i64.wrap ((o : Int) + 1))) Z Z (Zb (V ?_)))))))))
   have cG := Zu m
   subst am
   refine ⟨_, Z, ?_⟩; exact ⟨cu, (Zt aa bB), bi, cf, cg, (Eq.trans Z (Q9 bo (SliceRep.le y)))⟩
  intro di cP d3 aW b6
  obtain ⟨cv, bC, bj, ci, aB, cz⟩ := aW
  refine Zc (Zd (O Z Z (Zq Z cz aB (Zb (V (Zc (Q7 (Zx (decide_eq_false (by omega))) (QC (Qj (Qj (Q4 (V ?_))))))))))))
  refine ⟨_, .inl b6, ?_⟩; exact ⟨cv, bC, bj, ci, aB⟩
 rintro cQ d4 ⟨dj, a1, aZ⟩
 have hm := a1.elim (br _) (bl _)
 clear a1
 obtain ⟨cw, bD, bk, cZ, da⟩ := aZ
 refine (V (Zc (Zd (O Z Z (Zo (v := Vb true) Z Z (Zb (V (Q0 ?_))))))))
 have cH := Zu hm
 subst r
 refine ⟨_, QU Z, ?_⟩
 exact ⟨cw, bD, bk, Z⟩
theorem QcE {w0 w : World} {s : PHeap} {H : List Res} {aj : Task} {m : Value} {n : Value} {o : Value} {p : Value} {r : (List Int)} (hm : Kt aj = some r) (hS : St w0 s (H) w) (aQ : SliceRep (Qa .i64) s m aj.Vars) (bI : SliceRep (Qa .i64) s n aj.Init) (aR : SliceRep encFact s o aj.Goal) (aS : SliceRep encOp s p aj.Ops) :
  Calls Tryz.prog 21 #[Value.agg #[m, n, o, p], Value.slice none 0 0] w fun e w' => ∃ v, e = .returned v ∧ ((fun (dx : (List Int)) => ∃ (aJ : PHeap) (bE : Value), PHeap.le s aJ ∧ St w0 aJ (H) w' ∧ v = bE ∧ SliceRep (Qa .i64) aJ bE dx) r) := by
 unfold Kt at hm
 refine Qx Tryz.func21 Z Z (Zc (Zd (O Z Z (Exec.box (cs := [m, n, o, p]) hS Z Z Z ?_))))
 intro c ey bf
 refine O Z Z (Zo (v := Vn) Z Z (Zb (V (Zc (Zd (O Z Z (Zp Yg Z Z Z (O Z Z (Zn (bf) A22 Z Z Z ?_)))))))))
 obtain ⟨bH, cP, hm⟩ := Zg hm
 refine O Z Z (Tc Z Z Z (Zi Z Ql) (Qbn cP bf aQ).r ?_)
 rintro ak ez ⟨b6, _, aa, bY, rfl, ax⟩
 refine O Z Z (Zo (v := ak) Z Z (Zb (V (Zc (Zd (O Z Z (Zm (v := ak) Z Z (O Z Z (Zr S44 Z Z ax ?_)))))))))
 obtain ⟨ea, cQ, hm⟩ := Zg hm
 refine O Z Z (JX (E := (Qa .i64)) bY Jt Z3 Z Z Z Z cQ ?_)
 intro a e0 bZ
 refine O Z Z (Zo (v := a) Z Z (Zb (V (Zc (Zc (Zd (O Z Z (Zm (v := ak) Z Z (O Z Z (Zr S44 Z Z ax (O Z Z (Zm (v := U 0) Z Z (Zb (V ?_))))))))))))))
 obtain ⟨a4, bM, hm⟩ := Zg hm
 refine Qk (J0 (fun k' s' f' w' => (fun (a4 : (List Int)) => ∃ (b7 : PHeap) , PHeap.le b6 b7 ∧ St w0 b7 (Res.box c 26 [m, n, o, p] :: Res.arr (Qa .i64) 3 a a4 :: H) w' ∧ f' 1 = Vn ∧ f' 2 = Vq c ∧ f' 6 = a ∧ f' 20 = ak ∧ f' 21 = U ((bH.length : Int)) ∧ f' 22 = U (k' : Int)) s') bM ?_ ?_ ?_)
 ·have ca := bZ.f1
  exact ⟨b6, (Zv _), ca, Z, Z, Z, Z, Z, Z⟩
 ·intro ab a4 di dJ e1 cn bP i
  obtain ⟨en, a5, a1, bp, a7, ar, a8, a9, al⟩ := bP
  refine Zc (Zd (O Z Z (Zq Z al a9 (Zb (V (Zc (QG (Zx (decide_eq_true (by omega))) (Qp (V (Zc (Qk (Zc (Zd (O Z Z (Zm (v := U ((ab : Int))) Z al ?_)))))))))))))))
  obtain ⟨eH, cR, i⟩ := Zg i
  refine O Z Z (Qq S44 Z a8 al (ax.mono a5) cR ?_)
  intro dy ee bJ
  refine O Z Z (Zw (E := (QE (Qa .i64))) a1 A22 Z Z Z bJ ?_)
  intro bF cS
  have dg := Jy.1 cS
  refine O Z Z (Zo (v := U ((ab : Int))) Z Z (O Z Z (Zo (v := bF) Z Z (Zb (V (Zc (Zd (O Z Z (Zm (v := a) Z ar (O Z Z (Zm (v := U ((ab : Int))) Z Z ?_)))))))))))
  obtain ⟨eI, aF, i⟩ := Zg i
  obtain ⟨dS, d1, aY⟩ := (a1.f1).arr_at aF
  refine O Z Z (Qd Jt Z aY Z (Qf aF).1 (Qf aF).2.1 ?_)
  obtain ⟨eb, cT, i⟩ := Zg i
  refine O Z Z (QQ a1.f1 aY A3 Z Z Z Z (Qr.2 Z) cT ?_)
  intro e2 bg
  refine Zb (V (Zc (Zd (O Z Z (Zp QjN Z a7 Z (O Z Z (Zn (bg.f1) A23 Z Z Z (O Z Z (Zm (v := bF) Z Z ?_)))))))))
  obtain ⟨eM, cU, i⟩ := Zg i
  refine O Z Z (Tc Z Z Z (Zi Z (Zi Z Ql)) (QbH cU bg (aR.mono (Zt aa a5)) dg).r ?_)
  rintro _ e3 ⟨aK, cr, a2, rfl⟩
  refine Zb (V ?_)
  obtain ⟨ah, t, i⟩ := Zg i
  refine QI (M := fun f' w' => (fun (ah : (List Int)) => ∃ (b8 : PHeap) , PHeap.le aK b8 ∧ St w0 b8 (Res.box c 26 [m, n, o, p] :: Res.arr (Qa .i64) 3 a ah :: H) w' ∧ f' 1 = Vn ∧ f' 2 = Vq c ∧ f' 6 = a ∧ f' 20 = ak ∧ f' 21 = U ((bH.length : Int)) ∧ f' 22 = U ((ab : Int))) ah) ?_ ?_
  ·rcases Qg t with ⟨ae, t⟩ | ⟨ae, t⟩
   ·refine Qt Z ae (Zd (O Z Z (Zm (v := a) Z ar (O Z Z (Zm (v := U ((ab : Int))) Z Z ?_)))))
    obtain ⟨eJ, aG, t⟩ := Zg t
    obtain ⟨dT, d2, aZ⟩ := a2.arr_at aG
    refine O Z Z (Qd Jt Z aZ Z (Qf aG).1 (Qf aG).2.1 ?_)
    obtain ⟨ec, cV, t⟩ := Zg t
    refine O Z Z (QQ a2 aZ A3 Z Z Z Z (Qr.2 Z) cV ?_)
    intro e4 cb
    refine Zb (V ?_)
    have d8 := Zu t
    subst ah
    exact ⟨aK, (Zv _), cb.f1, bp, a7, ar, a8, a9, al⟩
   refine Qu Z ae ?_
   replace ae := Zk ae
   refine Qp (V ?_)
   have d9 := Zu t
   subst ah
   exact ⟨aK, (Zv _), a2.f1, bp, a7, ar, a8, a9, al⟩
  intro dK e5 bU
  obtain ⟨dj, ct, cc, cz, c0, c1, c2, c3, c4⟩ := bU
  refine (Qy (V (Zd (O Z Z (Exec.add Z c4 Z (O Z Z (Zm (v := U (IntKind.i64.wrap ((ab : Int) + 1))) Z Z (Zb (V ?_)))))))))
  have dA := Zu i
  subst di
  exact ⟨dj, (Zt (Zt a5 cr) ct), (cc.f1).f1, cz, c0, c1, c2, c3, (Eq.trans Z (Q9 cn (SliceRep.le ax)))⟩
 intro dL e6 bQ
 obtain ⟨eo, ac, bh, c5, bq, c6, eh, c7, du⟩ := bQ
 refine Zc (Zd (O Z Z (Zq Z du c7 (Zb (V (Zc (Q7 (Zx (decide_eq_false (by omega))) (QC (Qj (Qj (Q4 (V (Zc (Zd (O Z Z (Qm (ds := [m, n, o, p]) (bh) A26 Z bq Z ?_))))))))))))))))
 obtain ⟨aP, cW, hm⟩ := Zg hm
 refine O Z Z (Tc Z Z Z (Zi Z Ql) (Qg0 cW bh (aQ.mono (Zt aa ac)) (bI.mono (Zt aa ac)) (aR.mono (Zt aa ac)) (aS.mono (Zt aa ac))).r ?_)
 rintro q e7 ⟨aL, _, bl, cd, rfl, aI⟩
 refine O Z Z (Zo (v := q) Z Z (Zb (V (Zc (Zc (Zd (O Z Z (Zo (v := Vb true) Z Z (Zb (V ?_))))))))))
 obtain ⟨aU, bN, dZ, cp, cm⟩ := QK hm
 refine QI (M := fun f' w' => ∃ s', (aU = .next s' ∨ aU = .brk s') ∧ (J5 fun (aW : Bool) (bm : (List Int)) => ∃ (b9 : PHeap) , PHeap.le aL b9 ∧ St w0 b9 (Res.box c 26 [m, n, o, p] :: Res.arr (Qa .i64) 3 a bm :: H) w' ∧ f' 1 = Vn ∧ f' 2 = Vq c ∧ f' 6 = a ∧ f' 9 = q ∧ f' 10 = Vb aW) s') ?_ ?_
 ·refine Qk (Yy (fun s' f' w' => (J5 fun (a0 : Bool) (bn : (List Int)) => ∃ (bA : PHeap) , PHeap.le aL bA ∧ St w0 bA (Res.box c 26 [m, n, o, p] :: Res.arr (Qa .i64) 3 a bn :: H) w' ∧ f' 1 = Vn ∧ f' 2 = Vq c ∧ f' 6 = a ∧ f' 9 = q ∧ f' 10 = Vb a0) s') bN ?_ ?_)
  ·have ce := cd.f1
   exact ⟨aL, (Zv _), ce.f1, c5, bq, c6, Z, Z⟩
  intro dp aV dM e8 bR j cq
  obtain ⟨a0, bn⟩ := dp
  replace j := Je j
  obtain ⟨aM, ad, bi, br, bs, bt, aA, bu⟩ := bR
  refine Zc (Zc (Zd (O Z Z (Zm (v := Vb a0) Z bu (Zb (V ?_))))))
  rcases Qg j with ⟨af, j⟩ | ⟨af, j⟩
  ·refine Qt Z af (Qp (V (Qk (Zc (Zd (O Z Z (Zo (v := Vb false) Z Z (Zb (V (Zc (Zd (O Z Z (Zm (v := q) Z aA (O Z Z (Zr S54 Z Z (aI.mono ad) (O Z Z (Zm (v := U 0) Z Z (Zb (V ?_)))))))))))))))))))
   obtain ⟨dq, bO, j⟩ := Zg j
   refine Qk (J0 (fun k' s' f' w' => (J5 fun (ao : Bool) (aq : (List Int)) => ∃ (bB : PHeap) , PHeap.le aM bB ∧ St w0 bB (Res.box c 26 [m, n, o, p] :: Res.arr (Qa .i64) 3 a aq :: H) w' ∧ f' 1 = Vn ∧ f' 2 = Vq c ∧ f' 6 = a ∧ f' 9 = q ∧ f' 10 = Vb ao ∧ f' 41 = q ∧ f' 42 = U ((aP.length : Int)) ∧ f' 43 = U (k' : Int)) s') bO ?_ ?_ ?_)
   ·have cf := bi.f1
    exact ⟨aM, (Zv _), cf.f1, br, bs, bt, aA, Z, Z, Z, Z⟩
   ·intro a3 dr dk dN e9 co bS d
    obtain ⟨ao, aq⟩ := dr
    replace d := Je d
    obtain ⟨aN, a6, bj, aB, aC, ai, bv, bw, aD, aE, az⟩ := bS
    refine Zc (Zd (O Z Z (Zq Z az aE (Zb (V (Zc (QG (Zx (decide_eq_true (by omega))) (Qp (V (Zc (Qk (Zc (Zd ?_)))))))))))))
    obtain ⟨x, cX, d⟩ := Zg d
    refine O Z Z (Qq S54 Z aD az (aI.mono (Zt ad a6)) cX ?_)
    intro dz ef bK
    refine O Z Z (Zw (E := encbase_Edge) bj A57 Z Z Z bK ?_)
    intro er cY
    obtain rfl := QeT.1 cY
    refine O Z Z (Exec.alloc (cs := [U 0, U 0, U 0]) bj Z57 Z Z ?_)
    intro aT eA cg
    refine O Z Z (Qe (ds := [U (x.From), U (x.Op), U (x.To)]) (es := [U (x.From), U (x.Op), U (x.To)]) cg A57 Z Z Z Z (Zj Z (Zj Z (Zj Z Q5))) (Nat.le_of_ble_eq_true Z) Z ?_)
    intro eB ap
    refine Zb (V (Zc (Zd (O Z Z (Zp YJ Z aC Z (O Z Z (Zn (ap.f1) A24 Z Z Z (O Z Z (Zp QnR Z Z Z (O Z Z (Zn (ap) A3 Z Z Z ?_)))))))))))
    obtain ⟨am, cZ, d⟩ := Zg d
    refine O Z Z (Qq S24 Z Z Z (aS.mono (Zt (Zt (Zt (Zt aa ac) bl) ad) a6)) cZ ?_)
    intro d0 eg bL
    refine O Z Z (Zp Qhc Z Z Z (O Z Z (Zw (E := (Qa .i64)) ap A3 Z Z Z (bL.sub (Sub.iso (Qdo (QhJ (Sub.refl _)) Z)) Z) ?_)))
    intro et da
    obtain rfl := Qr.1 da
    refine O Z Z (Zo (v := U (am.Cost)) Z Z (Zb (V (Zc (Zc (Zd (O Z Z (Zm (v := Vn) Z aB (O Z Z (QdV Tryz.underlying22 Z Z Z (Zb (V (Q7 Z (Qp (V (Zc ?_))))))))))))))))
    obtain ⟨an, u, d⟩ := Zg d
    refine QI (M := fun f' w' => (fun (an : Bool) => ∃ (bC : PHeap) , PHeap.le aN bC ∧ St w0 bC (Res.box c 26 [m, n, o, p] :: Res.arr (Qa .i64) 3 a aq :: Res.box aT 57 [U (x.From), U (x.Op), U (x.To)] :: H) w' ∧ f' 1 = Vn ∧ f' 2 = Vq c ∧ f' 6 = a ∧ f' 9 = q ∧ f' 10 = Vb ao ∧ f' 12 = Vq aT ∧ f' 13 = U (am.Cost) ∧ f' 41 = q ∧ f' 42 = U ((aP.length : Int)) ∧ f' 43 = U ((a3 : Int)) ∧ f' 81 = Vb an) an) ?_ ?_
    ·refine K1 (n0 := 21) (qs 0 21 .done) K8 (by kernel_rfl) (by kernel_rfl) ?_
     have g := ap.drew
     refine Qn Z Z (Zm (v := a) Z ai ⟨Z, ?_⟩)
     refine Qn Z Z (Zp Qlh Z Z Z ⟨Z, ?_⟩)
     refine Qn Z Z (Zn (g) A3 Z Z Z ⟨Z, ?_⟩)
     obtain ⟨bG, y, u⟩ := Zg u
     obtain ⟨dU, d3, ba⟩ := (g.f2).arr_at y
     refine Qn Z Z (Qd Jt Z ba Z (Qf y).1 (Qf y).2.1 ⟨Z, ?_⟩)
     refine Qn Z Z (Qv (F := (Qa .i64)) (g.f2) ba A3 Z Z Z y (Sub.refl _) ?_)
     intro eu db
     obtain rfl := Qr.1 db
     refine ⟨Z, ?_⟩
     refine Qn Z Z (Zq Z Z Z ⟨Z, ?_⟩)
     refine Qn Z Z (Zm (v := Vb (decide (bG < 1125899906842624))) Z Z ⟨Z, ?_⟩)
     rcases Qg u with ⟨b, u⟩ | ⟨b, u⟩
     ·refine QA Z Z (Zf Z (Zx b)) (Zm (v := a) Z ai ⟨Z, ?_⟩)
      refine QA Z Z (Zf Z (Zx b)) (Zp Qlh Z Z Z ⟨Z, ?_⟩)
      refine QA Z Z (Zf Z (Zx b)) (Zn (g) A3 Z Z Z ⟨Z, ?_⟩)
      obtain ⟨dV, d4, bb⟩ := (g.f2).arr_at y
      refine QA Z Z (Zf Z (Zx b)) (Qd Jt Z bb Z (Qf y).1 (Qf y).2.1 ⟨Z, ?_⟩)
      refine QA Z Z (Zf Z (Zx b)) (Qv (F := (Qa .i64)) (g.f2) bb A3 Z Z Z y (Sub.refl _) ?_)
      intro ev dc
      obtain rfl := Qr.1 dc
      refine ⟨Z, ?_⟩
      refine QA Z Z (Zf Z (Zx b)) (Zm (v := U (am.Cost)) Z Z ⟨Z, ?_⟩)
      refine QA Z Z (Zf Z (Zx b)) (Exec.add Z Z Z ⟨Z, ?_⟩)
      refine QA Z Z (Zf Z (Zx b)) (Zm (v := a) Z ai ⟨Z, ?_⟩)
      refine QA Z Z (Zf Z (Zx b)) (Zp Qne Z Z Z ⟨Z, ?_⟩)
      refine QA Z Z (Zf Z (Zx b)) (Zn (g) A3 Z Z Z ⟨Z, ?_⟩)
      obtain ⟨dv, av, u⟩ := Zg u
      obtain ⟨dW, d5, bc⟩ := (g.f2).arr_at av
      refine QA Z Z (Zf Z (Zx b)) (Qd Jt Z bc Z (Qf av).1 (Qf av).2.1 ⟨Z, ?_⟩)
      refine QA Z Z (Zf Z (Zx b)) (Qv (F := (Qa .i64)) (g.f2) bc A3 Z Z Z av (Sub.refl _) ?_)
      intro ew dd
      obtain rfl := Qr.1 dd
      refine ⟨Z, ?_⟩
      refine QA Z Z (Zf Z (Zx b)) (Zq Z Z Z ⟨Z, ?_⟩)
      refine Qn Z Z (Zs (v := Vb (decide ((IntKind.i64.wrap (bG + am.Cost)) < dv))) Z (Zx b) Z ⟨Z, ?_⟩)
      refine QD (Zb (V ?_))
      have dB := Zu u
      subst an
      exact ⟨aN, (Zv _), (g.f2).f2, aB, aC, ai, bv, bw, Z, Z, aD, aE, az, Z⟩
     replace b := Zk b
     refine QZ 14 (by rw [b]; rfl) ?_
     refine QD (Zb (V ?_))
     have dC := Zu u
     subst an
     exact ⟨aN, (Zv _), (g.f2).f2, aB, aC, ai, bv, bw, Z, Z, aD, aE, az, Z⟩
    intro dO eC bV
    obtain ⟨aO, cu, z, bx, bz, au, b0, c8, b1, c9, b2, b3, b4, b5⟩ := bV
    refine (V ?_)
    obtain ⟨ay, l, d⟩ := Zg d
    refine QI (M := fun f' w' => (J5 fun (aX : Bool) (bo : (List Int)) => ∃ (bD : PHeap) , PHeap.le aO bD ∧ St w0 bD (Res.box c 26 [m, n, o, p] :: Res.arr (Qa .i64) 3 a bo :: H) w' ∧ f' 1 = Vn ∧ f' 2 = Vq c ∧ f' 6 = a ∧ f' 9 = q ∧ f' 10 = Vb aX ∧ f' 41 = q ∧ f' 42 = U ((aP.length : Int)) ∧ f' 43 = U ((a3 : Int))) ay) ?_ ?_
    ·rcases Qg l with ⟨ag, l⟩ | ⟨ag, l⟩
     ·refine Qt b5 ag (Zc (K1 (n0 := 10) (qs 0 10 .done) K8 (by kernel_rfl) (by kernel_rfl) (Qn Z Z (Zm (v := a) Z au ⟨Z, ?_⟩))))
      refine Qn Z Z (Zp Qne Z b1 Z ⟨Z, ?_⟩)
      refine Qn Z Z (Zn ((z.drew).f2) A3 Z Z Z ⟨Z, ?_⟩)
      refine Qn Z Z (Zm (v := a) Z au ⟨Z, ?_⟩)
      refine Qn Z Z (Zp Qlh Z b1 Z ⟨Z, ?_⟩)
      refine Qn Z Z (Zn ((z.drew).f2) A3 Z Z Z ⟨Z, ?_⟩)
      obtain ⟨eK, aw, l⟩ := Zg l
      obtain ⟨dX, d6, bd⟩ := ((z.drew).f1).arr_at aw
      refine Qn Z Z (Qd Jt Z bd Z (Qf aw).1 (Qf aw).2.1 ⟨Z, ?_⟩)
      refine Qn Z Z (Qv (F := (Qa .i64)) ((z.drew).f1) bd A3 Z Z Z aw (Sub.refl _) ?_)
      intro ex de
      obtain rfl := Qr.1 de
      refine ⟨Z, ?_⟩
      refine Qn Z Z (Zm (v := U (am.Cost)) Z c9 ⟨Z, ?_⟩)
      refine Qn Z Z (Exec.add Z Z Z ⟨Z, ?_⟩)
      refine QD ?_
      obtain ⟨eL, aH, l⟩ := Zg l
      obtain ⟨dY, d7, be⟩ := ((z.drew).f1).arr_at aH
      refine O Z Z (Qd Jt Z be Z (Qf aH).1 (Qf aH).2.1 ?_)
      obtain ⟨ed, df, l⟩ := Zg l
      refine O Z Z (QQ (z.drew).f1 be A3 Z Z Z Z (Qr.2 Z) df ?_)
      intro eD ch
      refine Zb (V (Zd (O Z Z (Zo (v := Vb true) Z Z (Zb (V ?_))))))
      have dD := Zu l
      subst ay
      exact ⟨aO, (Zv _), ((ch.f2).drop).f1, bx, bz, au, b0, Z, b2, b3, b4⟩
     refine Qu b5 ag ?_
     replace ag := Zk ag
     refine Qp (V ?_)
     have dE := Zu l
     subst ay
     exact ⟨aO, (Zv _), (((z.f2).drop).f1).f1, bx, bz, au, b0, c8, b2, b3, b4⟩
    intro dP eE bW
    obtain ⟨aX, bo⟩ := ay
    replace d := Je d
    obtain ⟨dl, cv, ci, cA, cB, cC, cD, cE, cF, cG, cH⟩ := bW
    refine (Qy (V (Zd (O Z Z (Exec.add Z cH Z (O Z Z (Zm (v := U (IntKind.i64.wrap ((a3 : Int) + 1))) Z Z (Zb (V ?_)))))))))
    have dF := Zu d
    subst dk
    exact ⟨dl, (Zt (Zt a6 cu) cv), (ci.f1).f1, cA, cB, cC, cD, cE, cF, cG, (Eq.trans Z (Q9 co (SliceRep.le (aI.mono ad))))⟩
   intro dQ eF bT
   obtain ⟨ao, aq⟩ := dq
   replace j := Je j
   obtain ⟨dm, cw, cj, cI, cJ, cK, cL, cM, ei, cN, dw⟩ := bT
   refine Zc (Zd (O Z Z (Zq Z dw cN (Zb (V (Zc (Q7 (Zx (decide_eq_false (by omega))) (QC (Qj (Qj (Q4 (Qy (V ?_)))))))))))))
   have dG := Zu j
   subst aV
   refine ⟨_, Z, ?_⟩; exact ⟨dm, (Zt ad cw), (cj.f1).f1, cI, cJ, cK, cL, cM⟩
  refine Qu Z af ?_
  replace af := Zk af
  refine QC (Qj (Qj (Q4 (V ?_))))
  have dH := Zu j
  subst aV
  refine ⟨_, .inr (cq (by intro _ h; cases h)), ?_⟩; exact ⟨aM, ad, (bi.f1).f1, br, bs, bt, aA, bu⟩
 rintro dR eG ⟨dt, bk, bX⟩
 have hm := bk.elim (cp _) (cm _)
 clear bk
 obtain ⟨aW, bm⟩ := dt
 replace hm := Je hm
 obtain ⟨ep, cx, ck, ej, ek, cO, el, em⟩ := bX
 refine (V (Zc (Zd (O Z Z (Zm (v := a) Z cO (O Z Z (Zo (v := a) Z Z (Zb (V (Q0 ?_))))))))))
 have dI := Zu hm
 subst r
 refine ⟨_, QU Z, ?_⟩
 obtain ⟨dn, cy, cl, dh⟩ := ck.f1.freezeArr
 exact ⟨dn, a, (Zt (Zt (Zt (Zt aa ac) bl) cx) cy), cl.drop, Z, dh⟩
theorem Qbp {w0 w : World} {s : PHeap} {H : List Res} {a7 : Task} {bn : (List Int)} {p : Int} {t : Value} {u : Value} {x : Value} {y : Value} {af : Value} {r : Bool} (hm : Kd a7 bn p = some r) (hS : St w0 s (H) w) (ar : SliceRep (Qa .i64) s t a7.Vars) (a8 : SliceRep (Qa .i64) s u a7.Init) (a9 : SliceRep encFact s x a7.Goal) (aA : SliceRep encOp s y a7.Ops) (bb : SliceRep (Qa .i64) s af bn) :
  Calls Tryz.prog 6 #[Value.agg #[t, u, x, y], af, Value.int .u16 (p)] w fun e w' => ∃ v, e = .returned v ∧ ((fun (d3 : Bool) => ∃ (b4 : PHeap) , PHeap.le s b4 ∧ St w0 b4 (H) w' ∧ v = Value.bool (d3)) r) := by
 unfold Kd at hm
 refine Qx Tryz.func6 Z Z (Zc (Zd (O Z Z (Exec.box (cs := [t, u, x, y]) hS Z Z Z ?_))))
 intro z e1 bR
 refine O Z Z (Zo (v := Vb false) Z Z (Zb (V (Zc (Zc ?_)))))
 obtain ⟨aq, b, hm⟩ := Zg hm
 refine QI (M := fun f' w' => (fun (aq : Bool) => ∃ (b5 : PHeap) , PHeap.le s b5 ∧ St w0 b5 (Res.box z 26 [t, u, x, y] :: H) w' ∧ f' 1 = af ∧ f' 2 = Value.int .u16 (p) ∧ f' 3 = Vq z ∧ f' 34 = Vb aq) aq) ?_ ?_
 ·refine Zd ?_
  obtain ⟨d4, cV, b⟩ := Zg b
  refine O Z Z (Tc Z Z Z Ql (QcH cV bR).r ?_)
  rintro _ e2 ⟨dm, l, aG, rfl⟩
  refine O Z Z (Exec.not Z Z (O Z Z (Zm (v := Vb (!d4)) Z Z ?_)))
  rcases Qg b with ⟨al, b⟩ | ⟨al, b⟩
  ·refine Qz 17 (by rw [al]; rfl) ?_
   refine Zb (V ?_)
   have dA := Zu b
   subst aq
   exact ⟨dm, l, aG, Z, Z, Z, Z⟩
  replace al := Zk al
  refine Qo Z (Zf Z (Zx al)) Z (Qm (ds := [t, u, x, y]) (aG) A26 Z Z Z ?_)
  obtain ⟨eO, cW, b⟩ := Zg b
  refine Qo Z (Zf Z (Zx al)) Z (Tc Z Z Z (Zi Z Ql) (QgL cW aG (ar.mono l) (a8.mono l) (a9.mono l) (aA.mono l)).r ?_)
  rintro _ e3 ⟨dn, ai, aH, rfl⟩
  refine Qo Z (Zf Z (Zx al)) Z (Exec.not Z Z ?_)
  refine Qz 2 (by rw [al]; rfl) ?_
  rcases Qg b with ⟨am, b⟩ | ⟨am, b⟩
  ·refine Qz 12 (by rw [am]; rfl) ?_
   refine Zb (V ?_)
   have dB := Zu b
   subst aq
   exact ⟨dn, (Zt l ai), aH, Z, Z, Z, Z⟩
  replace am := Zk am
  refine Qo Z (Zf Z (Zx am)) Z (Qm (ds := [t, u, x, y]) (aH) A26 Z Z Z ?_)
  obtain ⟨eP, cX, b⟩ := Zg b
  refine Qo Z (Zf Z (Zx am)) Z (Tc Z Z Z (Zi Z Ql) (QgK cX aH (ar.mono (Zt l ai)) (a8.mono (Zt l ai)) (a9.mono (Zt l ai)) (aA.mono (Zt l ai))).r ?_)
  rintro _ e4 ⟨dp, aB, aI, rfl⟩
  refine Qo Z (Zf Z (Zx am)) Z (Exec.not Z Z ?_)
  refine Qz 2 (by rw [am]; rfl) ?_
  rcases Qg b with ⟨ab, b⟩ | ⟨ab, b⟩
  ·refine Qz 7 (by rw [ab]; rfl) ?_
   refine Zb (V ?_)
   have dC := Zu b
   subst aq
   exact ⟨dp, (Zt (Zt l ai) aB), aI, Z, Z, Z, Z⟩
  replace ab := Zk ab
  refine Qo Z (Zf Z (Zx ab)) Z (Zm (v := af) Z Z (Qo Z (Zf Z (Zx ab)) Z (Zp Yg Z Z Z (Qo Z (Zf Z (Zx ab)) Z (Zn (aI) A22 Z Z Z (Qo Z (Zf Z (Zx ab)) Z (Zr Jt Z Z (ar.mono (Zt (Zt l ai) aB)) ?_)))))))
  obtain ⟨d5, cY, b⟩ := Zg b
  refine Qo Z (Zf Z (Zx ab)) Z (Tc Z Z Z (Zi Z (Zi Z Ql)) (Qfq cY aI (bb.mono (Zt (Zt l ai) aB))).r ?_)
  rintro _ e5 ⟨dq, cu, bS, rfl⟩
  refine Qo Z (Zf Z (Zx ab)) Z (Exec.not Z Z (O Z Z (QB (v := Vb (!d5)) Z (Zx ab) Z (Zb (V ?_)))))
  have dD := Zu b
  subst aq
  exact ⟨dq, (Zt (Zt (Zt l ai) aB) cu), bS, Z, Z, Z, Z⟩
 intro dQ e6 bN
 obtain ⟨el, g, aJ, c2, c3, aQ, bo⟩ := bN
 refine (V ?_)
 rcases Qg hm with ⟨az, hm⟩ | ⟨az, hm⟩
 ·refine Qt bo az (Zc (Zd ?_))
  obtain ⟨d6, cZ, hm⟩ := Zg hm
  refine O Z Z (Tc Z Z Z Ql (QcH cZ aJ).r ?_)
  rintro _ e7 ⟨dr, cv, bT, rfl⟩
  refine O Z Z (Zo (v := Vb d6) Z Z (Zb (V (Q0 (Qh ?_)))))
  have dE := Zu hm
  subst r
  refine ⟨_, QU Z, ?_⟩
  exact ⟨dr, (Zt g cv), bT.drop, Z⟩
 refine Qu bo az ?_
 replace az := Zk az
 refine Qp (V (Zc (Zd (O Z Z (Zp Yg Z aQ Z (O Z Z (Zn (aJ) A22 Z Z Z ?_)))))))
 obtain ⟨i, da, hm⟩ := Zg hm
 refine O Z Z (Tc Z Z Z (Zi Z Ql) (Qbn da aJ (ar.mono g)).r ?_)
 rintro ad e8 ⟨em, _, o, bg, rfl, a6⟩
 refine O Z Z (Zo (v := ad) Z Z (Zb (V (Zc (Zd (O Z Z (Qm (ds := [t, u, x, y]) (bg) A26 Z aQ Z ?_)))))))
 obtain ⟨eQ, db, hm⟩ := Zg hm
 refine O Z Z (Tc Z Z Z (Zi Z (Zi Z Ql)) (QcE db bg (ar.mono (Zt g o)) (a8.mono (Zt g o)) (a9.mono (Zt g o)) (aA.mono (Zt g o))).r ?_)
 rintro ao e9 ⟨en, _, m, bU, rfl, dk⟩
 refine O Z Z (Zo (v := ao) Z Z (Zb (V (Zc (Zc (Zd (O Z Z (Zm (v := Value.int .u16 (p)) Z c3 ?_))))))))
 refine O Z Z (QeX (by rw [Tryz.underlying48]; rfl) Tryz.underlying3 Z Z ?_)
 refine O Z Z (Zm (v := ad) Z Z (O Z Z (Zr S44 Z Z (a6.mono m) (O Z Z (Exec.buildSlice (Te := 3) (cs := [U (IntKind.i64.wrap p), U ((i.length : Int))]) bU Z (Qb (c := [U (IntKind.i64.wrap p)]) (Qi Z Z) (Qb (c := [U ((i.length : Int))]) (Qi Z Z) Qw)) (fun _ => by kernel_rfl) ?_)))))
 intro ax eA bV
 have bW := St.boxArr (E := (Qa .i64)) (xs := [IntKind.i64.wrap p, (i.length : Int)]) bV ⟨[U (IntKind.i64.wrap p)], [U ((i.length : Int))], rfl, rfl, ⟨[U ((i.length : Int))], [], rfl, rfl, rfl⟩⟩ (by simp [maxLen])
 obtain ⟨aZ, n, bX, aC⟩ := bW.freezeArr
 refine O Z Z (Zr Jt Z Z aC (O Z Z (Zm (v := U 0) Z Z (Zb (V ?_)))))
 obtain ⟨bd, bH, aN, ci, cf⟩ := QK hm
 refine QI (M := fun f' w' => ∃ s', (bd = .next s' ∨ bd = .brk s') ∧ (fun (_ : Unit) => ∃ (b6 : PHeap) , PHeap.le aZ b6 ∧ St w0 b6 (Res.box z 26 [t, u, x, y] :: H) w' ∧ f' 1 = af ∧ f' 3 = Vq z ∧ f' 7 = ad ∧ f' 8 = ao ∧ f' 45 = Vs (some ⟨ax, 0, none⟩) 2 2 ∧ f' 46 = U (([IntKind.i64.wrap p, (i.length : Int)].length : Int))) s') ?_ ?_
 ·refine Qk (Jp (fun k' s' f' w' => (fun (_ : Unit) => ∃ (b7 : PHeap) , PHeap.le aZ b7 ∧ St w0 b7 (Res.box z 26 [t, u, x, y] :: H) w' ∧ f' 1 = af ∧ f' 3 = Vq z ∧ f' 7 = ad ∧ f' 8 = ao ∧ f' 45 = Vs (some ⟨ax, 0, none⟩) 2 2 ∧ f' 46 = U (([IntKind.i64.wrap p, (i.length : Int)].length : Int)) ∧ f' 47 = U (k' : Int)) s') bH ?_ ?_ ?_)
  ·exact ⟨aZ, (Zv _), bX, c2, aQ, Z, Z, Z, Z, Z⟩
  ·intro a3 er ay dR eB bm bJ a aO
   obtain ⟨eo, d, aK, aR, aS, aT, bp, aU, aV, aE⟩ := bJ
   refine Zc (Zd (O Z Z (Zq Z aE aV (Zb (V (Zc (QG (Zx (decide_eq_true (by omega))) (Qp (V (Zc (Qk (Zc (Zd ?_)))))))))))))
   obtain ⟨aw, dc, a⟩ := Zg a
   refine O Z Z (Qq Jt Z aU aE (aC.mono d) dc ?_)
   intro d7 dY bE
   refine O Z Z (Zw (E := (Qa .i64)) aK A3 Z Z Z bE ?_)
   intro ez dd
   obtain rfl := Qr.1 dd
   refine O Z Z (Zo (v := U aw) Z Z (Zb (V (Zc (Zd (O Z Z (Qm (ds := [t, u, x, y]) (aK) A26 Z aS Z (O Z Z (Zm (v := af) Z aR (O Z Z (Zm (v := U aw) Z Z ?_)))))))))))
   obtain ⟨d0, de, a⟩ := Zg a
   obtain ⟨ek, ag⟩ := d0
   replace a := Je a
   refine O Z Z (Tc Z Z Z (Zi Z (Zi Z (Zi Z Ql))) (KG de aK (ar.mono (Zt (Zt (Zt (Zt g o) m) n) d)) (a8.mono (Zt (Zt (Zt (Zt g o) m) n) d)) (a9.mono (Zt (Zt (Zt (Zt g o) m) n) d)) (aA.mono (Zt (Zt (Zt (Zt g o) m) n) d)) (bb.mono (Zt (Zt (Zt (Zt g o) m) n) d))).r ?_)
   rintro _ eC ck
   rcases ck with ⟨j, rfl, b8, ba, aa, au, av, aj, bh, rfl, aY⟩ | ⟨rfl, dt, cw, bY, rfl⟩
   ·replace a := Qdq a
    obtain ⟨ex, ak, a⟩ := Zg a
    refine O Z Z (Zm (v := Value.tuple #[Vq aa, QH 50 (ag)]) Z Z (O Z Z (Exec.extract (v := Vq aa) Z Z Z (O Z Z (Exec.extract (v := QH 50 (ag)) Z Z Z (O Z Z (Zo (v := Vq aa) Z Z (O Z Z (Zo (v := QH 50 (ag)) Z Z (Zb (V (Zc (Zc (QI (M := fun f' w' => ∃ (b9 : PHeap) , PHeap.le b8 b9 ∧ St w0 b9 (Res.box z 26 [t, u, x, y] :: Res.box aa 74 [au, av, ba, Vb (j.exact)] :: Res.arr (Qa .i64) 3 au j.vars :: Res.arr encmergeshrink_stage 87 av j.stages :: H) w' ∧ f' 1 = af ∧ f' 3 = Vq z ∧ f' 7 = ad ∧ f' 8 = ao ∧ f' 11 = Vq aa ∧ f' 45 = Vs (some ⟨ax, 0, none⟩) 2 2 ∧ f' 46 = U (([IntKind.i64.wrap p, (i.length : Int)].length : Int)) ∧ f' 47 = U ((a3 : Int)) ∧ f' 70 = Vb (((decide ((i.length : Int) ≤ aw)) && !(QN j)))) ?_ ?_))))))))))))))
    ·refine Zd (O Z Z (Zm (v := QH 50 (ag)) Z Z (O Z Z (Jh (T := 50) Tryz.underlying32 Z Z Z (O Z Z (Zm (v := Vb (ag.isSome)) Z Z (Qo Z (Zf Z (Zx (Qar (QF ak)))) Z (Zm (v := U aw) Z Z (Qo Z (Zf Z (Zx (Qar (QF ak)))) Z (Zm (v := ad) Z aT (Qo Z (Zf Z (Zx (Qar (QF ak)))) Z (Zr S44 Z Z (a6.mono (Zt (Zt (Zt m n) d) aj)) (Qo Z (Zf Z (Zx (Qar (QF ak)))) Z (Exec.geq Z Z Z (Qo Z (Zf Z (Zx (Qar (QF ak)))) Z (Zm (v := Vb (decide ((i.length : Int) ≤ aw))) Z Z ?_))))))))))))))))
     by_cases ah : (decide ((i.length : Int) ≤ aw)) = true
     ·refine Qo Z (Zf Z (Zx ah)) Z (Zm (v := Vq aa) Z Z (Qo Z (Zf Z (Zx ah)) Z (Tc Z Z Z (Zi Z Ql) (JE (Jo j) ((bh.f2).f2).f2 aY).r ?_)))
      rintro _ eD ⟨du, cx, bZ, rfl⟩
      refine Qo Z (Zf Z (Zx ah)) Z (Exec.not Z Z (Qo Z (Zf Z (Zx (Qar (QF ak)))) Z (Zs (v := Vb (!(QN j))) Z (Zx ah) Z (O Z Z (QB (v := Vb (!(QN j))) Z (Zx (Qar (QF ak))) Z (Zb (V ?_)))))))
      exact ⟨du, cx, (((bZ.f2).f2).f2).f3, aR, aS, aT, bp, Z, aU, aV, aE, (Zx (QmZ ah)).symm⟩
     replace ah := Zk ah
     refine Qz 3 (by rw [ah]; rfl) ?_
     refine Qo Z (Zf Z (Zx (Qar (QF ak)))) Z (QB (v := Vb false) Z Z Z (O Z Z (QB (v := Vb false) Z (Zx (Qar (QF ak))) Z (Zb (V ?_)))))
     exact ⟨b8, (Zv _), (((bh.f2).f2).f2).f3, aR, aS, aT, bp, Z, aU, aV, aE, (Zx (Qna ah)).symm⟩
    intro dS eE bO
    obtain ⟨dv, ae, bi, bq, br, aW, bs, bt, bu, bv, bw, bx⟩ := bO
    refine (V ?_)
    rcases Qg a with ⟨a0, a⟩ | ⟨a0, a⟩
    ·refine Qt bx a0 (Zc (Zd (O Z Z (Zo (v := Vb false) Z Z (Zb (V (Q0 (Qh (Q8 (Qh (Qh (Q8 (Qh (Qh ?_))))))))))))))
     have dF := Zu a
     subst ay
     have cl := aN _ (aO (by intro _ h; cases h))
     have dG := Zu cl
     subst r
     refine ⟨_, QU Z, ?_⟩
     exact ⟨dv, (Zt (Zt (Zt (Zt (Zt (Zt g o) m) n) d) aj) ae), (((bi.drop).drop).drop).drop, Z⟩
    refine Qu bx a0 ?_
    replace a0 := Zk a0
    refine Qp (V (Zc (Zc (Zd (O Z Z (Zm (v := Vq aa) Z bt (O Z Z (Tc Z Z Z (Zi Z Ql) (JE (Jo j) ((bi.f3).f3).f3 (aY.mono ae)).r ?_))))))))
    rintro _ eF ⟨aD, an, bj, rfl⟩
    refine O Z Z (Exec.not Z Z (Zb (V ?_)))
    rcases Qg a with ⟨a1, a⟩ | ⟨a1, a⟩
    ·refine Qt Z a1 (QC (Qj (Q4 (V (Zd (O Z Z (Exec.add Z bw Z (O Z Z (Zm (v := U (IntKind.i64.wrap ((a3 : Int) + 1))) Z Z (Zb (V ?_)))))))))))
     have dH := Zu a
     subst ay
     refine ⟨_, Z, ?_⟩; exact ⟨aD, (Zt (Zt (Zt d aj) ae) an), ((bj.drop).drop).drop, bq, br, aW, bs, bu, bv, (Eq.trans Z (Q9 bm (SliceRep.le aC)))⟩
    refine Qu Z a1 ?_
    replace a1 := Zk a1
    refine Qp (V (Zc (Zd (O Z Z (Zm (v := ad) Z aW (O Z Z (Zr S44 Z Z (a6.mono (Zt (Zt (Zt (Zt (Zt m n) d) aj) ae) an)) (O Z Z (Zm (v := U 0) Z Z (Zb (V ?_)))))))))))
    obtain ⟨be, bI, cp, cj, cg⟩ := QK a
    refine QI (M := fun f' w' => ∃ s', (be = .next s' ∨ be = .brk s') ∧ (fun (_ : Unit) => ∃ (bA : PHeap) , PHeap.le aD bA ∧ St w0 bA (Res.box z 26 [t, u, x, y] :: Res.box aa 74 [au, av, ba, Vb (j.exact)] :: Res.arr (Qa .i64) 3 au j.vars :: Res.arr encmergeshrink_stage 87 av j.stages :: H) w' ∧ f' 1 = af ∧ f' 3 = Vq z ∧ f' 7 = ad ∧ f' 8 = ao ∧ f' 11 = Vq aa ∧ f' 45 = Vs (some ⟨ax, 0, none⟩) 2 2 ∧ f' 46 = U (([IntKind.i64.wrap p, (i.length : Int)].length : Int)) ∧ f' 47 = U ((a3 : Int)) ∧ f' 74 = ad ∧ f' 75 = U ((i.length : Int))) s') ?_ ?_
    ·refine Qk (Jp (fun k' s' f' w' => (fun (_ : Unit) => ∃ (bB : PHeap) , PHeap.le aD bB ∧ St w0 bB (Res.box z 26 [t, u, x, y] :: Res.box aa 74 [au, av, ba, Vb (j.exact)] :: Res.arr (Qa .i64) 3 au j.vars :: Res.arr encmergeshrink_stage 87 av j.stages :: H) w' ∧ f' 1 = af ∧ f' 3 = Vq z ∧ f' 7 = ad ∧ f' 8 = ao ∧ f' 11 = Vq aa ∧ f' 45 = Vs (some ⟨ax, 0, none⟩) 2 2 ∧ f' 46 = U (([IntKind.i64.wrap p, (i.length : Int)].length : Int)) ∧ f' 47 = U ((a3 : Int)) ∧ f' 74 = ad ∧ f' 75 = U ((i.length : Int)) ∧ f' 76 = U (k' : Int)) s') bI ?_ ?_ ?_)
     ·have ca := bj.f2
      exact ⟨aD, (Zv _), ((ca.f2).f2).f3, bq, br, aW, bs, bt, bu, bv, bw, Z, Z, Z⟩
     ·intro a4 es bf dT eG ch bK ac cq
      obtain ⟨ep, a5, aL, c4, c5, c6, aX, bz, c7, c8, c9, b0, b1, aF⟩ := bK
      refine Zc (Zd (O Z Z (Zq Z aF b1 (Zb (V (Zc (QG (Zx (decide_eq_true (by omega))) (Qp (V (Zc (Qk (Zc (Zd (O Z Z (Zm (v := U ((a4 : Int))) Z aF ?_)))))))))))))))
      obtain ⟨eM, df, ac⟩ := Zg ac
      refine O Z Z (Qq S44 Z b0 aF (a6.mono (Zt (Zt (Zt (Zt (Zt (Zt m n) d) aj) ae) an) a5)) df ?_)
      intro d8 dZ bF
      refine O Z Z (Zw (E := (QE (Qa .i64))) aL A22 Z Z Z bF ?_)
      intro bD dg
      have dl := Jy.1 dg
      refine O Z Z (Zo (v := U ((a4 : Int))) Z Z (O Z Z (Zo (v := bD) Z Z (Zb (V (Zc (K1 (n0 := 8) (.q 0 (.q 1 (qs 3 4 (.e 2 [3, 4, 5, 6] (.q 7 .done))))) K8 (by kernel_rfl) (by kernel_rfl) (Qn Z Z (Zm (v := Vq aa) Z bz ⟨Z, ?_⟩)))))))))
      refine Qn Z Z (Zm (v := bD) Z Z ⟨Z, ?_⟩)
      refine Qn Z Z (Zm (v := ao) Z aX ⟨Z, ?_⟩)
      refine Qn Z Z (Zm (v := U ((a4 : Int))) Z Z ⟨Z, ?_⟩)
      obtain ⟨eN, dh, ac⟩ := Zg ac
      refine Qn Z Z (QP Jt Z Z Z (dk.mono (Zt (Zt (Zt (Zt (Zt n d) aj) ae) an) a5)) dh ?_)
      intro d9 ea bc bG
      refine ⟨Z, ?_⟩
      refine Qn Z Z (Zw (E := (Qa .i64)) aL.drew A3 Z Z Z bc ?_)
      intro e0 di
      obtain rfl := Qr.1 di
      refine ⟨Z, ?_⟩
      obtain ⟨eR, dj, ac⟩ := Zg ac
      refine JI Z Z (Tc Z Z Z (Zi Z (Zi Z Ql)) (Kb dj (((aL.drew).f3).f3).f3 (aY.mono (Zt (Zt ae an) a5)) dl).r ?_)
      rintro _ eH ⟨bC, aP, aM, rfl⟩
      refine ⟨(Qc (Q1 Z Z (Zm (v := ao) Z aX ⟨Z, Z⟩)) (Qc (Q1 Z Z (Zm (v := U ((a4 : Int))) Z Z ⟨Z, Z⟩)) (Qc (Q1 Z Z (Qdc Z Z Z bG ⟨Z, Z⟩)) (Qc (Q1 Z Z (Zw (E := (Qa .i64)) aM A3 Z Z Z (bc.mono aP) (fun _ q => ⟨Z, Qr.1 q⟩))) QV)))), ?_⟩
      refine Qn Z Z (Exec.neq Z Z Z ⟨Z, ?_⟩)
      refine QD (Zb (V ?_))
      rcases Qg ac with ⟨a2, ac⟩ | ⟨a2, ac⟩
      ·refine Qt Z a2 (Zc (Zd (O Z Z (Zo (v := Vb false) Z Z (Zb (V (Q0 (Q8 (Qh (Qh (Q8 (Qh (Q8 (Qh (Qh (Q8 (Qh (Qh ?_))))))))))))))))))
       have dI := Zu ac
       subst bf
       have cm := cp _ (cq (by intro _ h; cases h))
       have dJ := Zu cm
       subst ay
       have cn := aN _ (aO (by intro _ h; cases h))
       have dK := Zu cn
       subst r
       refine ⟨_, QU Z, ?_⟩
       exact ⟨bC, (Zt (Zt (Zt (Zt (Zt (Zt (Zt (Zt (Zt g o) m) n) d) aj) ae) an) a5) aP), (((aM.drop).drop).drop).drop, Z⟩
      refine Qu Z a2 ?_
      replace a2 := Zk a2
      refine Qp (Qy (V (Zd (O Z Z (Exec.add Z aF Z (O Z Z (Zm (v := U (IntKind.i64.wrap ((a4 : Int) + 1))) Z Z (Zb (V ?_)))))))))
      have dL := Zu ac
      subst bf
      refine ⟨_, Z, ?_⟩; exact ⟨bC, (Zt a5 aP), (((aM.f2).f2).f2).f3, c4, c5, c6, aX, bz, c7, c8, c9, b0, b1, (Eq.trans Z (Q9 ch (SliceRep.le (a6.mono (Zt (Zt (Zt (Zt (Zt m n) d) aj) ae) an)))))⟩
     intro et dU eI bL cr
     obtain ⟨dw, cy, cb, cA, cB, cC, cD, cE, cF, cG, cH, cI, b2, d1⟩ := bL
     refine Zc (Zd (O Z Z (Zq Z d1 b2 (Zb (V (Zc (Q7 (Zx (decide_eq_false (by omega))) (QC (Qj (Qj (Q4 (V ?_))))))))))))
     refine ⟨_, .inl cr, ?_⟩; exact ⟨dw, cy, (((cb.f3).f3).f3).f3, cA, cB, cC, cD, cE, cF, cG, cH, cI, b2⟩
    rintro dV eJ ⟨eu, bk, bP⟩
    have a := bk.elim (cj _) (cg _)
    clear bk
    obtain ⟨dx, cz, cc, cJ, cK, cL, cM, eb, cN, cO, cP, ec, ed⟩ := bP
    refine (Qy (V (Zd (O Z Z (Exec.add Z cP Z (O Z Z (Zm (v := U (IntKind.i64.wrap ((a3 : Int) + 1))) Z Z (Zb (V ?_)))))))))
    have dM := Zu a
    subst ay
    refine ⟨_, Z, ?_⟩; exact ⟨dx, (Zt (Zt (Zt (Zt d aj) ae) an) cz), (((((cc.f1).drop).f1).drop).f1).drop, cJ, cK, cL, cM, cN, cO, (Eq.trans Z (Q9 bm (SliceRep.le aC)))⟩
   replace a := Qdr a
   obtain ⟨ey, ap, a⟩ := Zg a
   refine O Z Z (Zm (v := Value.tuple #[Vp none, QH 50 (ag)]) Z Z (O Z Z (Exec.extract (v := Vp none) Z Z Z (O Z Z (Exec.extract (v := QH 50 (ag)) Z Z Z (O Z Z (Zo (v := Vp none) Z Z (O Z Z (Zo (v := QH 50 (ag)) Z Z (Zb (V (Zc (Zc (Zd (O Z Z (Zm (v := QH 50 (ag)) Z Z (O Z Z (Jh (T := 50) Tryz.underlying32 Z Z Z (O Z Z (Zm (v := Vb (ag.isSome)) Z Z (Zl Z (Zf Z (Zx (QF ap))) Z Z (Zl Z (Zf Z (Zx (QF ap))) Z Z (Zl Z (Zf Z (Zx (QF ap))) Z Z (Zl Z (Zf Z (Zx (QF ap))) Z Z (Zl Z (Zf Z (Zx (QF ap))) Z Z (Qz 3 Z (Zl Z (Zf Z (Zx (QF ap))) Z Z (O Z Z (Zs (v := Vb true) Z (Zx (QF ap)) Z (Zb (V (QG Z (Zc (Zd (O Z Z (Zo (v := Vb false) Z Z (Zb (V (Q0 (Qh (Q8 (Qh (Qh (Q8 (Qh (Qh ?_))))))))))))))))))))))))))))))))))))))))))))))
   have dN := Zu a
   subst ay
   have co := aN _ (aO (by intro _ h; cases h))
   have dO := Zu co
   subst r
   refine ⟨_, QU Z, ?_⟩
   exact ⟨dt, (Zt (Zt (Zt (Zt (Zt g o) m) n) d) cw), bY.drop, Z⟩
  intro ev dW eK bM ct
  obtain ⟨dy, c0, cd, cQ, cR, cS, cT, cU, b3, d2⟩ := bM
  refine Zc (Zd (O Z Z (Zq Z d2 b3 (Zb (V (Zc (Q7 (Zx (decide_eq_false (by omega))) (QC (Qj (Qj (Q4 (V ?_))))))))))))
  refine ⟨_, .inl ct, ?_⟩; exact ⟨dy, c0, cd, cQ, cR, cS, cT, cU, b3⟩
 rintro dX eL ⟨ew, bl, bQ⟩
 have hm := bl.elim (ci _) (cf _)
 clear bl
 obtain ⟨dz, c1, ce, ee, ef, eg, eh, ei, ej⟩ := bQ
 refine (V (Zc (Zd (O Z Z (Zo (v := Vb true) Z Z (Zb (V (Q0 ?_))))))))
 have dP := Zu hm
 subst r
 refine ⟨_, QU Z, ?_⟩
 exact ⟨dz, (Zt (Zt (Zt (Zt g o) m) n) c1), ce.drop, Z⟩
end Go.Pw
