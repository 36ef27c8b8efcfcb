/- -/
import Derived.Test.YtpjojkomdndamaaGreatDoorLC
import Derived.Test.YtpjojkomdndamaaGreatDoorMx9
set_option maxRecDepth 100000
set_option maxHeartbeats 4000000
set_option linter.unusedVariables false
namespace Go.Pw
open Go.Proofs
theorem YQ {w0 w : World} {s : PHeap} {H : List Res} {b : (List Int)} {c : Value} {r : Int} (hm : J8 b = some r) (hS : St w0 s (H) w) (f : SliceRep (Qa .i64) s c b) :
  Calls Tryz.prog 19 #[Value.pointer none, c] w fun e w' => ∃ v, e = .returned v ∧ ((fun (d : Int) => ∃ (a : PHeap) , PHeap.le s a ∧ St w0 a (H) w' ∧ v = U d) r) := by
 unfold J8 at hm
 refine Qw Tryz.func19 Z Z (Zc (Zd (O Z Z (Zo (v := U 0) Z Z (Zb (V (Zc (Zc (Zd (O Z Z (Zm (v := Vp none) Z Z (O Z Z (Kh Tryz.underlying30 Z Z Z (Qx 9 Z (Zb (V (QL Z (Zc (Zd (O Z Z (Zo (v := U 1125899906842624) Z Z (Zb (V (Q0 (Qi ?_)))))))))))))))))))))))))
 have g := Zu hm
 subst r
 refine ⟨_, QW Z, ?_⟩
 exact ⟨s, (Zv _), hS, Z⟩
theorem YU {w0 w : World} {s : PHeap} {H : List Res} {r : Int} (hm : JE = some r) (hS : St w0 s (H) w) :
  Calls Tryz.prog 15 #[Value.pointer none] w fun e w' => ∃ v, e = .returned v ∧ ((fun (b : Int) => ∃ (a : PHeap) , PHeap.le s a ∧ St w0 a (H) w' ∧ v = U b) r) := by
 unfold JE at hm
 refine Qw Tryz.func15 Z Z (Zc (Zd (O Z Z (Zo (v := U 0) Z Z (Zb (V (Zc (Zc (Zd (O Z Z (Zm (v := Vp none) Z Z (O Z Z (Kh Tryz.underlying30 Z Z Z (Zb (V (QL Z (Zc (Zd (O Z Z (Zo (v := U 0) Z Z (Zb (V (Q0 (Qi ?_))))))))))))))))))))))))
 have c := Zu hm
 subst r
 refine ⟨_, QW Z, ?_⟩
 exact ⟨s, (Zv _), hS, Z⟩
theorem YR {w0 w : World} {s : PHeap} {H : List Res} {r : Bool} (hm : J9 = some r) (hS : St w0 s (H) w) :
  Calls Tryz.prog 16 #[Value.pointer none] w fun e w' => ∃ v, e = .returned v ∧ ((fun (b : Bool) => ∃ (a : PHeap) , PHeap.le s a ∧ St w0 a (H) w' ∧ v = Value.bool (b)) r) := by
 unfold J9 at hm
 refine Qw Tryz.func16 Z Z (Zc (Zd (O Z Z (Zo (v := Vb false) Z Z (Zb (V (Zc (Zd (O Z Z (Zm (v := Vp none) Z Z (O Z Z (Qc6 Tryz.underlying30 Z Z Z (Qx 7 Z (Zb (V (Q0 ?_))))))))))))))))
 have c := Zu hm
 subst r
 refine ⟨_, QW Z, ?_⟩
 exact ⟨s, (Zv _), hS, Z⟩
theorem QbT {w0 w : World} {s : PHeap} {H : List Res} {a5 : Task} {ax : (List Int)} {ah : Int} {m : Value} {n : Value} {o : Value} {p : Value} {z : Value} {r : Bool} (hm : K4 a5 ax ah = some r) (hS : St w0 s (H) w) (u : SliceRep (Qa .i64) s m a5.Vars) (a7 : SliceRep (Qa .i64) s n a5.Init) (a8 : SliceRep encFact s o a5.Goal) (a1 : SliceRep encOp s p a5.Ops) (aJ : SliceRep (Qa .i64) s z ax) :
  Calls Tryz.prog 9 #[Value.agg #[m, n, o, p], z, U ah] w fun e w' => ∃ v, e = .returned v ∧ ((fun (dg : Bool) => ∃ (b5 : PHeap) , PHeap.le s b5 ∧ St w0 b5 (H) w' ∧ v = Value.bool (dg)) r) := by
 unfold K4 at hm
 refine Qw Tryz.func9 Z Z (Zc (Zd (O Z Z (Exec.box (cs := [m, n, o, p]) hS Z Z Z ?_))))
 intro ai ec bP
 refine O Z Z (Zo (v := Vb false) Z Z (Zb (V (Zc (Zc ?_)))))
 obtain ⟨az, j, hm⟩ := Zg hm
 refine QK (M := fun f' w' => (fun (az : Bool) => ∃ (b6 : PHeap) , PHeap.le s b6 ∧ St w0 b6 (Res.box ai 26 [m, n, o, p] :: H) w' ∧ f' 1 = z ∧ f' 2 = U ah ∧ f' 3 = Vq ai ∧ f' 31 = Vb az) az) ?_ ?_
 ·refine Zd ?_
  obtain ⟨dh, c3, j⟩ := Zg j
  refine O Z Z (Tc Z Z Z Qk (QcS c3 bP).r ?_)
  rintro _ ed ⟨aS, av, a2, rfl⟩
  refine O Z Z (Exec.not Z Z (O Z Z (Zm (v := Vb (!dh)) Z Z ?_)))
  rcases Qf j with ⟨ab, j⟩ | ⟨ab, j⟩
  ·refine Qx 16 (by rw [ab]; rfl) ?_
   refine Zb (V ?_)
   have dq := Zu j
   subst az
   exact ⟨aS, av, a2, Z, Z, Z, Z⟩
  replace ab := Zk ab
  refine Qj Z (Zf Z (Zx ab)) Z (Zp Yu Z Z Z (Qj Z (Zf Z (Zx ab)) Z (Zn (a2) A22 Z Z Z (Qj Z (Zf Z (Zx ab)) Z (Zr JG Z Z (u.mono av) (Qj Z (Zf Z (Zx ab)) Z (Exec.gtr Z Z Z ?_)))))))
  refine Qx 2 (by rw [ab]; rfl) ?_
  rcases Qf j with ⟨ac, j⟩ | ⟨ac, j⟩
  ·refine Qx 10 (by rw [ac]; rfl) ?_
   refine Zb (V ?_)
   have dr := Zu j
   subst az
   exact ⟨aS, av, a2, Z, Z, Z, Z⟩
  replace ac := Zk ac
  refine Qj Z (Zf Z (Zx ac)) Z (Zp Qbz Z Z Z (Qj Z (Zf Z (Zx ac)) Z (Zn (a2) A24 Z Z Z (Qj Z (Zf Z (Zx ac)) Z (Zr S24 Z Z (a1.mono av) (Qj Z (Zf Z (Zx ac)) Z (Exec.gtr Z Z Z ?_)))))))
  refine Qx 2 (by rw [ac]; rfl) ?_
  rcases Qf j with ⟨aj, j⟩ | ⟨aj, j⟩
  ·refine Qx 4 (by rw [aj]; rfl) ?_
   refine Zb (V ?_)
   have dt := Zu j
   subst az
   exact ⟨aS, av, a2, Z, Z, Z, Z⟩
  replace aj := Zk aj
  refine Qj Z (Zf Z (Zx aj)) Z (Zm (v := z) Z Z (Qj Z (Zf Z (Zx aj)) Z (Zr JG Z Z (aJ.mono av) (Qj Z (Zf Z (Zx aj)) Z (Exec.gtr Z Z Z (O Z Z (Q8 (v := Vb (decide (50 < (ax.length : Int)))) Z (Zx aj) Z (Zb (V ?_)))))))))
  have du := Zu j
  subst az
  exact ⟨aS, av, a2, Z, Z, Z, Z⟩
 intro dE ee bK
 obtain ⟨cJ, a, bi, aN, ba, bb, bx⟩ := bK
 refine (V ?_)
 rcases Qf hm with ⟨aA, hm⟩ | ⟨aA, hm⟩
 ·refine Qr bx aA (Zc (Zd ?_))
  obtain ⟨di, c4, hm⟩ := Zg hm
  refine O Z Z (Tc Z Z Z Qk (QcS c4 bi).r ?_)
  rintro _ ef ⟨cK, cj, bQ, rfl⟩
  refine O Z Z (Zo (v := Vb di) Z Z (Zb (V (Q0 (Qi ?_)))))
  have dv := Zu hm
  subst r
  refine ⟨_, QW Z, ?_⟩
  exact ⟨cK, (Zt a cj), bQ.drop, Z⟩
 refine Qs bx aA ?_
 replace aA := Zk aA
 refine Qq (V (Zc (Zd (O Z Z (Zo (v := Vp none) Z Z (Zb (V (Zc (Zc (QK (M := fun f' w' => ∃ (b7 : PHeap) , PHeap.le cJ b7 ∧ St w0 b7 (Res.box ai 26 [m, n, o, p] :: H) w' ∧ f' 1 = z ∧ f' 2 = U ah ∧ f' 3 = Vq ai ∧ f' 45 = Vb (((!decide ((QO ax) = 1125899906842624)) || ((!decide (Jd = 0)) || Jb)))) ?_ ?_))))))))))
 ·refine Zd (O Z Z (Zm (v := Vp none) Z Z (O Z Z (Zm (v := z) Z aN (O Z Z (Tc Z Z Z (Zi Z (Zi Z Qk)) (YQ (KA ax) bi (aJ.mono a)).r ?_))))))
  rintro _ eg ⟨cL, aX, bj, rfl⟩
  refine O Z Z (Exec.neq Z Z Z (O Z Z (Zm (v := Vb (!decide ((QO ax) = 1125899906842624))) Z Z ?_)))
  by_cases x : (!decide ((QO ax) = 1125899906842624)) = true
  ·refine Qx 8 (by rw [x]; rfl) ?_
   refine Zb (V ?_)
   exact ⟨cL, aX, bj, aN, ba, bb, (Zx (Qd7 x)).symm⟩
  replace x := Zk x
  refine Qj Z (Zf Z (Zx x)) Z (Zm (v := Vp none) Z Z (Qj Z (Zf Z (Zx x)) Z (Tc Z Z Z (Zi Z Qk) (YU KG bj).r ?_)))
  rintro _ eh ⟨cM, bu, bk, rfl⟩
  refine Qj Z (Zf Z (Zx x)) Z (Exec.neq Z Z Z ?_)
  refine Qx 2 (by rw [x]; rfl) ?_
  by_cases ak : (!decide (Jd = 0)) = true
  ·refine Qx 3 (by rw [ak]; rfl) ?_
   refine Zb (V ?_)
   exact ⟨cM, (Zt aX bu), bk, aN, ba, bb, (Zx (Eq.trans (YV x) (Qd7 ak))).symm⟩
  replace ak := Zk ak
  refine Qj Z (Zf Z (Zx ak)) Z (Zm (v := Vp none) Z Z (Qj Z (Zf Z (Zx ak)) Z (Tc Z Z Z (Zi Z Qk) (YR KB bk).r ?_)))
  rintro _ ei ⟨cN, ck, bR, rfl⟩
  refine O Z Z (Q8 (v := Vb Jb) Z (Zx ak) Z (Zb (V ?_)))
  exact ⟨cN, (Zt (Zt aX bu) ck), bR, aN, ba, bb, (Zx (Eq.trans (YV x) (YV ak))).symm⟩
 intro dF ej bL
 obtain ⟨bg, b, aT, ct, cu, bz, b0⟩ := bL
 refine (V ?_)
 rcases Qf hm with ⟨aB, hm⟩ | ⟨aB, hm⟩
 ·refine Qr b0 aB (Zc (Zd (O Z Z (Zo (v := Vb false) Z Z (Zb (V (Q0 (Qi ?_))))))))
  have dw := Zu hm
  subst r
  refine ⟨_, QW Z, ?_⟩
  exact ⟨bg, (Zt a b), aT.drop, Z⟩
 refine Qs b0 aB ?_
 replace aB := Zk aB
 refine Qq (V (Zc (Zd (O Z Z (Zo (v := Vn) Z Z (Zb (V (Zc (Zc (Zd (O Z Z (Zp Yu Z bz Z (O Z Z (Zn (aT) A22 Z Z Z (O Z Z (Zr JG Z Z (u.mono (Zt a b)) (O Z Z (Zm (v := U 0) Z Z (Zb (V ?_))))))))))))))))))))
 obtain ⟨aM, bH, hm⟩ := Zg hm
 refine Qo (JZ (fun k' s' f' w' => (fun (aM : (List Int)) => ∃ (b8 : PHeap) (ar : Value), PHeap.le bg b8 ∧ St w0 b8 (Res.box ai 26 [m, n, o, p] :: Res.arr (Qa .i64) 3 ar aM :: H) w' ∧ f' 1 = z ∧ f' 2 = U ah ∧ f' 3 = Vq ai ∧ f' 8 = ar ∧ f' 48 = U ((a5.Vars.length : Int)) ∧ f' 49 = U (k' : Int)) s') bH ?_ ?_ ?_)
 ·have bS := aT.nilArr (Qa .i64) 3
  exact ⟨bg, Vn, (Zv _), bS.f1, ct, cu, bz, Z, Z, Z⟩
 ·intro an aM cO dG ek cg bI aW
  obtain ⟨cP, ar, cl, bT, cv, cw, cx, cy, b1, bh⟩ := bI
  refine Zc (Zd (O Z Z (Zq Z bh b1 (Zb (V (Zc (QL (Zx (decide_eq_true (by omega))) (Qq (V (Zc (Qo (Zc (Zd (O Z Z (Zm (v := U ((an : Int))) Z bh (O Z Z (Zo (v := U ((an : Int))) Z Z (Zb (V (Zd (O Z Z (Zm (v := ar) Z cy (O Z Z (Zm (v := U ((an : Int))) Z Z (O Z Z (Exec.buildSlice (Te := 3) (cs := [U ((an : Int))]) bT Z (Qc (c := [U ((an : Int))]) (Qh Z Z) Qu) (fun _ => by kernel_rfl) ?_))))))))))))))))))))))))))
  intro dm el bU
  obtain ⟨dL, c5, aW⟩ := Zg aW
  refine O Z Z (QZ (E := (Qa .i64)) (ys := [(an : Int)]) bU.f2 JG Z3 Z (by decide) Z Z Z Z ⟨[U ((an : Int))], [], Z, Z, Z⟩ Z c5 ?_)
  intro bF em bV
  refine O Z Z (Zo (v := bF) Z Z (Zb (Qz (V (Zd (O Z Z (Exec.add Z bh Z (O Z Z (Zm (v := U (IntKind.i64.wrap ((an : Int) + 1))) Z Z (Zb (V ?_)))))))))))
  have dx := Zu aW
  subst cO
  exact ⟨cP, bF, cl, bV.f1, cv, cw, cx, Z, b1, (Eq.trans Z (QF cg (SliceRep.le (u.mono (Zt a b)))))⟩
 intro dH en bJ
 obtain ⟨cQ, ar, d, bl, bc, bd, a4, be, cz, df⟩ := bJ
 refine Zc (Zd (O Z Z (Zq Z df cz (Zb (V (Zc (QB (Zx (decide_eq_false (by omega))) (QJ (Qn (Qn (Q9 (V (Zc (Zc ?_))))))))))))))
 obtain ⟨a6, l, hm⟩ := Zg hm
 refine QK (M := fun f' w' => (fun (a6 : Bool) => ∃ (b9 : PHeap) , PHeap.le cQ b9 ∧ St w0 b9 (Res.box ai 26 [m, n, o, p] :: Res.arr (Qa .i64) 3 ar aM :: H) w' ∧ f' 1 = z ∧ f' 2 = U ah ∧ f' 3 = Vq ai ∧ f' 8 = ar ∧ f' 69 = Vb a6) a6) ?_ ?_
 ·refine Zd (O Z Z (Ql (ds := [m, n, o, p]) (bl) A26 Z a4 Z ?_))
  obtain ⟨dj, c6, l⟩ := Zg l
  refine O Z Z (Tc Z Z Z (Zi Z Qk) (QaX c6 bl (u.mono (Zt (Zt a b) d)) (a7.mono (Zt (Zt a b) d)) (a8.mono (Zt (Zt a b) d)) (a1.mono (Zt (Zt a b) d))).r ?_)
  rintro _ eo ⟨bA, ao, a9, rfl⟩
  refine O Z Z (Zm (v := Vb dj) Z Z ?_)
  rcases Qf l with ⟨ad, l⟩ | ⟨ad, l⟩
  ·refine Qj Z (Zf Z (Zx ad)) Z (Zp Yu Z a4 Z (Qj Z (Zf Z (Zx ad)) Z (Zn (a9) A22 Z Z Z (Qj Z (Zf Z (Zx ad)) Z (Zr JG Z Z (u.mono (Zt (Zt (Zt a b) d) ao)) (Qj Z (Zf Z (Zx ad)) Z (Exec.gtr Z Z Z ?_)))))))
   refine Qx 2 (by rw [ad]; rfl) ?_
   rcases Qf l with ⟨al, l⟩ | ⟨al, l⟩
   ·refine Qj Z (Zf Z (Zx al)) Z (Ql (ds := [m, n, o, p]) (a9) A26 Z a4 Z ?_)
    obtain ⟨dk, c7, l⟩ := Zg l
    refine Qj Z (Zf Z (Zx al)) Z (Tc Z Z Z (Zi Z Qk) (QgJ c7 a9 (u.mono (Zt (Zt (Zt a b) d) ao)) (a7.mono (Zt (Zt (Zt a b) d) ao)) (a8.mono (Zt (Zt (Zt a b) d) ao)) (a1.mono (Zt (Zt (Zt a b) d) ao))).r ?_)
    rintro _ ep ⟨cR, cm, bW, rfl⟩
    refine Qj Z (Zf Z (Zx al)) Z (Exec.not Z Z (O Z Z (Zs (v := Vb (!dk)) Z (Zx al) Z (Zb (V ?_)))))
    have dy := Zu l
    subst a6
    exact ⟨cR, (Zt ao cm), (bW.f1).f1, bc, bd, a4, be, Z⟩
   replace al := Zk al
   refine Qx 4 (by rw [al]; rfl) ?_
   refine Zb (V ?_)
   have dz := Zu l
   subst a6
   exact ⟨bA, ao, (a9.f1).f1, bc, bd, a4, be, Z⟩
  replace ad := Zk ad
  refine Qx 10 (by rw [ad]; rfl) ?_
  refine Zb (V ?_)
  have d0 := Zu l
  subst a6
  exact ⟨bA, ao, (a9.f1).f1, bc, bd, a4, be, Z⟩
 intro dI er bM
 obtain ⟨cS, g, aU, b2, bf, aO, c0, b3⟩ := bM
 refine (V ?_)
 rcases Qf hm with ⟨aC, hm⟩ | ⟨aC, hm⟩
 ·refine Qr b3 aC (Zc (Zd (O Z Z (Zo (v := Vb true) Z Z (Zb (V (Q0 (Qi ?_))))))))
  have d1 := Zu hm
  subst r
  refine ⟨_, QW Z, ?_⟩
  exact ⟨cS, (Zt (Zt (Zt a b) d) g), (aU.drop).drop, Z⟩
 refine Qs b3 aC ?_
 replace aC := Zk aC
 refine Qq (V (Zc (Zd (O Z Z (Ql (ds := [m, n, o, p]) (aU) A26 Z aO Z (O Z Z (Zm (v := ar) Z c0 (O Z Z (Zm (v := U ah) Z bf ?_)))))))))
 obtain ⟨dO, h, bX, cG⟩ := aU.f1.freezeArr
 obtain ⟨dd, c8, hm⟩ := Zg hm
 obtain ⟨dM, t⟩ := dd
 replace hm := Jp hm
 refine O Z Z (Tc Z Z Z (Zi Z (Zi Z (Zi Z Qk))) (Ku c8 bX (u.mono (Zt (Zt (Zt (Zt a b) d) g) h)) (a7.mono (Zt (Zt (Zt (Zt a b) d) g) h)) (a8.mono (Zt (Zt (Zt (Zt a b) d) g) h)) (a1.mono (Zt (Zt (Zt (Zt a b) d) g) h)) cG).r ?_)
 rintro _ es ch
 rcases ch with ⟨dp, rfl, dP, dW, aH, dX, dY, q, bm, rfl, cH⟩ | ⟨rfl, dQ, a3, bn, rfl⟩
 ·replace hm := Qcy hm
  obtain ⟨dS, y, hm⟩ := Zg hm
  refine O Z Z (Zm (v := Value.tuple #[Vq aH, QD 50 (t)]) Z Z (O Z Z (Exec.extract (v := Vq aH) Z Z Z (O Z Z (Exec.extract (v := QD 50 (t)) Z Z Z (O Z Z (Zo (v := Vq aH) Z Z (O Z Z (Zo (v := QD 50 (t)) Z Z (Zb (V (Zc (Zc (Zd (O Z Z (Ql (ds := [m, n, o, p]) (bm.f3) A26 Z aO Z ?_))))))))))))))))
  obtain ⟨e5, c9, hm⟩ := Zg hm
  refine O Z Z (Tc Z Z Z (Zi Z Qk) (QaX c9 bm (u.mono (Zt (Zt (Zt (Zt (Zt a b) d) g) h) q)) (a7.mono (Zt (Zt (Zt (Zt (Zt a b) d) g) h) q)) (a8.mono (Zt (Zt (Zt (Zt (Zt a b) d) g) h) q)) (a1.mono (Zt (Zt (Zt (Zt (Zt a b) d) g) h) q))).r ?_)
  rintro _ et ⟨bB, ap, aV, rfl⟩
  refine O Z Z (Exec.not Z Z (Zb (V ?_)))
  rcases Qf hm with ⟨aD, hm⟩ | ⟨aD, hm⟩
  ·refine Qr Z aD (Zc (Zd (O Z Z (Zm (v := Vq aH) Z Z (O Z Z (Kh Tryz.underlying30 Z Z Z (Qx 5 Z (Zb (V (Q0 (Qi ?_)))))))))))
   have d2 := Zu hm
   subst r
   refine ⟨_, QW Z, ?_⟩
   exact ⟨bB, (Zt (Zt (Zt (Zt (Zt (Zt a b) d) g) h) q) ap), (((aV.drop).drop).drop).drop, Z⟩
  refine Qs Z aD ?_
  replace aD := Zk aD
  refine Qq (V (Zc (Zc ?_)))
  obtain ⟨aI, ag, hm⟩ := Zg hm
  refine QK (M := fun f' w' => (fun (aI : Bool) => ∃ (bC : PHeap) , PHeap.le bB bC ∧ St w0 bC (H) w' ∧ f' 2 = U ah ∧ f' 100 = Vb aI) aI) ?_ ?_
  ·refine Zd (O Z Z (Zm (v := QD 50 (t)) Z Z (O Z Z (Jj (T := 50) Tryz.underlying32 Z Z Z (O Z Z (Zm (v := Vb (t.isSome)) Z Z (Qj Z (Zf Z (Zx (YX (Q7 y)))) Z (Zp Yu Z aO Z (Qj Z (Zf Z (Zx (YX (Q7 y)))) Z (Zn (aV.f3) A22 Z Z Z (Qj Z (Zf Z (Zx (YX (Q7 y)))) Z (Zm (v := z) Z b2 ?_))))))))))))
   obtain ⟨dl, cA, ag⟩ := Zg ag
   refine Qj Z (Zf Z (Zx (YX (Q7 y)))) Z (Tc Z Z Z (Zi Z (Zi Z Qk)) (Qdo cA aV (u.mono (Zt (Zt (Zt (Zt (Zt (Zt a b) d) g) h) q) ap)) (aJ.mono (Zt (Zt (Zt (Zt (Zt (Zt a b) d) g) h) q) ap))).r ?_)
   rintro _ eu ⟨cT, aL, bo, rfl⟩
   refine Qj Z (Zf Z (Zx (YX (Q7 y)))) Z (Exec.not Z Z (Qj Z (Zf Z (Zx (YX (Q7 y)))) Z (Zm (v := Vb (!dl)) Z Z ?_)))
   rcases Qf ag with ⟨ae, ag⟩ | ⟨ae, ag⟩
   ·refine Qj Z (Zf Z (Zx ae)) Z (Zm (v := Vq aH) Z Z (Qj Z (Zf Z (Zx ae)) Z (Zm (v := z) Z b2 ?_)))
    obtain ⟨bG, cB, ag⟩ := Zg ag
    refine Qj Z (Zf Z (Zx ae)) Z (Tc Z Z Z (Zi Z (Zi Z Qk)) (Ju cB ((bo.f2).f2).f2 (cH.mono (Zt ap aL)) (aJ.mono (Zt (Zt (Zt (Zt (Zt (Zt (Zt a b) d) g) h) q) ap) aL))).r ?_)
    rintro _ ev ⟨cU, cn, bY, rfl⟩
    refine Qj Z (Zf Z (Zx ae)) Z (Exec.neq Z Z Z (Qj Z (Zf Z (Zx (YX (Q7 y)))) Z (Zs (v := Vb (!decide (bG = 1125899906842624))) Z (Zx ae) Z (O Z Z (Q8 (v := Vb (!decide (bG = 1125899906842624))) Z (Zx (YX (Q7 y))) Z (Zb (V ?_)))))))
    have d3 := Zu ag
    subst aI
    exact ⟨cU, (Zt aL cn), (((bY.drop).drop).drop).drop, bf, Z⟩
   replace ae := Zk ae
   refine Qx 4 (by rw [ae]; rfl) ?_
   refine Qj Z (Zf Z (Zx (YX (Q7 y)))) Z (Q8 (v := Vb false) Z Z Z (O Z Z (Q8 (v := Vb false) Z (Zx (YX (Q7 y))) Z (Zb (V ?_)))))
   have d4 := Zu ag
   subst aI
   exact ⟨cT, aL, (((bo.drop).drop).drop).drop, bf, Z⟩
  intro dJ ew bN
  obtain ⟨cV, aY, bp, c1, b4⟩ := bN
  refine (V ?_)
  rcases Qf hm with ⟨aE, hm⟩ | ⟨aE, hm⟩
  ·refine Qr b4 aE (Zc (Zd (O Z Z (Zo (v := Vb false) Z Z (Zb (V (Q0 (Qi ?_))))))))
   have d5 := Zu hm
   subst r
   refine ⟨_, QW Z, ?_⟩
   exact ⟨cV, (Zt (Zt (Zt (Zt (Zt (Zt (Zt a b) d) g) h) q) ap) aY), bp, Z⟩
  refine Qs b4 aE ?_
  replace aE := Zk aE
  refine Qq (V (Zc (Zd (O Z Z (Exec.build Z Qu (v := Value.agg #[Vn, Vn, Vn, Vn]) (fun _ => by kernel_rfl) (O Z Z (Zm (v := U ah) Z c1 ?_)))))))
  obtain ⟨de, cC, hm⟩ := Zg hm
  obtain ⟨dN, aa⟩ := de
  replace hm := Jp hm
  refine O Z Z (Tc Z Z Z (Zi Z (Zi Z (Zi Z Qk))) (Ku cC bp (SliceRep.nil _ _) (SliceRep.nil _ _) (SliceRep.nil _ _) (SliceRep.nil _ _) (SliceRep.nil _ _)).r ?_)
  rintro _ ex ci
  rcases ci with ⟨aK, rfl, cW, dZ, ay, ea, eb, co, bZ, rfl, aR⟩ | ⟨rfl, cX, cp, ca, rfl⟩
  ·replace hm := Qcy hm
   obtain ⟨dT, aP, hm⟩ := Zg hm
   refine O Z Z (Zm (v := Value.tuple #[Vq ay, QD 50 (aa)]) Z Z (O Z Z (Exec.extract (v := Vq ay) Z Z Z (O Z Z (Exec.extract (v := QD 50 (aa)) Z Z Z (O Z Z (Zo (v := Vq ay) Z Z (O Z Z (Zo (v := QD 50 (aa)) Z Z (Zb (V (Zc ?_))))))))))))
   obtain ⟨a0, i, hm⟩ := Zg hm
   refine QK (M := fun f' w' => (fun (a0 : Bool) => ∃ (bD : PHeap) , PHeap.le cW bD ∧ St w0 bD (H) w' ∧ f' 6 = Vb a0) a0) ?_ ?_
   ·refine Zd (O Z Z (Zm (v := QD 50 (aa)) Z Z (O Z Z (Ki (T := 50) Tryz.underlying32 Z Z Z (O Z Z (Zm (v := Vb (aa.isNone)) Z Z (Qj Z (Zf Z (Zx (Q7 aP))) Z (Zm (v := Vq ay) Z Z (Qj Z (Zf Z (Zx (Q7 aP))) Z (Tc Z Z Z (Zi Z Qk) (Kp (JN aK) ((bZ.f2).f2).f2 aR).r ?_))))))))))
    rintro _ ey ⟨cY, aw, bq, rfl⟩
    refine Qj Z (Zf Z (Zx (Q7 aP))) Z (Exec.eql Z Z Z (O Z Z (Zs (v := Vb (decide ((QY aK) = 1))) Z (Zx (Q7 aP)) Z (O Z Z (Zm (v := Vb (decide ((QY aK) = 1))) Z Z ?_)))))
    rcases Qf i with ⟨au, i⟩ | ⟨au, i⟩
    ·refine Qj Z (Zf Z (Zx au)) Z (Zm (v := Vq ay) Z Z (Qj Z (Zf Z (Zx au)) Z (Tc Z Z Z (Zi Z Qk) (Kl (JJ aK) ((bq.f2).f2).f2 (aR.mono aw)).r ?_)))
     rintro _ ez ⟨cZ, aG, br, rfl⟩
     refine Qx 2 (by rw [au]; rfl) ?_
     rcases Qf i with ⟨am, i⟩ | ⟨am, i⟩
     ·refine Qj Z (Zf Z (Zx am)) Z (Zm (v := Vq ay) Z Z ?_)
      obtain ⟨e6, cD, i⟩ := Zg i
      refine Qj Z (Zf Z (Zx am)) Z (Tc Z Z Z (Zi Z (Zi Z Qk)) (Ju cD ((br.f2).f2).f2 (aR.mono (Zt aw aG)) (SliceRep.nil _ _)).r ?_)
      rintro _ e0 ⟨da, aZ, bs, rfl⟩
      refine Qj Z (Zf Z (Zx am)) Z (Exec.eql Z Z Z ?_)
      refine Qx 2 (by rw [am]; rfl) ?_
      rcases Qf i with ⟨af, i⟩ | ⟨af, i⟩
      ·refine Qj Z (Zf Z (Zx af)) Z (Zm (v := Vq ay) Z Z (Qj Z (Zf Z (Zx af)) Z (Exec.buildSlice (Te := 3) (cs := [U 0]) bs Z (Qc (c := [U 0]) (Qh Z Z) Qu) (fun _ => by kernel_rfl) ?_)))
       intro dn e1 cb
       have cc := St.boxArr (E := (Qa .i64)) (xs := [0]) cb ⟨[U 0], [], rfl, rfl, rfl⟩ (by simp [maxLen])
       obtain ⟨dR, bv, cd, cI⟩ := cc.freezeArr
       obtain ⟨e7, cE, i⟩ := Zg i
       refine Qj Z (Zf Z (Zx af)) Z (Tc Z Z Z (Zi Z (Zi Z Qk)) (Ju cE ((cd.f2).f2).f2 (aR.mono (Zt (Zt (Zt aw aG) aZ) bv)) cI).r ?_)
       rintro _ e2 ⟨db, cq, ce, rfl⟩
       refine Qj Z (Zf Z (Zx af)) Z (Exec.eql Z Z Z ?_)
       refine Qx 2 (by rw [af]; rfl) ?_
       refine Zb (V ?_)
       have d6 := Zu i
       subst a0
       exact ⟨db, (Zt (Zt (Zt (Zt aw aG) aZ) bv) cq), ((ce.drop).drop).drop, Z⟩
      replace af := Zk af
      refine Qx 6 (by rw [af]; rfl) ?_
      refine Zb (V ?_)
      have d7 := Zu i
      subst a0
      exact ⟨da, (Zt (Zt aw aG) aZ), ((bs.drop).drop).drop, Z⟩
     replace am := Zk am
     refine Qx 11 (by rw [am]; rfl) ?_
     refine Zb (V ?_)
     have d8 := Zu i
     subst a0
     exact ⟨cZ, (Zt aw aG), ((br.drop).drop).drop, Z⟩
    replace au := Zk au
    refine Qx 15 (by rw [au]; rfl) ?_
    refine Zb (V ?_)
    have d9 := Zu i
    subst a0
    exact ⟨cY, aw, ((bq.drop).drop).drop, Z⟩
   intro dK e3 bO
   obtain ⟨dc, cr, cf, c2⟩ := bO
   refine (V (Q0 ?_))
   have dA := Zu hm
   subst r
   refine ⟨_, QW Z, ?_⟩
   exact ⟨dc, (Zt (Zt (Zt (Zt (Zt (Zt (Zt (Zt (Zt a b) d) g) h) q) ap) aY) co) cr), cf, c2⟩
  replace hm := Qcz hm
  obtain ⟨dU, aQ, hm⟩ := Zg hm
  refine O Z Z (Zm (v := Value.tuple #[Vp none, QD 50 (aa)]) Z Z (O Z Z (Exec.extract (v := Vp none) Z Z Z (O Z Z (Exec.extract (v := QD 50 (aa)) Z Z Z (O Z Z (Zo (v := Vp none) Z Z (O Z Z (Zo (v := QD 50 (aa)) Z Z (Zb (V (Zc (Zd (O Z Z (Zm (v := QD 50 (aa)) Z Z (O Z Z (Ki (T := 50) Tryz.underlying32 Z Z Z (O Z Z (Zm (v := Vb (aa.isNone)) Z Z (Zl Z (Zf Z (Zx (KN (Q7 aQ)))) Z Z (Zl Z (Zf Z (Zx (KN (Q7 aQ)))) Z Z (Zl Z (Zf Z (Zx (KN (Q7 aQ)))) Z Z (O Z Z (Q8 (v := Vb false) Z (Zx (KN (Q7 aQ))) Z (Qx 16 Z (Zb (V (Q0 ?_))))))))))))))))))))))))))))
  have dB := Zu hm
  subst r
  refine ⟨_, QW Z, ?_⟩
  exact ⟨cX, (Zt (Zt (Zt (Zt (Zt (Zt (Zt (Zt a b) d) g) h) q) ap) aY) cp), ca, Z⟩
 replace hm := Qcz hm
 obtain ⟨dV, aq, hm⟩ := Zg hm
 refine O Z Z (Zm (v := Value.tuple #[Vp none, QD 50 (t)]) Z Z (O Z Z (Exec.extract (v := Vp none) Z Z Z (O Z Z (Exec.extract (v := QD 50 (t)) Z Z Z (O Z Z (Zo (v := Vp none) Z Z (O Z Z (Zo (v := QD 50 (t)) Z Z (Zb (V (Zc (Zc (Zd (O Z Z (Ql (ds := [m, n, o, p]) (bn) A26 Z aO Z ?_))))))))))))))))
 obtain ⟨e8, cF, hm⟩ := Zg hm
 refine O Z Z (Tc Z Z Z (Zi Z Qk) (QaX cF bn (u.mono (Zt (Zt (Zt (Zt (Zt a b) d) g) h) a3)) (a7.mono (Zt (Zt (Zt (Zt (Zt a b) d) g) h) a3)) (a8.mono (Zt (Zt (Zt (Zt (Zt a b) d) g) h) a3)) (a1.mono (Zt (Zt (Zt (Zt (Zt a b) d) g) h) a3))).r ?_)
 rintro _ e4 ⟨bE, bw, bt, rfl⟩
 refine O Z Z (Exec.not Z Z (Zb (V ?_)))
 rcases Qf hm with ⟨aF, hm⟩ | ⟨aF, hm⟩
 ·refine Qr Z aF (Zc (Zd (O Z Z (Zm (v := Vp none) Z Z (O Z Z (Kh Tryz.underlying30 Z Z Z (O Z Z (Zm (v := Vb true) Z Z (Qj Z (Zf Z Z) Z (Zm (v := QD 50 (t)) Z Z (Qj Z (Zf Z Z) Z (Jj (T := 50) Tryz.underlying32 Z Z Z (Qx 2 Z (Zb (V (Q0 (Qi ?_)))))))))))))))))
  have dC := Zu hm
  subst r
  refine ⟨_, QW Z, ?_⟩
  exact ⟨bE, (Zt (Zt (Zt (Zt (Zt (Zt a b) d) g) h) a3) bw), bt.drop, Z⟩
 refine Qs Z aF ?_
 replace aF := Zk aF
 refine Qq (V (Zc (Zc (Zd (O Z Z (Zm (v := QD 50 (t)) Z Z (O Z Z (Jj (T := 50) Tryz.underlying32 Z Z Z (O Z Z (Zm (v := Vb (t.isSome)) Z Z (Zl Z (Zf Z (Zx (Q7 aq))) Z Z (Zl Z (Zf Z (Zx (Q7 aq))) Z Z (Zl Z (Zf Z (Zx (Q7 aq))) Z Z (Zl Z (Zf Z (Zx (Q7 aq))) Z Z (Zl Z (Zf Z (Zx (Q7 aq))) Z Z (Zl Z (Zf Z (Zx (Q7 aq))) Z Z (Qx 4 Z (Zl Z (Zf Z (Zx (Q7 aq))) Z Z (O Z Z (Zs (v := Vb true) Z (Zx (Q7 aq)) Z (Zb (V (QL Z (Zc (Zd (O Z Z (Zo (v := Vb false) Z Z (Zb (V (Q0 (Qi ?_)))))))))))))))))))))))))))))))
 have dD := Zu hm
 subst r
 refine ⟨_, QW Z, ?_⟩
 exact ⟨bE, (Zt (Zt (Zt (Zt (Zt (Zt a b) d) g) h) a3) bw), bt.drop, Z⟩
end Go.Pw
