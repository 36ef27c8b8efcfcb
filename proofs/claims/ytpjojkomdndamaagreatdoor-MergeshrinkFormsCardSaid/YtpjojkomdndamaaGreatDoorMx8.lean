/- -/
import Derived.Test.YtpjojkomdndamaaGreatDoorLC
import Derived.Test.YtpjojkomdndamaaGreatDoorMx7
import Derived.Test.YtpjojkomdndamaaGreatDoorMxX2
set_option maxRecDepth 100000
set_option maxHeartbeats 4000000
set_option linter.unusedVariables false
namespace Go.Pw
open Go.Proofs
theorem Qd9 {w0 w : World} {s : PHeap} {H : List Res} {b : System} {a : System} {ag : Value} {ah : Value} {ai : Value} {x : Value} {y : Value} {z : Value} {r : (Option Int) × System} (hm : Ya b a = some r) (hS : St w0 s (H) w) (aB : SliceRep (Qa .i64) s ag b.Costs) (bH : SliceRep encEdge s ah b.Edges) (ba : SliceRep encBool s ai b.Goals) (bb : SliceRep (Qa .i64) s x a.Costs) (bI : SliceRep encEdge s y a.Edges) (bc : SliceRep encBool s z a.Goals) :
  Calls Tryz.prog 59 #[Value.agg #[U (b.States), U (b.Init), ag, ah, ai], Value.agg #[U (a.States), U (a.Init), x, y, z]] w fun e w' => ∃ v, e = .returned v ∧ ((J2 fun (gv : (Option Int)) (aU : System) => ∃ (aP : PHeap) (cG : Value) (cH : Value) (cI : Value), PHeap.le s aP ∧ St w0 aP (H) w' ∧ v = Value.tuple #[Value.agg #[U (aU.States), U (aU.Init), cG, cH, cI], QD 50 (gv)] ∧ SliceRep (Qa .i64) aP cG aU.Costs ∧ SliceRep encEdge aP cH aU.Edges ∧ SliceRep encBool aP cI aU.Goals) r) := by
 unfold Ya at hm
 refine Qw Tryz.func59 Z Z (Zc (Zd (O Z Z (Exec.box (cs := [U (b.States), U (b.Init), ag, ah, ai]) hS Z Z Z ?_))))
 intro ad hH dr
 refine O Z Z (Exec.box (cs := [U (a.States), U (a.Init), x, y, z]) dr Z Z Z ?_)
 intro j hI dt
 refine O Z Z (Exec.alloc (cs := [U 0, U 0, Vn, Vn, Vn]) dt Z38 Z Z ?_)
 intro l hJ bK
 refine O Z Z (Zo (v := QD 50 (none)) Z Z (Zb (V (Zc (Zc ?_)))))
 obtain ⟨aA, t, hm⟩ := Zg hm
 refine QK (M := fun f' w' => (fun (aA : Bool) => ∃ (c2 : PHeap) , PHeap.le s c2 ∧ St w0 c2 (Res.box ad 38 [U (b.States), U (b.Init), ag, ah, ai] :: Res.box j 38 [U (a.States), U (a.Init), x, y, z] :: Res.box l 38 [U 0, U 0, Vn, Vn, Vn] :: H) w' ∧ f' 2 = Vq ad ∧ f' 3 = Vq j ∧ f' 4 = Vq l ∧ f' 33 = Vb aA) aA) ?_ ?_
 ·refine Zd (O Z Z (Ql (ds := [U (b.States), U (b.Init), ag, ah, ai]) (bK.f2) KS Z Z Z ?_))
  obtain ⟨gw, fn, t⟩ := Zg t
  refine O Z Z (Tc Z Z Z (Zi Z Qk) (KZ fn bK aB bH ba).r ?_)
  rintro _ hK ⟨fQ, ar, bd, rfl⟩
  refine O Z Z (Exec.not Z Z (O Z Z (Zm (v := Vb (!gw)) Z Z ?_)))
  rcases Qf t with ⟨ap, t⟩ | ⟨ap, t⟩
  ·refine Qx 12 (by rw [ap]; rfl) ?_
   refine Zb (V ?_)
   have gA := Zu t
   subst aA
   exact ⟨fQ, ar, (bd.f1).f2, Z, Z, Z, Z⟩
  replace ap := Zk ap
  refine Qj Z (Zf Z (Zx ap)) Z (Ql (ds := [U (a.States), U (a.Init), x, y, z]) (bd.f1) KS Z Z Z ?_)
  obtain ⟨i7, fo, t⟩ := Zg t
  refine Qj Z (Zf Z (Zx ap)) Z (Tc Z Z Z (Zi Z Qk) (KZ fo bd (bb.mono ar) (bI.mono ar) (bc.mono ar)).r ?_)
  rintro _ hL ⟨fR, aW, aV, rfl⟩
  refine Qj Z (Zf Z (Zx ap)) Z (Exec.not Z Z ?_)
  refine Qx 2 (by rw [ap]; rfl) ?_
  rcases Qf t with ⟨ac, t⟩ | ⟨ac, t⟩
  ·refine Qx 7 (by rw [ac]; rfl) ?_
   refine Zb (V ?_)
   have gB := Zu t
   subst aA
   exact ⟨fR, (Zt ar aW), (aV.f1).f2, Z, Z, Z, Z⟩
  replace ac := Zk ac
  refine Qj Z (Zf Z (Zx ac)) Z (Zp QaZ Z Z Z (Qj Z (Zf Z (Zx ac)) Z (Zn (aV.f2) A22 Z Z Z (Qj Z (Zf Z (Zx ac)) Z (Zp QaZ Z Z Z (Qj Z (Zf Z (Zx ac)) Z (Zn (aV.f1) A22 Z Z Z ?_)))))))
  obtain ⟨gx, fp, t⟩ := Zg t
  refine Qj Z (Zf Z (Zx ac)) Z (Tc Z Z Z (Zi Z (Zi Z Qk)) (Y9 fp aV (aB.mono (Zt ar aW)) (bb.mono (Zt ar aW))).r ?_)
  rintro _ hM ⟨fS, dP, du, rfl⟩
  refine Qj Z (Zf Z (Zx ac)) Z (Exec.not Z Z (O Z Z (Q8 (v := Vb (!gx)) Z (Zx ac) Z (Zb (V ?_)))))
  have gC := Zu t
  subst aA
  exact ⟨fS, (Zt (Zt ar aW) dP), (du.f1).f2, Z, Z, Z, Z⟩
 intro gT hN dn
 obtain ⟨b5, aa, aC, u, n, a7, cd⟩ := dn
 refine (V ?_)
 rcases Qf hm with ⟨aE, hm⟩ | ⟨aE, hm⟩
 ·refine Qr cd aE (Zc (Zd (O Z Z (Exec.build Z Qu (v := Value.agg #[U 0, U 0, Vn, Vn, Vn]) (fun _ => by kernel_rfl) (O Z Z (Exec.makeInterface C50 Z Z (O Z Z (Qe (ds := [U 0, U 0, Vn, Vn, Vn]) (es := [U 0, U 0, Vn, Vn, Vn]) aC.f2 KS Z a7 Z Z (Zj Z (Zj Z (Zj Z (Zj Z (Zj Z Q5))))) (Nat.le_of_ble_eq_true Z) Z ?_))))))))
  intro hO bL
  refine O Z Z (Zo (v := QD 50 (some 2)) Z Z (Zb (V (Q0 (Qi ?_)))))
  have gD := Zu hm
  subst r
  refine ⟨_, Qat Z ⟨_, _, a7, Kj (bL) KS⟩ Z, ?_⟩
  exact ⟨b5, Vn, Vn, Vn, aa, ((bL.drop).drop).drop, (Yp Z Z), (SliceRep.nil _ _), (SliceRep.nil _ _), (SliceRep.nil _ _)⟩
 refine Qs cd aE ?_
 replace aE := Zk aE
 refine Qq (V (Zc (Zc (Zd (O Z Z (Zp JV Z u Z (O Z Z (Zn (aC) A3 Z Z Z (O Z Z (Zp JV Z n Z (O Z Z (Zn (aC.f1) A3 Z Z Z (O Z Z (Exec.mul Z Z Z (O Z Z (Exec.gtr Z Z Z (Zb (V ?_))))))))))))))))))
 rcases Qf hm with ⟨aF, hm⟩ | ⟨aF, hm⟩
 ·refine Qr Z aF (Zc (Zd (O Z Z (Exec.build Z Qu (v := Value.agg #[U 0, U 0, Vn, Vn, Vn]) (fun _ => by kernel_rfl) (O Z Z (Exec.makeInterface C50 Z Z (O Z Z (Qe (ds := [U 0, U 0, Vn, Vn, Vn]) (es := [U 0, U 0, Vn, Vn, Vn]) aC.f2 KS Z a7 Z Z (Zj Z (Zj Z (Zj Z (Zj Z (Zj Z Q5))))) (Nat.le_of_ble_eq_true Z) Z ?_))))))))
  intro hP bM
  refine O Z Z (Zo (v := QD 50 (some 5)) Z Z (Zb (V (Q0 (Qi ?_)))))
  have gE := Zu hm
  subst r
  refine ⟨_, Qat Z ⟨_, _, a7, Kj (bM) KS⟩ Z, ?_⟩
  exact ⟨b5, Vn, Vn, Vn, aa, ((bM.drop).drop).drop, (Yp Z Z), (SliceRep.nil _ _), (SliceRep.nil _ _), (SliceRep.nil _ _)⟩
 refine Qs Z aF ?_
 replace aF := Zk aF
 refine Qq (V (Zc ?_))
 obtain ⟨aw, c0, hm⟩ := Zg hm
 refine QK (M := fun f' w' => ∃ (c3 : PHeap) (p : Nat) (d : Value), PHeap.le b5 c3 ∧ St w0 c3 (Res.box ad 38 [U (b.States), U (b.Init), ag, ah, ai] :: Res.box j 38 [U (a.States), U (a.Init), x, y, z] :: Res.box l 38 [U 0, U 0, Vn, Vn, Vn] :: Res.box p 38 [U (IntKind.i64.wrap (b.States * a.States)), U (IntKind.i64.wrap ((IntKind.i64.wrap (b.Init * a.States)) + a.Init)), d, Vn, Vn] :: Res.arr (Qa .i64) 3 d aw :: H) w' ∧ f' 2 = Vq ad ∧ f' 3 = Vq j ∧ f' 4 = Vq l ∧ f' 6 = Vq p) ?_ ?_
 ·refine KT (n0 := 18) (qs 0 15 (.alt (.e 15 [0, 1, 2, 3, 4, 5, 6, 7, 8, 9, 10, 11, 12] (.q 16 (.e 17 [0, 1, 2, 3, 4, 5, 6, 7, 8, 9, 10, 11, 12, 16] .done))) (.e 17 [0, 1, 2, 3, 4, 5, 6, 7, 8, 9, 10, 11, 12, 13, 14] (.e 15 [0, 1, 2, 3, 4, 5, 6, 7, 8, 9, 10, 11, 12] (.q 16 .done))))) Yc (by kernel_rfl) (by kernel_rfl) ?_
  have al := aC.drew
  refine Qm Z Z (Zp JV Z u Z ⟨Z, ?_⟩)
  refine Qm Z Z (Zn (al) A3 Z Z Z ⟨Z, ?_⟩)
  refine Qm Z Z (Zp JV Z n Z ⟨Z, ?_⟩)
  refine Qm Z Z (Zn (al.f1) A3 Z Z Z ⟨Z, ?_⟩)
  refine Qm Z Z (Exec.mul Z Z Z ⟨Z, ?_⟩)
  refine Qm Z Z (Zp Yh Z u Z ⟨Z, ?_⟩)
  refine Qm Z Z (Zn (al) A3 Z Z Z ⟨Z, ?_⟩)
  refine Qm Z Z (Zp JV Z n Z ⟨Z, ?_⟩)
  refine Qm Z Z (Zn (al.f1) A3 Z Z Z ⟨Z, ?_⟩)
  refine Qm Z Z (Exec.mul Z Z Z ⟨Z, ?_⟩)
  refine Qm Z Z (Zp Yh Z n Z ⟨Z, ?_⟩)
  refine Qm Z Z (Zn (al.f1) A3 Z Z Z ⟨Z, ?_⟩)
  refine Qm Z Z (Exec.add Z Z Z ⟨Z, ?_⟩)
  refine Qm Z Z (Zp QaZ Z u Z ⟨Z, ?_⟩)
  refine Qm Z Z (Zn (al) A22 Z Z Z ⟨Z, ?_⟩)
  refine QeJ ?_ ?_
  ·refine JQ Z Z (Tc Z Z Z (Zi Z Qk) (Ji c0 al (aB.mono aa)).r ?_)
   rintro a2 hQ ⟨fT, _, dQ, ax, rfl⟩
   refine ⟨(Qb (Q4 Z Z (Zp JV Z u Z ⟨Z, Z⟩)) (Qb (Q4 Z Z (Zn (ax.f1) A3 Z Z Z ⟨Z, Z⟩)) (Qb (Q4 Z Z (Zp JV Z n Z ⟨Z, Z⟩)) (Qb (Q4 Z Z (Zn (ax.f2) A3 Z Z Z ⟨Z, Z⟩)) (Qb (Q4 Z Z (Exec.mul Z Z Z ⟨Z, Z⟩)) (Qb (Q4 Z Z (Zp Yh Z u Z ⟨Z, Z⟩)) (Qb (Q4 Z Z (Zn (ax.f1) A3 Z Z Z ⟨Z, Z⟩)) (Qb (Q4 Z Z (Zp JV Z n Z ⟨Z, Z⟩)) (Qb (Q4 Z Z (Zn (ax.f2) A3 Z Z Z ⟨Z, Z⟩)) (Qb (Q4 Z Z (Exec.mul Z Z Z ⟨Z, Z⟩)) (Qb (Q4 Z Z (Zp Yh Z n Z ⟨Z, Z⟩)) (Qb (Q4 Z Z (Zn (ax.f2) A3 Z Z Z ⟨Z, Z⟩)) (Qb (Q4 Z Z (Exec.add Z Z Z ⟨Z, Z⟩)) QV))))))))))))), ?_⟩
   refine Qm Z Z (Exec.build Z (Qc (c := [U (IntKind.i64.wrap (b.States * a.States))]) (Qh Z Z) (Qc (c := [U (IntKind.i64.wrap ((IntKind.i64.wrap (b.Init * a.States)) + a.Init))]) (Qh Z Z) (Qc (c := [a2]) (Qh Z (QX ax.arr_one)) Qu))) (v := Value.agg #[U (IntKind.i64.wrap (b.States * a.States)), U (IntKind.i64.wrap ((IntKind.i64.wrap (b.Init * a.States)) + a.Init)), a2, Vn, Vn]) (fun _ => by kernel_rfl) ⟨Z, ?_⟩)
   refine JQ Z Z (Exec.alloc (cs := [U 0, U 0, Vn, Vn, Vn]) ax Z38 Z Z ?_)
   intro cT hR am
   refine ⟨(Qb (Q4 Z Z (Zp JV Z u Z ⟨Z, Z⟩)) (Qb (Q4 Z Z (Zn (am.f2) A3 Z Z Z ⟨Z, Z⟩)) (Qb (Q4 Z Z (Zp JV Z n Z ⟨Z, Z⟩)) (Qb (Q4 Z Z (Zn (am.f3) A3 Z Z Z ⟨Z, Z⟩)) (Qb (Q4 Z Z (Exec.mul Z Z Z ⟨Z, Z⟩)) (Qb (Q4 Z Z (Zp Yh Z u Z ⟨Z, Z⟩)) (Qb (Q4 Z Z (Zn (am.f2) A3 Z Z Z ⟨Z, Z⟩)) (Qb (Q4 Z Z (Zp JV Z n Z ⟨Z, Z⟩)) (Qb (Q4 Z Z (Zn (am.f3) A3 Z Z Z ⟨Z, Z⟩)) (Qb (Q4 Z Z (Exec.mul Z Z Z ⟨Z, Z⟩)) (Qb (Q4 Z Z (Zp Yh Z n Z ⟨Z, Z⟩)) (Qb (Q4 Z Z (Zn (am.f3) A3 Z Z Z ⟨Z, Z⟩)) (Qb (Q4 Z Z (Exec.add Z Z Z ⟨Z, Z⟩)) (Qb (Q4 Z Z (Exec.build Z (Qc (c := [U (IntKind.i64.wrap (b.States * a.States))]) (Qh Z Z) (Qc (c := [U (IntKind.i64.wrap ((IntKind.i64.wrap (b.Init * a.States)) + a.Init))]) (Qh Z Z) (Qc (c := [a2]) (Qh Z (QX (am.f1).arr_one)) Qu))) (v := Value.agg #[U (IntKind.i64.wrap (b.States * a.States)), U (IntKind.i64.wrap ((IntKind.i64.wrap (b.Init * a.States)) + a.Init)), a2, Vn, Vn]) (fun _ => by kernel_rfl) ⟨Z, Z⟩)) QV)))))))))))))), ?_⟩
   refine QG (O Z Z (Qe (ds := [U (IntKind.i64.wrap (b.States * a.States)), U (IntKind.i64.wrap ((IntKind.i64.wrap (b.Init * a.States)) + a.Init)), a2, Vn, Vn]) (es := [U (IntKind.i64.wrap (b.States * a.States)), U (IntKind.i64.wrap ((IntKind.i64.wrap (b.Init * a.States)) + a.Init)), a2, Vn, Vn]) am KS Z Z Z Z (Zj Z (Zj Z (Zj (am.f1).arr_one (Zj Z (Zj Z Q5))))) (Nat.le_of_ble_eq_true Z) Z ?_))
   intro hT dv
   refine Zb (V ?_)
   exact ⟨fT, cT, a2, dQ, ((((dv.f1).f1).f4).f4).f4, u, n, a7, Z⟩
  refine JQ Z Z (Exec.alloc (cs := [U 0, U 0, Vn, Vn, Vn]) al Z38 Z Z ?_)
  intro cU hU ay
  refine ⟨(Qb (Q4 Z Z (Zp JV Z u Z ⟨Z, Z⟩)) (Qb (Q4 Z Z (Zn (ay.f1) A3 Z Z Z ⟨Z, Z⟩)) (Qb (Q4 Z Z (Zp JV Z n Z ⟨Z, Z⟩)) (Qb (Q4 Z Z (Zn (ay.f2) A3 Z Z Z ⟨Z, Z⟩)) (Qb (Q4 Z Z (Exec.mul Z Z Z ⟨Z, Z⟩)) (Qb (Q4 Z Z (Zp Yh Z u Z ⟨Z, Z⟩)) (Qb (Q4 Z Z (Zn (ay.f1) A3 Z Z Z ⟨Z, Z⟩)) (Qb (Q4 Z Z (Zp JV Z n Z ⟨Z, Z⟩)) (Qb (Q4 Z Z (Zn (ay.f2) A3 Z Z Z ⟨Z, Z⟩)) (Qb (Q4 Z Z (Exec.mul Z Z Z ⟨Z, Z⟩)) (Qb (Q4 Z Z (Zp Yh Z n Z ⟨Z, Z⟩)) (Qb (Q4 Z Z (Zn (ay.f2) A3 Z Z Z ⟨Z, Z⟩)) (Qb (Q4 Z Z (Exec.add Z Z Z ⟨Z, Z⟩)) (Qb (Q4 Z Z (Zp QaZ Z u Z ⟨Z, Z⟩)) (Qb (Q4 Z Z (Zn (ay.f1) A22 Z Z Z ⟨Z, Z⟩)) QV))))))))))))))), ?_⟩
  refine JQ Z Z (Tc Z Z Z (Zi Z Qk) (Ji c0 ay (aB.mono aa)).r ?_)
  rintro aQ hV ⟨fU, _, dR, an, rfl⟩
  refine ⟨(Qb (Q4 Z Z (Zp JV Z u Z ⟨Z, Z⟩)) (Qb (Q4 Z Z (Zn (an.f2) A3 Z Z Z ⟨Z, Z⟩)) (Qb (Q4 Z Z (Zp JV Z n Z ⟨Z, Z⟩)) (Qb (Q4 Z Z (Zn (an.f3) A3 Z Z Z ⟨Z, Z⟩)) (Qb (Q4 Z Z (Exec.mul Z Z Z ⟨Z, Z⟩)) (Qb (Q4 Z Z (Zp Yh Z u Z ⟨Z, Z⟩)) (Qb (Q4 Z Z (Zn (an.f2) A3 Z Z Z ⟨Z, Z⟩)) (Qb (Q4 Z Z (Zp JV Z n Z ⟨Z, Z⟩)) (Qb (Q4 Z Z (Zn (an.f3) A3 Z Z Z ⟨Z, Z⟩)) (Qb (Q4 Z Z (Exec.mul Z Z Z ⟨Z, Z⟩)) (Qb (Q4 Z Z (Zp Yh Z n Z ⟨Z, Z⟩)) (Qb (Q4 Z Z (Zn (an.f3) A3 Z Z Z ⟨Z, Z⟩)) (Qb (Q4 Z Z (Exec.add Z Z Z ⟨Z, Z⟩)) QV))))))))))))), ?_⟩
  refine Qm Z Z (Exec.build Z (Qc (c := [U (IntKind.i64.wrap (b.States * a.States))]) (Qh Z Z) (Qc (c := [U (IntKind.i64.wrap ((IntKind.i64.wrap (b.Init * a.States)) + a.Init))]) (Qh Z Z) (Qc (c := [aQ]) (Qh Z (QX an.arr_one)) Qu))) (v := Value.agg #[U (IntKind.i64.wrap (b.States * a.States)), U (IntKind.i64.wrap ((IntKind.i64.wrap (b.Init * a.States)) + a.Init)), aQ, Vn, Vn]) (fun _ => by kernel_rfl) ⟨Z, ?_⟩)
  refine QG (O Z Z (Qe (ds := [U (IntKind.i64.wrap (b.States * a.States)), U (IntKind.i64.wrap ((IntKind.i64.wrap (b.Init * a.States)) + a.Init)), aQ, Vn, Vn]) (es := [U (IntKind.i64.wrap (b.States * a.States)), U (IntKind.i64.wrap ((IntKind.i64.wrap (b.Init * a.States)) + a.Init)), aQ, Vn, Vn]) an.f1 KS Z Z Z Z (Zj Z (Zj Z (Zj ((an.f1).f1).arr_one (Zj Z (Zj Z Q5))))) (Nat.le_of_ble_eq_true Z) Z ?_))
  intro hW dw
  refine Zb (V ?_)
  exact ⟨fU, cU, aQ, dR, ((((dw.f1).f1).f4).f4).f4, u, n, a7, Z⟩
 intro gU hX dp
 obtain ⟨c4, p, d, af, bN, ce, dZ, ea, eb⟩ := dp
 refine (V (Zc (Zc (Zd (O Z Z (Zp JV Z ce Z (O Z Z (Zn (bN) A3 Z Z Z (O Z Z (Zm (v := U 0) Z Z (Zb (V ?_))))))))))))
 obtain ⟨h9, fq, hm⟩ := Zg hm
 obtain ⟨a4, cV, hm⟩ := Zg hm
 refine Qo (JZ (fun k' s' f' w' => (fun (a4 : (List Bool)) => ∃ (c5 : PHeap) (o : Value), PHeap.le c4 c5 ∧ St w0 c5 (Res.box ad 38 [U (b.States), U (b.Init), ag, ah, ai] :: Res.box j 38 [U (a.States), U (a.Init), x, y, z] :: Res.box l 38 [U 0, U 0, Vn, Vn, Vn] :: Res.box p 38 [U (IntKind.i64.wrap (b.States * a.States)), U (IntKind.i64.wrap ((IntKind.i64.wrap (b.Init * a.States)) + a.Init)), d, Vn, o] :: Res.arr (Qa .i64) 3 d aw :: Res.arr encBool 4 o a4 :: H) w' ∧ f' 2 = Vq ad ∧ f' 3 = Vq j ∧ f' 4 = Vq l ∧ f' 6 = Vq p ∧ f' 62 = U (b.States) ∧ f' 63 = U (k' : Int)) s') cV ?_ ?_ ?_)
 ·have dx := bN.nilArr encBool 4
  exact ⟨c4, Vn, (Zv _), ((((dx.f5).f5).f5).f5).f5, ce, dZ, ea, eb, Z, Z⟩
 ·intro aq a4 fV gV hY dI db aH
  obtain ⟨c6, o, bk, bO, ec, cf, ed, ee, cg, bB⟩ := db
  refine Zc (Zd (O Z Z (Zq Z bB cg (Zb (V (Zc (QL (Zx (decide_eq_true (by omega))) (Qq (V (Zc (Qo (Zc (Zd (O Z Z (Zm (v := U ((aq : Int))) Z bB (O Z Z (Zo (v := U ((aq : Int))) Z Z (Zb (V (Zc (Zd (O Z Z (Zp JV Z cf Z (O Z Z (Zn (bO.f1) A3 Z Z Z (O Z Z (Zm (v := U 0) Z Z (Zb (V ?_)))))))))))))))))))))))))))))
  obtain ⟨hA, fr, aH⟩ := Zg aH
  obtain ⟨bl, cW, aH⟩ := Zg aH
  refine Qo (JZ (fun k' s' f' w' => (fun (bl : (List Bool)) => ∃ (c7 : PHeap) (aR : Value), PHeap.le c6 c7 ∧ St w0 c7 (Res.box ad 38 [U (b.States), U (b.Init), ag, ah, ai] :: Res.box j 38 [U (a.States), U (a.Init), x, y, z] :: Res.box l 38 [U 0, U 0, Vn, Vn, Vn] :: Res.box p 38 [U (IntKind.i64.wrap (b.States * a.States)), U (IntKind.i64.wrap ((IntKind.i64.wrap (b.Init * a.States)) + a.Init)), d, Vn, aR] :: Res.arr (Qa .i64) 3 d aw :: Res.arr encBool 4 aR bl :: H) w' ∧ f' 2 = Vq ad ∧ f' 3 = Vq j ∧ f' 4 = Vq l ∧ f' 6 = Vq p ∧ f' 7 = U ((aq : Int)) ∧ f' 62 = U (b.States) ∧ f' 63 = U ((aq : Int)) ∧ f' 67 = U (a.States) ∧ f' 68 = U (k' : Int)) s') cW ?_ ?_ ?_)
  ·have dy := bO.f5
   exact ⟨c6, o, (Zv _), ((((dy.f5).f5).f5).f5).f5, ec, cf, ed, ee, Z, cg, bB, Z, Z⟩
  ·intro aL bl fW gW hZ dJ dc bj
   obtain ⟨b6, aR, bm, dz, bt, bu, ch, a1, bv, ci, cj, bw, aY⟩ := dc
   refine Zc (Zd (O Z Z (Zq Z aY bw (Zb (V (Zc (QL (Zx (decide_eq_true (by omega))) (Qq (V (Zc (Qo (Zc (Zd (O Z Z (Zm (v := U ((aL : Int))) Z aY (O Z Z (Zo (v := U ((aL : Int))) Z Z (Zb (V ?_)))))))))))))))))))
   obtain ⟨aN, ab, bj⟩ := Zg bj
   refine QK (M := fun f' w' => (fun (aN : (List Bool)) => ∃ (c8 : PHeap) (aX : Value), PHeap.le b6 c8 ∧ St w0 c8 (Res.box ad 38 [U (b.States), U (b.Init), ag, ah, ai] :: Res.box j 38 [U (a.States), U (a.Init), x, y, z] :: Res.box l 38 [U 0, U 0, Vn, Vn, Vn] :: Res.box p 38 [U (IntKind.i64.wrap (b.States * a.States)), U (IntKind.i64.wrap ((IntKind.i64.wrap (b.Init * a.States)) + a.Init)), d, Vn, aX] :: Res.arr (Qa .i64) 3 d aw :: Res.arr encBool 4 aX aN :: H) w' ∧ f' 2 = Vq ad ∧ f' 3 = Vq j ∧ f' 4 = Vq l ∧ f' 6 = Vq p ∧ f' 7 = U ((aq : Int)) ∧ f' 62 = U (b.States) ∧ f' 63 = U ((aq : Int)) ∧ f' 67 = U (a.States) ∧ f' 68 = U ((aL : Int))) aN) ?_ ?_
   ·refine KT (n0 := 16) (qs 0 14 (.e 14 [0, 1] (.e 15 [] .done))) Yc (by kernel_rfl) (by kernel_rfl) ?_
    have az := dz.drew
    refine Qm Z Z (Zp Qby Z a1 Z ⟨Z, ?_⟩)
    refine Qm Z Z (Zn (az.f3) A36 Z Z Z ⟨Z, ?_⟩)
    refine Qm Z Z (Zp Qby Z bt Z ⟨Z, ?_⟩)
    refine Qm Z Z (Zn (az) A36 Z Z Z ⟨Z, ?_⟩)
    refine Qm Z Z (Zm (v := U ((aq : Int))) Z bv ⟨Z, ?_⟩)
    obtain ⟨gk, fs, ab⟩ := Zg ab
    refine Qm Z Z (QT S36 Z Z Z (ba.mono (Zt (Zt (Zt aa af) bk) bm)) fs ?_)
    intro gy hn cL gF
    refine ⟨Z, ?_⟩
    refine Qm Z Z (Zw (E := encBool) az A4 Z Z Z cL ?_)
    intro hB ft
    obtain rfl := J0.1 ft
    refine ⟨Z, ?_⟩
    refine Qm Z Z (Zm (v := Vb gk) Z Z ⟨Z, ?_⟩)
    rcases Qf ab with ⟨ae, ab⟩ | ⟨ae, ab⟩
    ·refine QE Z Z (Zf Z (Zx ae)) (Zp Qby Z bu Z ⟨Z, ?_⟩)
     refine QE Z Z (Zf Z (Zx ae)) (Zn (az.f1) A36 Z Z Z ⟨Z, ?_⟩)
     refine QE Z Z (Zf Z (Zx ae)) (Zm (v := U ((aL : Int))) Z Z ⟨Z, ?_⟩)
     obtain ⟨aT, fu, ab⟩ := Zg ab
     refine QE Z Z (Zf Z (Zx ae)) (QT S36 Z Z Z (bc.mono (Zt (Zt (Zt aa af) bk) bm)) fu ?_)
     intro gz ho cM gG
     refine ⟨Z, ?_⟩
     refine QE Z Z (Zf Z (Zx ae)) (Zw (E := encBool) az A4 Z Z Z cM ?_)
     intro hC fv
     obtain rfl := J0.1 fv
     refine ⟨Z, ?_⟩
     refine Qm Z Z (Zs (v := Vb aT) Z (Zx ae) Z ⟨Z, ?_⟩)
     refine JQ Z Z (Exec.buildSlice (Te := 4) (cs := [Vb aT]) az Z (Qc (c := [Vb aT]) (Qh Z Z) Qu) (fun _ => by kernel_rfl) ?_)
     intro g0 ia bP
     refine ⟨(Qb (Q4 Z Z (Zp Qby Z a1 Z ⟨Z, Z⟩)) (Qb (Q4 Z Z (Zn (bP.f4) A36 Z Z Z ⟨Z, Z⟩)) QV)), ?_⟩
     obtain ⟨hi, fw, ab⟩ := Zg ab
     refine JQ Z Z (QZ (E := encBool) (ys := [aT]) bP.f6 S36 Z4 Z (by decide) Z Z Z Z ⟨[Vb aT], [], Z, Z, Z⟩ Z fw ?_)
     intro b8 ib be
     refine ⟨QV, ?_⟩
     refine QG (O Z Z (Zp Qby Z a1 Z (O Z Z (Qe (ds := [b8]) (es := [U (IntKind.i64.wrap (b.States * a.States)), U (IntKind.i64.wrap ((IntKind.i64.wrap (b.Init * a.States)) + a.Init)), d, Vn, b8]) be.f4 A36 Z Z Z (QX ((be.f4).f1).arr_one) (Zj ((be.f4).f1).arr_one Q5) (Nat.le_of_ble_eq_true Z) Z ?_))))
     intro ic d0
     refine Zb (V ?_)
     have gH := Zu ab
     subst aN
     exact ⟨b6, b8, (Zv _), (((((d0.f1).f5).f2).f5).f5).f5, bt, bu, ch, a1, bv, ci, cj, bw, aY⟩
    replace ae := Zk ae
    refine Jh 6 (by rw [ae]; rfl) ?_
    refine JQ Z Z (Exec.buildSlice (Te := 4) (cs := [Vb false]) az Z (Qc (c := [Vb false]) (Qh Z Z) Qu) (fun _ => by kernel_rfl) ?_)
    intro g1 ie bQ
    refine ⟨(Qb (Q4 Z Z (Zp Qby Z a1 Z ⟨Z, Z⟩)) (Qb (Q4 Z Z (Zn (bQ.f4) A36 Z Z Z ⟨Z, Z⟩)) QV)), ?_⟩
    obtain ⟨hj, fx, ab⟩ := Zg ab
    refine JQ Z Z (QZ (E := encBool) (ys := [false]) bQ.f6 S36 Z4 Z (by decide) Z Z Z Z ⟨[Vb false], [], Z, Z, Z⟩ Z fx ?_)
    intro b9 ig bf
    refine ⟨QV, ?_⟩
    refine QG (O Z Z (Zp Qby Z a1 Z (O Z Z (Qe (ds := [b9]) (es := [U (IntKind.i64.wrap (b.States * a.States)), U (IntKind.i64.wrap ((IntKind.i64.wrap (b.Init * a.States)) + a.Init)), d, Vn, b9]) bf.f4 A36 Z Z Z (QX ((bf.f4).f1).arr_one) (Zj ((bf.f4).f1).arr_one Q5) (Nat.le_of_ble_eq_true Z) Z ?_))))
    intro ih d1
    refine Zb (V ?_)
    have gI := Zu ab
    subst aN
    exact ⟨b6, b9, (Zv _), (((((d1.f1).f5).f2).f5).f5).f5, bt, bu, ch, a1, bv, ci, cj, bw, aY⟩
   intro gX ii dq
   obtain ⟨fX, aX, dS, d2, ef, eg, eh, ei, ej, ek, el, em, en⟩ := dq
   refine (Qz (V (Zd (O Z Z (Exec.add Z en Z (O Z Z (Zm (v := U (IntKind.i64.wrap ((aL : Int) + 1))) Z Z (Zb (V ?_)))))))))
   have gJ := Zu bj
   subst fW
   exact ⟨fX, aX, (Zt bm dS), (((((d2.f5).f5).f5).f5).f5).f5, ef, eg, eh, ei, ej, ek, el, em, (Eq.trans Z (QF dJ (by have h := Q7 fr; simp at h; simp only [maxLen]; omega)))⟩
  intro gY ij dd
  obtain ⟨fY, aR, dT, d3, eo, ep, er, et, hv, eu, ev, ew, gl⟩ := dd
  refine Zc (Zd (O Z Z (Zq Z gl ew (Zb (V (Zc (QB (Zx (decide_eq_false (by omega))) (QJ (Qn (Qn (Q9 (Qz (V (Zd (O Z Z (Exec.add Z ev Z (O Z Z (Zm (v := U (IntKind.i64.wrap ((aq : Int) + 1))) Z Z (Zb (V ?_))))))))))))))))))))
  have gK := Zu aH
  subst fV
  exact ⟨fY, aR, (Zt bk dT), (((((d3.f5).f5).f5).f5).f5).f5, eo, ep, er, et, eu, (Eq.trans Z (QF dI (by have h := Q7 fq; simp at h; simp only [maxLen]; omega)))⟩
 intro gZ ik de
 obtain ⟨h3, o, au, bg, ex, bx, ey, ez, e0, gm⟩ := de
 refine Zc (Zd (O Z Z (Zq Z gm e0 (Zb (V (Zc (QB (Zx (decide_eq_false (by omega))) (QJ (Qn (Qn (Q9 (V (Zc (KT (n0 := 5) (.q 0 (.q 2 (.e 1 [2] (.e 3 [] (.q 4 .done))))) Yc (by kernel_rfl) (by kernel_rfl) (Qm Z Z (Ql (ds := [U (b.States), U (b.Init), ag, ah, ai]) (bg.drew) KS Z ex Z ⟨Z, ?_⟩))))))))))))))))
 refine Qm Z Z (Ql (ds := [U (a.States), U (a.Init), x, y, z]) ((bg.drew).f1) KS Z bx Z ⟨Z, ?_⟩)
 obtain ⟨aZ, fy, hm⟩ := Zg hm
 refine JQ Z Z (Tc Z Z Z (Zi Z Qk) (Qbk fy bg.drew (aB.mono (Zt (Zt aa af) au)) (bH.mono (Zt (Zt aa af) au)) (ba.mono (Zt (Zt aa af) au))).r ?_)
 rintro aj il ⟨h4, _, aO, bR, rfl, a8⟩
 refine ⟨(Qb (Q4 Z Z (Ql (ds := [U (a.States), U (a.Init), x, y, z]) (bR.f1) KS Z bx Z ⟨Z, Z⟩)) QV), ?_⟩
 obtain ⟨i8, fz, hm⟩ := Zg hm
 refine JQ Z Z (Tc Z Z Z (Zi Z Qk) (Qbk fz bR (bb.mono (Zt (Zt (Zt aa af) au) aO)) (bI.mono (Zt (Zt (Zt aa af) au) aO)) (bc.mono (Zt (Zt (Zt aa af) au) aO))).r ?_)
 rintro a3 im ⟨c9, _, av, d4, rfl, c1⟩
 refine ⟨QV, ?_⟩
 refine Qm Z Z (Zo (v := aj) Z Z ⟨Z, ?_⟩)
 refine QG (O Z Z (Zo (v := a3) Z Z (Zb (V (Zc (Zd (O Z Z (Zo (v := U 0) Z Z (Zb (V (Zc (Zc (Zd (O Z Z (Zm (v := aj) Z Z (O Z Z (Zr QgD Z Z (a8.mono av) (O Z Z (Zm (v := U 0) Z Z (Zb (V ?_)))))))))))))))))))))
 obtain ⟨a6, cX, hm⟩ := Zg hm
 refine Qo (JZ (fun k' s' f' w' => (fun (a6 : Int) => ∃ (cA : PHeap) , PHeap.le c9 cA ∧ St w0 cA (Res.box j 38 [U (a.States), U (a.Init), x, y, z] :: Res.box l 38 [U 0, U 0, Vn, Vn, Vn] :: Res.box p 38 [U (IntKind.i64.wrap (b.States * a.States)), U (IntKind.i64.wrap ((IntKind.i64.wrap (b.Init * a.States)) + a.Init)), d, Vn, o] :: Res.arr (Qa .i64) 3 d aw :: Res.arr encBool 4 o a4 :: H) w' ∧ f' 3 = Vq j ∧ f' 4 = Vq l ∧ f' 6 = Vq p ∧ f' 9 = aj ∧ f' 10 = a3 ∧ f' 11 = U a6 ∧ f' 95 = U ((aZ.length : Int)) ∧ f' 96 = U (k' : Int)) s') cX ?_ ?_ ?_)
 ·have d5 := d4.drop
  exact ⟨c9, (Zv _), ((((d5.f4).f4).f4).f4).f4, bx, ey, ez, Z, Z, Z, Z, Z⟩
 ·intro aM a6 fZ ha io dK df aI
  obtain ⟨ga, bn, bh, e1, e2, e3, ck, cl, e4, cm, bC⟩ := df
  refine Zc (Zd (O Z Z (Zq Z bC cm (Zb (V (Zc (QL (Zx (decide_eq_true (by omega))) (Qq (V (Zc (Qo (Zc (Zd (O Z Z (Zm (v := U ((aM : Int))) Z bC (O Z Z (Zo (v := U ((aM : Int))) Z Z (Zb (V (KT (n0 := 13) (qs 0 13 .done) Yc (by kernel_rfl) (by kernel_rfl) (Qm Z Z (Zm (v := U a6) Z e4 ⟨Z, ?_⟩))))))))))))))))))))))
  refine Qm Z Z (Zm (v := aj) Z ck ⟨Z, ?_⟩)
  refine Qm Z Z (Zm (v := U ((aM : Int))) Z Z ⟨Z, ?_⟩)
  obtain ⟨gn, f0, aI⟩ := Zg aI
  refine Qm Z Z (QT QgD Z Z Z (a8.mono (Zt av bn)) f0 ?_)
  intro g2 hp cN gL
  refine ⟨Z, ?_⟩
  refine Qm Z Z (Zw (E := (QM encEdge)) bh.drew A35 Z Z Z cN ?_)
  intro hD f8
  have fL := K3.1 f8
  refine ⟨Z, ?_⟩
  refine Qm Z Z (Zr S35 Z Z fL ⟨Z, ?_⟩)
  refine Qm Z Z (Zm (v := a3) Z cl ⟨Z, ?_⟩)
  refine Qm Z Z (Zm (v := U ((aM : Int))) Z Z ⟨Z, ?_⟩)
  obtain ⟨go, f9, aI⟩ := Zg aI
  refine Qm Z Z (QT QgD Z Z Z (c1.mono bn) f9 ?_)
  intro g3 hq cO gM
  refine ⟨Z, ?_⟩
  refine Qm Z Z (Zw (E := (QM encEdge)) bh.drew A35 Z Z Z cO ?_)
  intro hE fA
  have fM := K3.1 fA
  refine ⟨Z, ?_⟩
  refine Qm Z Z (Zr S35 Z Z fM ⟨Z, ?_⟩)
  refine Qm Z Z (Exec.mul Z Z Z ⟨Z, ?_⟩)
  refine Qm Z Z (Exec.add Z Z Z ⟨Z, ?_⟩)
  refine QG (O Z Z (Zo (v := U (IntKind.i64.wrap (a6 + (IntKind.i64.wrap ((gn.length : Int) * (go.length : Int)))))) Z Z (Zb (Qz (V (Zd (O Z Z (Exec.add Z bC Z (O Z Z (Zm (v := U (IntKind.i64.wrap ((aM : Int) + 1))) Z Z (Zb (V ?_))))))))))))
  have gN := Zu aI
  subst fZ
  exact ⟨ga, bn, (((((bh.drew).f4).f4).f4).f4).f4, e1, e2, e3, ck, cl, Z, cm, (Eq.trans Z (QF dK (SliceRep.le (a8.mono av))))⟩
 intro hb ip dg
 obtain ⟨b7, a5, bS, e5, bz, e6, cn, e7, e8, e9, gp⟩ := dg
 refine Zc (Zd (O Z Z (Zq Z gp e9 (Zb (V (Zc (QB (Zx (decide_eq_false (by omega))) (QJ (Qn (Qn (Q9 (V (Zc (Zc (Zd (O Z Z (Zm (v := U a6) Z e8 (O Z Z (Exec.gtr Z Z Z (Zb (V ?_)))))))))))))))))))))
 rcases Qf hm with ⟨aG, hm⟩ | ⟨aG, hm⟩
 ·refine Qr Z aG (Zc (Zd (O Z Z (Exec.build Z Qu (v := Value.agg #[U 0, U 0, Vn, Vn, Vn]) (fun _ => by kernel_rfl) (O Z Z (Exec.makeInterface C50 Z Z (O Z Z (Qe (ds := [U 0, U 0, Vn, Vn, Vn]) (es := [U 0, U 0, Vn, Vn, Vn]) bS.f1 KS Z bz Z Z (Zj Z (Zj Z (Zj Z (Zj Z (Zj Z Q5))))) (Nat.le_of_ble_eq_true Z) Z ?_))))))))
  intro iq bT
  refine O Z Z (Zo (v := QD 50 (some 5)) Z Z (Zb (V (Q0 (Qi ?_)))))
  have gO := Zu hm
  subst r
  refine ⟨_, Qat Z ⟨_, _, bz, Kj (bT) KS⟩ Z, ?_⟩
  exact ⟨b7, Vn, Vn, Vn, (Zt (Zt (Zt (Zt (Zt aa af) au) aO) av) a5), ((((bT.drop).drop).drop).drop).drop, (Yp Z Z), (SliceRep.nil _ _), (SliceRep.nil _ _), (SliceRep.nil _ _)⟩
 refine Qs Z aG ?_
 replace aG := Zk aG
 refine Qq (V (Zc (Zc (Zd (O Z Z (Zm (v := aj) Z cn (O Z Z (Zr QgD Z Z (a8.mono (Zt av a5)) (O Z Z (Zm (v := U 0) Z Z (Zb (V ?_))))))))))))
 obtain ⟨bG, cY, hm⟩ := Zg hm
 refine Qo (JZ (fun k' s' f' w' => (fun (bG : (List Edge)) => ∃ (cB : PHeap) (ak : Value), PHeap.le b7 cB ∧ St w0 cB (Res.box j 38 [U (a.States), U (a.Init), x, y, z] :: Res.box l 38 [U 0, U 0, Vn, Vn, Vn] :: Res.box p 38 [U (IntKind.i64.wrap (b.States * a.States)), U (IntKind.i64.wrap ((IntKind.i64.wrap (b.Init * a.States)) + a.Init)), d, ak, o] :: Res.arr (Qa .i64) 3 d aw :: Res.arr encEdge 85 ak bG :: Res.arr encBool 4 o a4 :: H) w' ∧ f' 3 = Vq j ∧ f' 4 = Vq l ∧ f' 6 = Vq p ∧ f' 9 = aj ∧ f' 10 = a3 ∧ f' 118 = U ((aZ.length : Int)) ∧ f' 119 = U (k' : Int)) s') cY ?_ ?_ ?_)
 ·have d6 := bS.nilArr encEdge 85
  exact ⟨b7, Vn, (Zv _), (((((d6.f5).f1).f5).f5).f5).f5, e5, bz, e6, cn, e7, Z, Z⟩
 ·intro m bG gb hc ir dL dh aJ
  obtain ⟨cC, ak, bo, bU, eA, eB, eC, co, eD, cp, bD⟩ := dh
  refine Zc (Zd (O Z Z (Zq Z bD cp (Zb (V (Zc (QL (Zx (decide_eq_true (by omega))) (Qq (V (Zc (Qo (Zc (Zd (O Z Z (Zm (v := U ((m : Int))) Z bD (O Z Z (Zo (v := U ((m : Int))) Z Z (Zb (V (Zc (Zd (O Z Z (Zm (v := aj) Z co (O Z Z (Zm (v := U ((m : Int))) Z Z ?_)))))))))))))))))))))))))
  obtain ⟨cK, fB, aJ⟩ := Zg aJ
  refine O Z Z (Qy QgD Z Z Z (a8.mono (Zt (Zt av a5) bo)) fB ?_)
  intro g4 hr cP
  refine O Z Z (Zw (E := (QM encEdge)) bU A35 Z Z Z cP ?_)
  intro cJ fC
  have b3 := K3.1 fC
  refine O Z Z (Zr S35 Z Z b3 (O Z Z (Zm (v := U 0) Z Z (Zb (V ?_)))))
  obtain ⟨bp, cZ, aJ⟩ := Zg aJ
  refine Qo (JZ (fun k' s' f' w' => (fun (bp : (List Edge)) => ∃ (cD : PHeap) (a9 : Value), PHeap.le cC cD ∧ St w0 cD (Res.box j 38 [U (a.States), U (a.Init), x, y, z] :: Res.box l 38 [U 0, U 0, Vn, Vn, Vn] :: Res.box p 38 [U (IntKind.i64.wrap (b.States * a.States)), U (IntKind.i64.wrap ((IntKind.i64.wrap (b.Init * a.States)) + a.Init)), d, a9, o] :: Res.arr (Qa .i64) 3 d aw :: Res.arr encEdge 85 a9 bp :: Res.arr encBool 4 o a4 :: H) w' ∧ f' 3 = Vq j ∧ f' 4 = Vq l ∧ f' 6 = Vq p ∧ f' 9 = aj ∧ f' 10 = a3 ∧ f' 13 = U ((m : Int)) ∧ f' 118 = U ((aZ.length : Int)) ∧ f' 119 = U ((m : Int)) ∧ f' 125 = cJ ∧ f' 126 = U ((cK.length : Int)) ∧ f' 127 = U (k' : Int)) s') cZ ?_ ?_ ?_)
  ·have d7 := bU.f5
   exact ⟨cC, ak, (Zv _), ((((d7.f5).f5).f5).f5).f5, eA, eB, eC, co, eD, Z, cp, bD, Z, Z, Z⟩
  ·intro ca bp gc hd it dM di a0
   obtain ⟨cE, a9, bq, bV, eE, eF, eG, eH, cq, cr, eI, eJ, ct, cu, bE⟩ := di
   refine Zc (Zd (O Z Z (Zq Z bE cu (Zb (V (Zc (QL (Zx (decide_eq_true (by omega))) (Qq (V (Zc (Qo (Zc (Zd ?_)))))))))))))
   obtain ⟨g, fD, a0⟩ := Zg a0
   refine O Z Z (Qy S35 Z ct bE (b3.mono bq) fD ?_)
   intro g5 hs cQ
   refine O Z Z (Zw (E := encEdge) bV A85 Z Z Z cQ ?_)
   intro hF fE
   obtain rfl := JX.1 fE
   refine O Z Z (Exec.alloc (cs := [U 0, U 0, U 0]) bV Z85 Z Z ?_)
   intro bJ iu d8
   refine O Z Z (Qe (ds := [U (g.From), U (g.Label), U (g.To)]) (es := [U (g.From), U (g.Label), U (g.To)]) d8 A85 Z Z Z Z (Zj Z (Zj Z (Zj Z Q5))) (Nat.le_of_ble_eq_true Z) Z ?_)
   intro iv bW
   refine Zb (V (Zc (Zd (O Z Z (Zm (v := a3) Z cq (O Z Z (Zm (v := U ((m : Int))) Z cr ?_)))))))
   obtain ⟨gq, fF, a0⟩ := Zg a0
   refine O Z Z (Qy QgD Z Z Z (c1.mono (Zt (Zt a5 bo) bq)) fF ?_)
   intro g6 ht cR
   refine O Z Z (Zw (E := (QM encEdge)) bW A35 Z Z Z cR ?_)
   intro gj fG
   have b4 := K3.1 fG
   refine O Z Z (Zr S35 Z Z b4 (O Z Z (Zm (v := U 0) Z Z (Zb (V ?_)))))
   obtain ⟨br, da, a0⟩ := Zg a0
   refine Qo (JZ (fun k' s' f' w' => (fun (br : (List Edge)) => ∃ (cF : PHeap) (aS : Value), PHeap.le cE cF ∧ St w0 cF (Res.box j 38 [U (a.States), U (a.Init), x, y, z] :: Res.box l 38 [U 0, U 0, Vn, Vn, Vn] :: Res.box p 38 [U (IntKind.i64.wrap (b.States * a.States)), U (IntKind.i64.wrap ((IntKind.i64.wrap (b.Init * a.States)) + a.Init)), d, aS, o] :: Res.box bJ 85 [U (g.From), U (g.Label), U (g.To)] :: Res.arr (Qa .i64) 3 d aw :: Res.arr encEdge 85 aS br :: Res.arr encBool 4 o a4 :: H) w' ∧ f' 3 = Vq j ∧ f' 4 = Vq l ∧ f' 6 = Vq p ∧ f' 9 = aj ∧ f' 10 = a3 ∧ f' 13 = U ((m : Int)) ∧ f' 15 = Vq bJ ∧ f' 118 = U ((aZ.length : Int)) ∧ f' 119 = U ((m : Int)) ∧ f' 125 = cJ ∧ f' 126 = U ((cK.length : Int)) ∧ f' 127 = U ((ca : Int)) ∧ f' 134 = gj ∧ f' 135 = U ((gq.length : Int)) ∧ f' 136 = U (k' : Int)) s') da ?_ ?_ ?_)
   ·have d9 := bW.f6
    exact ⟨cE, a9, (Zv _), (((((d9.f6).f6).f3).f6).f6).f6, eE, eF, eG, eH, cq, cr, Z, eI, eJ, ct, cu, bE, Z, Z, Z⟩
   ·intro dO br gd he iw dN dj aK
    obtain ⟨gf, aS, cb, bX, b0, eK, b1, eL, eM, cv, b2, eN, eO, eP, eQ, eR, cw, cx, bF⟩ := dj
    refine Zc (Zd (O Z Z (Zq Z bF cx (Zb (V (Zc (QL (Zx (decide_eq_true (by omega))) (Qq (V (Zc (Qo (Zc (Zd ?_)))))))))))))
    obtain ⟨i, fH, aK⟩ := Zg aK
    refine O Z Z (Qy S35 Z cw bF (b4.mono cb) fH ?_)
    intro g7 hu cS
    refine O Z Z (Zw (E := encEdge) bX A85 Z Z Z cS ?_)
    intro hG fI
    obtain rfl := JX.1 fI
    refine O Z Z (Exec.alloc (cs := [U 0, U 0, U 0]) bX Z85 Z Z ?_)
    intro g8 ix dA
    refine O Z Z (Qe (ds := [U (i.From), U (i.Label), U (i.To)]) (es := [U (i.From), U (i.Label), U (i.To)]) dA A85 Z Z Z Z (Zj Z (Zj Z (Zj Z Q5))) (Nat.le_of_ble_eq_true Z) Z ?_)
    intro iy ao
    refine Zb (V (Zd (O Z Z (Zp QaN Z b1 Z (O Z Z (Zn (ao.f3) A35 Z Z Z (O Z Z (Zp Qbx Z b2 Z (O Z Z (Zn (ao.f4) A3 Z Z Z (O Z Z (Zp JV Z b0 Z (O Z Z (Zn (ao.f1) A3 Z Z Z (O Z Z (Exec.mul Z Z Z (O Z Z (Zp Qbx Z Z Z (O Z Z (Zn (ao) A3 Z Z Z (O Z Z (Exec.add Z Z Z (O Z Z (Zm (v := U ((m : Int))) Z cv (O Z Z (Zp Qan Z b2 Z (O Z Z (Zn (ao.f4) A3 Z Z Z (O Z Z (Zp JV Z b0 Z (O Z Z (Zn (ao.f1) A3 Z Z Z (O Z Z (Exec.mul Z Z Z (O Z Z (Zp Qan Z Z Z (O Z Z (Zn (ao) A3 Z Z Z (O Z Z (Exec.add Z Z Z (O Z Z (Exec.build Z (Qc (c := [U (IntKind.i64.wrap ((IntKind.i64.wrap (g.From * a.States)) + i.From))]) (Qh Z Z) (Qc (c := [U ((m : Int))]) (Qh Z Z) (Qc (c := [U (IntKind.i64.wrap ((IntKind.i64.wrap (g.To * a.States)) + i.To))]) (Qh Z Z) Qu))) (v := Value.agg #[U (IntKind.i64.wrap ((IntKind.i64.wrap (g.From * a.States)) + i.From)), U ((m : Int)), U (IntKind.i64.wrap ((IntKind.i64.wrap (g.To * a.States)) + i.To))]) (fun _ => by kernel_rfl) (O Z Z (Exec.buildSlice (Te := 85) (cs := [U (IntKind.i64.wrap ((IntKind.i64.wrap (g.From * a.States)) + i.From)), U ((m : Int)), U (IntKind.i64.wrap ((IntKind.i64.wrap (g.To * a.States)) + i.To))]) ao Z (Qc (c := [U (IntKind.i64.wrap ((IntKind.i64.wrap (g.From * a.States)) + i.From)), U ((m : Int)), U (IntKind.i64.wrap ((IntKind.i64.wrap (g.To * a.States)) + i.To))]) (Qh Z Z) Qu) (fun _ => by kernel_rfl) ?_))))))))))))))))))))))))))))))))))))))))))))
    intro g9 iz dB
    obtain ⟨hk, fJ, aK⟩ := Zg aK
    refine O Z Z (QZ (E := encEdge) (ys := [(⟨IntKind.i64.wrap ((IntKind.i64.wrap (g.From * a.States)) + i.From), (m : Int), IntKind.i64.wrap ((IntKind.i64.wrap (g.To * a.States)) + i.To)⟩ : Edge)]) dB.f7 S35 Z85 Z (by decide) Z Z Z Z ⟨[U (IntKind.i64.wrap ((IntKind.i64.wrap (g.From * a.States)) + i.From)), U ((m : Int)), U (IntKind.i64.wrap ((IntKind.i64.wrap (g.To * a.States)) + i.To))], [], Z, ⟨[U (IntKind.i64.wrap ((IntKind.i64.wrap (g.From * a.States)) + i.From))], [U ((m : Int)), U (IntKind.i64.wrap ((IntKind.i64.wrap (g.To * a.States)) + i.To))], Z, Z, ⟨[U ((m : Int))], [U (IntKind.i64.wrap ((IntKind.i64.wrap (g.To * a.States)) + i.To))], Z, Z, Z⟩⟩, Z⟩ Z fJ ?_)
    intro bA i0 bi
    refine O Z Z (Zp QaN Z b1 Z (O Z Z (Qe (ds := [bA]) (es := [U (IntKind.i64.wrap (b.States * a.States)), U (IntKind.i64.wrap ((IntKind.i64.wrap (b.Init * a.States)) + a.Init)), d, bA, o]) bi.f4 A35 Z Z Z (QX ((bi.f4).f1).arr_one) (Zj ((bi.f4).f1).arr_one Q5) (Nat.le_of_ble_eq_true Z) Z ?_)))
    intro i1 dC
    refine Zb (Qz (V (Zd (O Z Z (Exec.add Z bF Z (O Z Z (Zm (v := U (IntKind.i64.wrap ((dO : Int) + 1))) Z Z (Zb (V ?_)))))))))
    have gP := Zu aK
    subst gd
    exact ⟨gf, bA, cb, ((((((((dC.f2).drop).f6).f2).f6).f6).f4).f6).f6, b0, eK, b1, eL, eM, cv, b2, eN, eO, eP, eQ, eR, cw, cx, (Eq.trans Z (QF dN (SliceRep.le b4)))⟩
   intro hf i2 dk
   obtain ⟨gg, aS, dU, dD, eS, eT, eU, eV, eW, eX, hw, eY, eZ, fa, fb, fc, hx, fd, gr⟩ := dk
   refine Zc (Zd (O Z Z (Zq Z gr fd (Zb (V (Zc (QB (Zx (decide_eq_false (by omega))) (QJ (Qn (Qn (Q9 (Qz (V (Zd (O Z Z (Exec.add Z fc Z (O Z Z (Zm (v := U (IntKind.i64.wrap ((ca : Int) + 1))) Z Z (Zb (V ?_))))))))))))))))))))
   have gQ := Zu a0
   subst gc
   exact ⟨gg, aS, (Zt bq dU), (((((((dD.f3).drop).f5).f5).f5).f5).f5).f5, eS, eT, eU, eV, eW, eX, eY, eZ, fa, fb, (Eq.trans Z (QF dM (SliceRep.le b3)))⟩
  intro hg i3 dl
  obtain ⟨gh, a9, dV, dE, fe, ff, fg, fh, fi, hy, fj, fk, hz, fl, gs⟩ := dl
  refine Zc (Zd (O Z Z (Zq Z gs fl (Zb (V (Zc (QB (Zx (decide_eq_false (by omega))) (QJ (Qn (Qn (Q9 (Qz (V (Zd (O Z Z (Exec.add Z fk Z (O Z Z (Zm (v := U (IntKind.i64.wrap ((m : Int) + 1))) Z Z (Zb (V ?_))))))))))))))))))))
  have gR := Zu aJ
  subst gb
  exact ⟨gh, a9, (Zt bo dV), (((((dE.f5).f5).f5).f5).f5).f5, fe, ff, fg, fh, fi, fj, (Eq.trans Z (QF dL (SliceRep.le (a8.mono (Zt av a5)))))⟩
 intro hh i4 dm
 obtain ⟨h5, ak, dW, bY, h0, cy, cz, h1, h2, fm, gu⟩ := dm
 refine Zc (Zd (O Z Z (Zq Z gu fm (Zb (V (Zc (QB (Zx (decide_eq_false (by omega))) (QJ (Qn (Qn (Q9 (V (Zc (Zd (O Z Z (Zp QaN Z cz Z (O Z Z (Zn (bY.f2) A35 Z Z Z ?_))))))))))))))))))
 obtain ⟨hl, fK, hm⟩ := Zg hm
 refine O Z Z (Tc Z Z Z (Zi Z (Zi Z Qk)) (QhM fK bY.f4).r ?_)
 rintro _ i5 ⟨h6, dX, aD, rfl⟩
 refine Zb (V (Zc (Zd (O Z Z (Ql (ds := [U (IntKind.i64.wrap (b.States * a.States)), U (IntKind.i64.wrap ((IntKind.i64.wrap (b.Init * a.States)) + a.Init)), d, ak, o]) (aD.f3) KS Z cz Z (O Z Z (Qe (ds := [U (IntKind.i64.wrap (b.States * a.States)), U (IntKind.i64.wrap ((IntKind.i64.wrap (b.Init * a.States)) + a.Init)), d, ak, o]) (es := [U (IntKind.i64.wrap (b.States * a.States)), U (IntKind.i64.wrap ((IntKind.i64.wrap (b.Init * a.States)) + a.Init)), d, ak, o]) aD.f2 KS Z cy Z Z (Zj Z (Zj Z (Zj ((aD.f2).f4).arr_one (Zj ((aD.f2).f1).arr_one (Zj ((aD.f2).f5).arr_one Q5))))) (Nat.le_of_ble_eq_true Z) Z ?_)))))))
 intro i6 bZ
 refine O Z Z (Zo (v := QD 50 (none)) Z Z (Zb (V (Q0 ?_))))
 have gS := Zu hm
 subst r
 refine ⟨_, Qat Z ⟨_, _, cy, Kj (bZ) KS⟩ Z, ?_⟩
 obtain ⟨h7, dY, dF, fN⟩ := bZ.f4.freezeArr
 obtain ⟨h8, cc, dG, fO⟩ := dF.f1.freezeArr
 obtain ⟨gi, bs, dH, fP⟩ := dG.f3.freezeArr
 exact ⟨gi, d, ak, o, (Zt (Zt (Zt (Zt (Zt (Zt (Zt (Zt (Zt (Zt aa af) au) aO) av) a5) dW) dX) dY) cc) bs), ((dH.drop).drop).drop, (Yp Z Z), (fN.mono (Zt cc bs)), (fO.mono bs), fP⟩
theorem YP {w0 w : World} {s : PHeap} {H : List Res} {an : mergeshrink_Abstraction} {bk : Task} {aA : (List Int)} {o : Int} {d : Nat} {l : Value} {ai : Value} {aj : Value} {ak : Value} {al : Value} {au : Value} {r : (Option Int) × System × (List mergeshrink_stage) × Bool} (hm : Ja an bk aA o = some r) (hS : St w0 s (Res.box d 74 [l, Value.slice none 0 0, Value.slice none 0 0, Value.bool (an.exact)] :: Res.arr (Qa .i64) 3 l an.vars :: H) w) (cc : SliceRep (Qa .i64) s ai bk.Vars) (cd : SliceRep (Qa .i64) s aj bk.Init) (ce : SliceRep encFact s ak bk.Goal) (cf : SliceRep encOp s al bk.Ops) (aT : SliceRep (Qa .i64) s au aA) :
  Calls Tryz.prog 37 #[Value.pointer (some ⟨d, 0, none⟩), Value.agg #[ai, aj, ak, al], au, U o] w fun e w' => ∃ v, e = .returned v ∧ ((un4 fun (eV : (Option Int)) (bx : System) (eZ : (List mergeshrink_stage)) (fa : Bool) => ∃ (bh : PHeap) (cS : Value) (cT : Value) (cU : Value) (cV : Value), PHeap.le s bh ∧ St w0 bh (Res.box d 74 [l, cV, Value.slice none 0 0, Value.bool (fa)] :: Res.arr (Qa .i64) 3 l an.vars :: Res.arr encmergeshrink_stage 87 cV eZ :: H) w' ∧ v = Value.tuple #[Value.agg #[U (bx.States), U (bx.Init), cS, cT, cU], QD 50 (eV)] ∧ SliceRep (Qa .i64) bh cS bx.Costs ∧ SliceRep encEdge bh cT bx.Edges ∧ SliceRep encBool bh cU bx.Goals) r) := by
 unfold Ja at hm
 refine Qw Tryz.func37 Z Z (Zc (Zd (O Z Z (Exec.box (cs := [ai, aj, ak, al]) hS Z Z Z ?_))))
 intro ab fS dk
 refine O Z Z (Exec.alloc (cs := [U 0, U 0, Vn, Vn, Vn]) dk Z38 Z Z ?_)
 intro ac fT bB
 refine O Z Z (Zo (v := QD 50 (none)) Z Z (Zb (V (Zc (Zc (Zd (O Z Z (Zm (v := au) Z Z (O Z Z (Zr JG Z Z aT (O Z Z (Exec.eql Z Z Z (Zb (V ?_))))))))))))))
 rcases Qf hm with ⟨aU, hm⟩ | ⟨aU, hm⟩
 ·refine Qr Z aU (Zc (Zd (O Z Z (Ql (ds := [ai, aj, ak, al]) (bB.f1) A26 Z Z Z ?_))))
  obtain ⟨eL, e1, hm⟩ := Zg hm
  obtain ⟨cW, aL⟩ := eL
  replace hm := Jp hm
  refine O Z Z (Tc Z Z Z (Zi Z (Zi Z Qk)) (Qb2 e1 bB cc cd ce cf (SliceRep.nil _ _)).r ?_)
  rintro _ fU ⟨eE, b6, b7, b8, dE, dl, rfl, c6, c7, c8⟩
  refine O Z Z (Exec.extract (v := Value.agg #[U (aL.States), U (aL.Init), b6, b7, b8]) Z Z Z (O Z Z (Exec.extract (v := QD 50 (cW)) Z Z Z (O Z Z (Qe (ds := [U (aL.States), U (aL.Init), b6, b7, b8]) (es := [U (aL.States), U (aL.Init), b6, b7, b8]) dl KS Z Z Z Z (Zj Z (Zj Z (Zj c6.one (Zj c7.one (Zj c8.one Q5))))) (Nat.le_of_ble_eq_true Z) Z ?_)))))
  intro fV ch
  refine O Z Z (Zo (v := QD 50 (cW)) Z Z (Zb (V (Q0 (Qi ?_)))))
  have fg := Zu hm
  subst r
  refine ⟨_, Qat Z ⟨_, _, Z, Kj (ch) KS⟩ Z, ?_⟩
  have dm := ch.nilArr encmergeshrink_stage 87
  exact ⟨eE, b6, b7, b8, Vn, dE, (((((dm.f1).drop).f1).drop).f2).f2, (Yp Z Z), c6, c7, c8⟩
 refine Qs Z aU ?_
 replace aU := Zk aU
 refine Qq (V (Zc (Zd (O Z Z (Zm (v := U o) Z Z ?_)))))
 obtain ⟨p, e2, hm⟩ := Zg hm
 refine O Z Z (Tc Z Z Z (Zi Z Qk) (Qdu e2 bB).r ?_)
 rintro _ fW ⟨bX, n, dn, rfl⟩
 refine O Z Z (Zo (v := U p) Z Z (Zb (V (Zc (Zd (O Z Z (Exec.alloc (cs := [U 0, U 0, Vn, Vn, Vn]) dn Z38 Z Z ?_)))))))
 intro ad fX dp
 refine Zb (V (Zc (Zc (Zd (O Z Z (Zm (v := au) Z Z (O Z Z (Zr JG Z Z (aT.mono n) (O Z Z (Zm (v := U 0) Z Z (Zb (V ?_))))))))))))
 obtain ⟨cg, dd, be, d7, d6⟩ := QN hm
 refine QK (M := fun f' w' => ∃ s', (cg = .next s' ∨ cg = .brk s') ∧ (un7 fun (cX : (List mergeshrink_stage)) (cY : Bool) (bz : Int) (b0 : Int) (cZ : (List Int)) (da : (List Edge)) (db : (List Bool)) => ∃ (bi : PHeap) (aC : Value) (aD : Value) (aE : Value) (b9 : Value), PHeap.le bX bi ∧ St w0 bi (Res.box d 74 [l, b9, Vn, Vb cY] :: Res.arr (Qa .i64) 3 l an.vars :: Res.box ab 26 [ai, aj, ak, al] :: Res.box ac 38 [U 0, U 0, Vn, Vn, Vn] :: Res.box ad 38 [U bz, U b0, aC, aD, aE] :: Res.arr encmergeshrink_stage 87 b9 cX :: H) w' ∧ f' 0 = Vq d ∧ f' 3 = U o ∧ f' 5 = Vq ab ∧ f' 8 = Vq ac ∧ f' 10 = U p ∧ f' 11 = Vq ad ∧ f' 28 = au ∧ f' 29 = U ((aA.length : Int)) ∧ SliceRep (Qa .i64) bi aC cZ ∧ SliceRep encEdge bi aD da ∧ SliceRep encBool bi aE db) s') ?_ ?_
 ·refine Qo (JI (fun k' s' f' w' => (un7 fun (aR : (List mergeshrink_stage)) (aS : Bool) (aa : Int) (aF : Int) (bZ : (List Int)) (ca : (List Edge)) (cb : (List Bool)) => ∃ (bj : PHeap) (av : Value) (aw : Value) (ax : Value) (m : Value), PHeap.le bX bj ∧ St w0 bj (Res.box d 74 [l, m, Vn, Vb aS] :: Res.arr (Qa .i64) 3 l an.vars :: Res.box ab 26 [ai, aj, ak, al] :: Res.box ac 38 [U 0, U 0, Vn, Vn, Vn] :: Res.box ad 38 [U aa, U aF, av, aw, ax] :: Res.arr encmergeshrink_stage 87 m aR :: H) w' ∧ f' 0 = Vq d ∧ f' 3 = U o ∧ f' 5 = Vq ab ∧ f' 8 = Vq ac ∧ f' 10 = U p ∧ f' 11 = Vq ad ∧ f' 28 = au ∧ f' 29 = U ((aA.length : Int)) ∧ f' 30 = U (k' : Int) ∧ SliceRep (Qa .i64) bj av bZ ∧ SliceRep encEdge bj aw ca ∧ SliceRep encBool bj ax cb) s') dd ?_ ?_ ?_)
  ·have dq := dp.nilArr encmergeshrink_stage 87
   exact ⟨bX, Vn, Vn, Vn, Vn, (Zv _), ((((dq.f1).f2).f3).f5).f5, Z, Z, Z, Z, Z, Z, Z, Z, Z, (SliceRep.nil _ _), (SliceRep.nil _ _), (SliceRep.nil _ _)⟩
  ·intro a1 eM a6 f0 fY cw de a bf
   obtain ⟨aR, aS, aa, aF, bZ, ca, cb⟩ := eM
   replace a := Qlp a
   obtain ⟨fN, av, aw, ax, m, t, bC, x, ap, aI, aq, ar, ah, aJ, aK, a4, bM, bN, bO⟩ := de
   refine Zc (Zd (O Z Z (Zq Z a4 aK (Zb (V (Zc (QL (Zx (decide_eq_true (by omega))) (Qq (V (Zc (Qo (Zc (Zd (O Z Z (Zm (v := U ((a1 : Int))) Z a4 ?_)))))))))))))))
   obtain ⟨b, e3, a⟩ := Zg a
   refine O Z Z (Qy JG Z aJ a4 (aT.mono (Zt n t)) e3 ?_)
   intro fd fG dc
   refine O Z Z (Zw (E := (Qa .i64)) bC A3 Z Z Z dc ?_)
   intro fR e4
   obtain rfl := Qv.1 e4
   refine O Z Z (Zo (v := U ((a1 : Int))) Z Z (O Z Z (Zo (v := U b) Z Z (Zb (V (Zc (Zd (O Z Z (Ql (ds := [ai, aj, ak, al]) (bC.f2) A26 Z aI Z (O Z Z (Zm (v := U b) Z Z ?_)))))))))))
   obtain ⟨eN, e5, a⟩ := Zg a
   obtain ⟨aM, g⟩ := eN
   replace a := Jp a
   refine O Z Z (Tc Z Z Z (Zi Z (Zi Z Qk)) (Qea e5 bC (cc.mono (Zt n t)) (cd.mono (Zt n t)) (ce.mono (Zt n t)) (cf.mono (Zt n t))).r ?_)
   rintro _ fZ ⟨a3, ay, az, a0, af, dr, rfl, bQ, bR, bS⟩
   refine O Z Z (Zm (v := Value.tuple #[Value.agg #[U (g.States), U (g.Init), ay, az, a0], QD 50 (aM)]) Z Z (O Z Z (Exec.extract (v := Value.agg #[U (g.States), U (g.Init), ay, az, a0]) Z Z Z (O Z Z (Exec.extract (v := QD 50 (aM)) Z Z Z (O Z Z (Exec.alloc (cs := [U 0, U 0, Vn, Vn, Vn]) dr Z38 Z Z ?_)))))))
   intro aG ga dt
   refine O Z Z (Qe (ds := [U (g.States), U (g.Init), ay, az, a0]) (es := [U (g.States), U (g.Init), ay, az, a0]) dt KS Z Z Z Z (Zj Z (Zj Z (Zj bQ.one (Zj bR.one (Zj bS.one Q5))))) (Nat.le_of_ble_eq_true Z) Z ?_)
   intro gb ci
   refine O Z Z (Zo (v := QD 50 (aM)) Z Z (Zb (V (Zc (Zc (Zd (O Z Z (Zm (v := QD 50 (aM)) Z Z (O Z Z (Jj (T := 50) Tryz.underlying32 Z Z Z (Zb (V ?_))))))))))))
   rcases Qf a with ⟨aV, a⟩ | ⟨aV, a⟩
   ·refine Qr Z aV (Zc (Zd (O Z Z (Exec.build Z Qu (v := Value.agg #[U 0, U 0, Vn, Vn, Vn]) (fun _ => by kernel_rfl) (O Z Z (Zm (v := QD 50 (aM)) Z Z (O Z Z (Qe (ds := [U 0, U 0, Vn, Vn, Vn]) (es := [U 0, U 0, Vn, Vn, Vn]) ci.f4 KS Z aq Z Z (Zj Z (Zj Z (Zj Z (Zj Z (Zj Z Q5))))) (Nat.le_of_ble_eq_true Z) Z ?_))))))))
    intro gc cj
    refine O Z Z (Zo (v := QD 50 (aM)) Z Z (Zb (V (Q0 (Qi (QC (Qi (Qi (QC (Qi (Qi ?_)))))))))))
    have fh := Zu a
    subst a6
    have d8 := be _ (bf (by intro _ h; cases h))
    have fi := Zu d8
    subst r
    refine ⟨_, Qat Z ⟨_, _, aq, Kj (cj) KS⟩ Z, ?_⟩
    exact ⟨a3, Vn, Vn, Vn, m, (Zt (Zt n t) af), ((((((((cj.drop).drop).f2).drop).f2).drop).f2).f2).f2, (Yp Z Z), (SliceRep.nil _ _), (SliceRep.nil _ _), (SliceRep.nil _ _)⟩
   refine Qs Z aV ?_
   replace aV := Zk aV
   refine Qq (V (Zc (Zd (O Z Z (Zm (v := U b) Z Z (O Z Z (Exec.build Z (Qc (c := [U b]) (Qh Z Z) Qu) (v := Value.agg #[U b, Vn, Vn, U 0]) (fun _ => by kernel_rfl) (O Z Z (Exec.alloc (cs := [U 0, Vn, Vn, U 0]) ci Z87 Z Z ?_)))))))))
   intro aH gd du
   refine O Z Z (Qe (ds := [U b, Vn, Vn, U 0]) (es := [U b, Vn, Vn, U 0]) du A87 Z Z Z Z (Zj Z (Zj Z (Zj Z (Zj Z Q5)))) (Nat.le_of_ble_eq_true Z) Z ?_)
   intro gf bD
   refine Zb (V (Zc (Zc (Zd (O Z Z (Zm (v := U ((a1 : Int))) Z Z (O Z Z (Exec.eql Z Z Z (Zb (V ?_))))))))))
   rcases Qf a with ⟨aW, a⟩ | ⟨aW, a⟩
   ·refine Qr Z aW (Zc (Zc (Zd (O Z Z (Zm (v := Vq d) Z x (O Z Z (Ql (ds := [U (g.States), U (g.Init), ay, az, a0]) (bD.f1) KS Z Z Z (O Z Z (Zm (v := U o) Z ap ?_)))))))))
    obtain ⟨eO, e6, a⟩ := Zg a
    obtain ⟨eW, aN, j, fb⟩ := eO
    replace a := Qhx a
    refine O Z Z (Tc Z Z Z (Zi Z (Zi Z (Zi Z Qk))) (Kk e6 bD.f2 bQ bR bS).r ?_)
    rintro _ gg ⟨cN, y, bl, bm, bn, c0, dv, rfl, bT, c9, cA, cB⟩
    refine O Z Z (Zm (v := Value.tuple #[Value.agg #[U (j.States), U (j.Init), bl, bm, bn], y, QD 50 (aN)]) Z Z (O Z Z (Exec.extract (v := Value.agg #[U (j.States), U (j.Init), bl, bm, bn]) Z Z Z (O Z Z (Exec.extract (v := y) Z Z Z (O Z Z (Exec.extract (v := QD 50 (aN)) Z Z Z (O Z Z (Qe (ds := [U (j.States), U (j.Init), bl, bm, bn]) (es := [U (j.States), U (j.Init), bl, bm, bn]) dv.f6 KS Z ah Z Z (Zj Z (Zj Z (Zj c9.one (Zj cA.one (Zj cB.one Q5))))) (Nat.le_of_ble_eq_true Z) Z ?_)))))))))
    intro gh dw
    refine O Z Z (Zp Qll Z Z Z (O Z Z (Qe (ds := [y]) (es := [U b, y, Vn, U 0]) dw.f2 A22 Z Z Z (QX bT.one) (Zj bT.one Q5) (Nat.le_of_ble_eq_true Z) Z ?_)))
    intro gi bE
    refine O Z Z (Zo (v := QD 50 (aN)) Z Z (Zb (V (Zc (Zd (O Z Z (Zm (v := QD 50 (aN)) Z Z (O Z Z (Jj (T := 50) Tryz.underlying32 Z Z Z (Zb (V ?_)))))))))))
    rcases Qf a with ⟨aX, a⟩ | ⟨aX, a⟩
    ·refine Qr Z aX (Zc (Zd (O Z Z (Exec.build Z Qu (v := Value.agg #[U 0, U 0, Vn, Vn, Vn]) (fun _ => by kernel_rfl) (O Z Z (Zm (v := QD 50 (aN)) Z Z (O Z Z (Qe (ds := [U 0, U 0, Vn, Vn, Vn]) (es := [U 0, U 0, Vn, Vn, Vn]) bE.f6 KS Z aq Z Z (Zj Z (Zj Z (Zj Z (Zj Z (Zj Z Q5))))) (Nat.le_of_ble_eq_true Z) Z ?_))))))))
     intro gj ck
     refine O Z Z (Zo (v := QD 50 (aN)) Z Z (Zb (V (Q0 (Qi (Qi (QC (Qi (Qi (QC (Qi (Qi ?_))))))))))))
     have fj := Zu a
     subst a6
     have d9 := be _ (bf (by intro _ h; cases h))
     have fk := Zu d9
     subst r
     refine ⟨_, Qat Z ⟨_, _, aq, Kj (ck) KS⟩ Z, ?_⟩
     exact ⟨cN, Vn, Vn, Vn, m, (Zt (Zt (Zt n t) af) c0), (((((((((ck.drop).drop).drop).f1).drop).f2).drop).f2).f2).f2, (Yp Z Z), (SliceRep.nil _ _), (SliceRep.nil _ _), (SliceRep.nil _ _)⟩
    refine Qs Z aX ?_
    replace aX := Zk aX
    refine Qq (V (Zc (Zd (O Z Z (Zp JV Z ah Z (O Z Z (Zn (bE.f1) A3 Z Z Z (O Z Z (Zp Qlk Z Z Z (O Z Z (Qe (ds := [U (j.States)]) (es := [U b, y, Vn, U (j.States)]) bE A3 Z Z Z Z (Zj Z Q5) (Nat.le_of_ble_eq_true Z) Z ?_)))))))))))
    intro gk bF
    refine Zb (V (Zc (KT (n0 := 8) (qs 0 6 (.e 6 [0, 1, 2, 3, 4] (.e 7 [0] .done))) Yc (by kernel_rfl) (by kernel_rfl) (Qm Z Z (Zm (v := Vq d) Z x ⟨Z, ?_⟩)))))
    refine Qm Z Z (Zm (v := Vq d) Z x ⟨Z, ?_⟩)
    refine Qm Z Z (QI Z Z ⟨Z, ?_⟩)
    refine Qm Z Z (Zp QfE Z Z Z ⟨Z, ?_⟩)
    refine Qm Z Z (Zn ((bF.drew).f2) A72 Z Z Z ⟨Z, ?_⟩)
    refine Qm Z Z (Ql (ds := [U b, y, Vn, U (j.States)]) (bF.drew) A87 Z Z Z ⟨Z, ?_⟩)
    refine JQ Z Z (Exec.buildSlice (Te := 87) (cs := [U b, y, Vn, U (j.States)]) bF.drew Z (Qc (c := [U b, y, Vn, U (j.States)]) (Qh Z Z) Qu) (fun _ => by kernel_rfl) ?_)
    intro fe gl cl
    refine ⟨(Qb (Q4 Z Z (Zm (v := Vq d) Z x ⟨Z, Z⟩)) (Qb (Q4 Z Z (Zm (v := Vq d) Z x ⟨Z, Z⟩)) (Qb (Q4 Z Z (QI Z Z ⟨Z, Z⟩)) (Qb (Q4 Z Z (Zp QfE Z Z Z ⟨Z, Z⟩)) (Qb (Q4 Z Z (Zn (cl.f3) A72 Z Z Z ⟨Z, Z⟩)) QV))))), ?_⟩
    obtain ⟨fE, e7, a⟩ := Zg a
    refine JQ Z Z (QZ (E := encmergeshrink_stage) (ys := [(⟨b, eW, [], j.States⟩ : mergeshrink_stage)]) cl.f8 S72 Z87 Z (by decide) Z Z Z Z ⟨[U b, y, Vn, U (j.States)], [], Z, ⟨[U b], [y, Vn, U (j.States)], Z, Z, ⟨[y], [Vn, U (j.States)], Z, ⟨_, Z, bT⟩, ⟨[Vn], [U (j.States)], Z, ⟨_, Z, (SliceRep.nil _ _)⟩, Z⟩⟩⟩, Z⟩ Z e7 ?_)
    intro bY gm bG
    refine ⟨(Qb (Q4 Z Z (Zm (v := Vq d) Z x ⟨Z, Z⟩)) QV), ?_⟩
    refine QG (O Z Z (QI Z Z (O Z Z (Zp QfE Z Z Z (O Z Z (Qe (ds := [bY]) (es := [l, bY, Vn, Vb fb]) bG.f3 A72 Z Z Z (QX ((bG.f3).f1).arr_one) (Zj ((bG.f3).f1).arr_one Q5) (Nat.le_of_ble_eq_true Z) Z ?_))))))
    intro gn dx
    refine Zb (V (QJ (Qn (Q9 (V (Zd (O Z Z (Exec.add Z a4 Z (O Z Z (Zm (v := U (IntKind.i64.wrap ((a1 : Int) + 1))) Z Z (Zb (V ?_))))))))))))
    have fl := Zu a
    subst a6
    refine ⟨_, Z, ?_⟩; exact ⟨cN, bl, bm, bn, bY, (Zt (Zt t af) c0), (((((((((dx.f2).drop).f3).drop).f1).f2).f5).f5).f5).f5, x, ap, aI, aq, ar, ah, aJ, aK, (Eq.trans Z (QF cw (SliceRep.le (aT.mono n)))), c9, cA, cB⟩
   refine Qs Z aW ?_
   replace aW := Zk aW
   refine Qq (V (Zc (KT (n0 := 5) (qs 0 5 .done) Yc (by kernel_rfl) (by kernel_rfl) ?_)))
   have ae := bD.drew
   refine Qm Z Z (Zp JV Z ah Z ⟨Z, ?_⟩)
   refine Qm Z Z (Zn (ae.f6) A3 Z Z Z ⟨Z, ?_⟩)
   refine Qm Z Z (Zp JV Z Z Z ⟨Z, ?_⟩)
   refine Qm Z Z (Zn (ae.f1) A3 Z Z Z ⟨Z, ?_⟩)
   refine Qm Z Z (Zo (v := U aa) Z Z ⟨Z, ?_⟩)
   refine QG (O Z Z (Zo (v := U (g.States)) Z Z (Zb (V (Zc (Zc (Zd (O Z Z (Zm (v := U aa) Z Z (O Z Z (Zm (v := U (g.States)) Z Z (O Z Z (Exec.mul Z Z Z (O Z Z (Zm (v := U o) Z ap (O Z Z (Exec.gtr Z Z Z (Zb (V ?_)))))))))))))))))))
   obtain ⟨b3, ao, a⟩ := Zg a
   refine QK (M := fun f' w' => (J2 fun (bP : Int) (bW : Int) => ∃ (cO : PHeap) , PHeap.le a3 cO ∧ St w0 cO (Res.box d 74 [l, m, Vn, Vb aS] :: Res.arr (Qa .i64) 3 l an.vars :: Res.box ab 26 [ai, aj, ak, al] :: Res.box ac 38 [U 0, U 0, Vn, Vn, Vn] :: Res.box ad 38 [U aa, U aF, av, aw, ax] :: Res.box aG 38 [U (g.States), U (g.Init), ay, az, a0] :: Res.box aH 87 [U b, Vn, Vn, U 0] :: Res.arr encmergeshrink_stage 87 m aR :: H) w' ∧ f' 0 = Vq d ∧ f' 3 = U o ∧ f' 5 = Vq ab ∧ f' 8 = Vq ac ∧ f' 10 = U p ∧ f' 11 = Vq ad ∧ f' 14 = Vq aG ∧ f' 16 = Vq aH ∧ f' 17 = U bP ∧ f' 18 = U bW ∧ f' 28 = au ∧ f' 29 = U ((aA.length : Int)) ∧ f' 30 = U ((a1 : Int))) b3) ?_ ?_
   ·rcases Qf ao with ⟨aY, ao⟩ | ⟨aY, ao⟩
    ·refine Qr Z aY (Qo (Zc (Zd (O Z Z (Zp JV Z ah Z (O Z Z (Zn (ae.f6) A3 Z Z Z (O Z Z (Zm (v := U p) Z ar (O Z Z (Exec.leq Z Z Z (O Z Z (Zo (v := Vb (decide (aa ≤ p))) Z Z (Zb (V ?_)))))))))))))))
     obtain ⟨b4, u, ao⟩ := Zg ao
     refine QK (M := fun f' w' => (J2 fun (c2 : Int) (cL : Int) => ∃ (cP : PHeap) , PHeap.le a3 cP ∧ St w0 cP (Res.box d 74 [l, m, Vn, Vb aS] :: Res.arr (Qa .i64) 3 l an.vars :: Res.box ab 26 [ai, aj, ak, al] :: Res.box ac 38 [U 0, U 0, Vn, Vn, Vn] :: Res.box ad 38 [U aa, U aF, av, aw, ax] :: Res.box aG 38 [U (g.States), U (g.Init), ay, az, a0] :: Res.box aH 87 [U b, Vn, Vn, U 0] :: Res.arr encmergeshrink_stage 87 m aR :: H) w' ∧ f' 0 = Vq d ∧ f' 3 = U o ∧ f' 5 = Vq ab ∧ f' 8 = Vq ac ∧ f' 10 = U p ∧ f' 11 = Vq ad ∧ f' 14 = Vq aG ∧ f' 16 = Vq aH ∧ f' 17 = U c2 ∧ f' 18 = U cL ∧ f' 28 = au ∧ f' 29 = U ((aA.length : Int)) ∧ f' 30 = U ((a1 : Int))) b4) ?_ ?_
     ·rcases Qf u with ⟨aZ, u⟩ | ⟨aZ, u⟩
      ·refine Qr Z aZ (Zd (O Z Z (Zm (v := U o) Z ap (O Z Z (Zp JV Z ah Z (O Z Z (Zn (ae.f6) A3 Z Z Z ?_)))))))
       obtain ⟨fP, e8, u⟩ := Zg u
       refine O Z Z (Exec.quo Z Z Z (by simpa using Q7 e8) (O Z Z (Zo (v := U (IntKind.i64.wrap (o.tdiv aa))) Z Z (Zb (V ?_)))))
       have fm := Zu u
       subst b4
       exact ⟨a3, (Zv _), (((((((ae.f7).f1).f2).f7).f7).f7).f7).f7, x, ap, aI, aq, ar, ah, Z, Z, Z, Z, aJ, aK, a4⟩
      refine Qs Z aZ ?_
      replace aZ := Zk aZ
      refine Zc (Zd (O Z Z (Zp JV Z Z Z (O Z Z (Zn (ae.f1) A3 Z Z Z (O Z Z (Zm (v := U p) Z ar (O Z Z (Exec.leq Z Z Z (O Z Z (Zo (v := Vb (decide (g.States ≤ p))) Z Z (Zb (V ?_)))))))))))))
      obtain ⟨b5, a7, u⟩ := Zg u
      refine QK (M := fun f' w' => (J2 fun (c3 : Int) (cM : Int) => ∃ (cQ : PHeap) , PHeap.le a3 cQ ∧ St w0 cQ (Res.box d 74 [l, m, Vn, Vb aS] :: Res.arr (Qa .i64) 3 l an.vars :: Res.box ab 26 [ai, aj, ak, al] :: Res.box ac 38 [U 0, U 0, Vn, Vn, Vn] :: Res.box ad 38 [U aa, U aF, av, aw, ax] :: Res.box aG 38 [U (g.States), U (g.Init), ay, az, a0] :: Res.box aH 87 [U b, Vn, Vn, U 0] :: Res.arr encmergeshrink_stage 87 m aR :: H) w' ∧ f' 0 = Vq d ∧ f' 3 = U o ∧ f' 5 = Vq ab ∧ f' 8 = Vq ac ∧ f' 10 = U p ∧ f' 11 = Vq ad ∧ f' 14 = Vq aG ∧ f' 16 = Vq aH ∧ f' 17 = U c3 ∧ f' 18 = U cM ∧ f' 28 = au ∧ f' 29 = U ((aA.length : Int)) ∧ f' 30 = U ((a1 : Int))) b5) ?_ ?_
      ·rcases Qf a7 with ⟨ba, a7⟩ | ⟨ba, a7⟩
       ·refine Qr Z ba (Zd (O Z Z (Zm (v := U o) Z ap (O Z Z (Zp JV Z Z Z (O Z Z (Zn (ae.f1) A3 Z Z Z ?_)))))))
        obtain ⟨fQ, e9, a7⟩ := Zg a7
        refine O Z Z (Exec.quo Z Z Z (by simpa using Q7 e9) (O Z Z (Zo (v := U (IntKind.i64.wrap (o.tdiv g.States))) Z Z (Zb (V ?_)))))
        have fn := Zu a7
        subst b5
        exact ⟨a3, (Zv _), (((((((ae.f7).f1).f2).f7).f7).f7).f7).f7, x, ap, aI, aq, ar, ah, Z, Z, Z, Z, aJ, aK, a4⟩
       refine Qs Z ba ?_
       replace ba := Zk ba
       refine Zd (O Z Z (Zm (v := U p) Z ar (O Z Z (Zm (v := U p) Z ar (O Z Z (Zo (v := U p) Z Z (O Z Z (Zo (v := U p) Z Z (Zb (V ?_))))))))))
       have fo := Zu a7
       subst b5
       exact ⟨a3, (Zv _), (((((((ae.f7).f1).f2).f7).f7).f7).f7).f7, x, ap, aI, aq, ar, ah, Z, Z, Z, Z, aJ, aK, a4⟩
      intro f9 go dg
      obtain ⟨c3, cM⟩ := b5
      replace u := Jp u
      obtain ⟨eF, dF, dy, dJ, dK, dL, dM, dN, dO, dP, dQ, dR, dS, dT, dU, dV⟩ := dg
      refine (V ?_)
      have fp := Zu u
      subst b4
      exact ⟨eF, dF, (((((((dy.f7).f7).f7).f7).f7).f7).f7).f7, dJ, dK, dL, dM, dN, dO, dP, dQ, dR, dS, dT, dU, dV⟩
     intro fA gp dh
     obtain ⟨c2, cL⟩ := b4
     replace ao := Jp ao
     obtain ⟨eG, dG, dz, dW, dX, dY, dZ, ea, eb, ec, ed, ee, ef, eg, eh, ei⟩ := dh
     refine (Qz (V ?_))
     have fq := Zu ao
     subst b3
     exact ⟨eG, dG, (((((((dz.f7).f7).f7).f7).f7).f7).f7).f7, dW, dX, dY, dZ, ea, eb, ec, ed, ee, ef, eg, eh, ei⟩
    refine Qs Z aY ?_
    replace aY := Zk aY
    refine Qq (V ?_)
    have fr := Zu ao
    subst b3
    exact ⟨a3, (Zv _), (((((((ae.f7).f1).f2).f7).f7).f7).f7).f7, x, ap, aI, aq, ar, ah, Z, Z, Z, Z, aJ, aK, a4⟩
   intro fB gq di
   obtain ⟨bP, bW⟩ := b3
   replace a := Jp a
   obtain ⟨fO, ag, cm, a2, ej, ek, aB, el, bg, b1, b2, em, en, eo, ep, er⟩ := di
   refine (V (Zc (Zc (Zd (O Z Z (Zm (v := Vq d) Z a2 (O Z Z (Ql (ds := [U aa, U aF, av, aw, ax]) (cm.f4) KS Z bg Z (O Z Z (Zm (v := U bP) Z em ?_))))))))))
   obtain ⟨eP, eA, a⟩ := Zg a
   obtain ⟨eX, aO, am, gA⟩ := eP
   replace a := Qhx a
   refine O Z Z (Tc Z Z Z (Zi Z (Zi Z (Zi Z Qk))) (Kk eA cm (bM.mono (Zt af ag)) (bN.mono (Zt af ag)) (bO.mono (Zt af ag))).r ?_)
   rintro _ gr ⟨eH, q, bo, bp, bq, a8, d0, rfl, bU, cC, cD, cE⟩
   refine O Z Z (Zm (v := Value.tuple #[Value.agg #[U (am.States), U (am.Init), bo, bp, bq], q, QD 50 (aO)]) Z Z (O Z Z (Exec.extract (v := Value.agg #[U (am.States), U (am.Init), bo, bp, bq]) Z Z Z (O Z Z (Exec.extract (v := q) Z Z Z (O Z Z (Exec.extract (v := QD 50 (aO)) Z Z Z (O Z Z (Qe (ds := [U (am.States), U (am.Init), bo, bp, bq]) (es := [U (am.States), U (am.Init), bo, bp, bq]) d0.f4 KS Z bg Z Z (Zj Z (Zj Z (Zj cC.one (Zj cD.one (Zj cE.one Q5))))) (Nat.le_of_ble_eq_true Z) Z ?_)))))))))
   intro gs d1
   refine O Z Z (Zp Qnj Z b2 Z (O Z Z (Qe (ds := [q]) (es := [U b, Vn, q, U 0]) d1.f6 A22 Z Z Z (QX bU.one) (Zj bU.one Q5) (Nat.le_of_ble_eq_true Z) Z ?_)))
   intro gu bH
   refine O Z Z (Zo (v := QD 50 (aO)) Z Z (Zb (V (Zc (Zd (O Z Z (Zm (v := QD 50 (aO)) Z Z (O Z Z (Jj (T := 50) Tryz.underlying32 Z Z Z (Zb (V ?_)))))))))))
   rcases Qf a with ⟨bb, a⟩ | ⟨bb, a⟩
   ·refine Qr Z bb (Zc (Zd (O Z Z (Exec.build Z Qu (v := Value.agg #[U 0, U 0, Vn, Vn, Vn]) (fun _ => by kernel_rfl) (O Z Z (Zm (v := QD 50 (aO)) Z Z (O Z Z (Qe (ds := [U 0, U 0, Vn, Vn, Vn]) (es := [U 0, U 0, Vn, Vn, Vn]) bH.f5 KS Z aB Z Z (Zj Z (Zj Z (Zj Z (Zj Z (Zj Z Q5))))) (Nat.le_of_ble_eq_true Z) Z ?_))))))))
    intro gv cn
    refine O Z Z (Zo (v := QD 50 (aO)) Z Z (Zb (V (Q0 (Qi (QC (Qi (Qi (QC (Qi (Qi ?_)))))))))))
    have fs := Zu a
    subst a6
    have dA := be _ (bf (by intro _ h; cases h))
    have ft := Zu dA
    subst r
    refine ⟨_, Qat Z ⟨_, _, aB, Kj (cn) KS⟩ Z, ?_⟩
    exact ⟨eH, Vn, Vn, Vn, m, (Zt (Zt (Zt (Zt n t) af) ag) a8), (((((((((cn.drop).drop).drop).f2).drop).f2).drop).f2).f2).f2, (Yp Z Z), (SliceRep.nil _ _), (SliceRep.nil _ _), (SliceRep.nil _ _)⟩
   refine Qs Z bb ?_
   replace bb := Zk bb
   refine Qq (V (Zc (Zc (Zd (O Z Z (Zm (v := Vq d) Z a2 (O Z Z (Ql (ds := [U (g.States), U (g.Init), ay, az, a0]) (bH.f6) KS Z b1 Z (O Z Z (Zm (v := U bW) Z en ?_))))))))))
   obtain ⟨eQ, eB, a⟩ := Zg a
   obtain ⟨eY, aP, i, fc⟩ := eQ
   replace a := Qhx a
   refine O Z Z (Tc Z Z Z (Zi Z (Zi Z (Zi Z Qk))) (Kk eB bH.f2 (bQ.mono (Zt ag a8)) (bR.mono (Zt ag a8)) (bS.mono (Zt ag a8))).r ?_)
   rintro _ gw ⟨eI, z, br, bs, bt, a9, d2, rfl, bV, cF, cG, cH⟩
   refine O Z Z (Zm (v := Value.tuple #[Value.agg #[U (i.States), U (i.Init), br, bs, bt], z, QD 50 (aP)]) Z Z (O Z Z (Exec.extract (v := Value.agg #[U (i.States), U (i.Init), br, bs, bt]) Z Z Z (O Z Z (Exec.extract (v := z) Z Z Z (O Z Z (Exec.extract (v := QD 50 (aP)) Z Z Z (O Z Z (Qe (ds := [U (i.States), U (i.Init), br, bs, bt]) (es := [U (i.States), U (i.Init), br, bs, bt]) d2.f6 KS Z b1 Z Z (Zj Z (Zj Z (Zj cF.one (Zj cG.one (Zj cH.one Q5))))) (Nat.le_of_ble_eq_true Z) Z ?_)))))))))
   intro gx d3
   refine O Z Z (Zp Qll Z b2 Z (O Z Z (Qe (ds := [z]) (es := [U b, z, q, U 0]) d3.f2 A22 Z Z Z (QX bV.one) (Zj bV.one Q5) (Nat.le_of_ble_eq_true Z) Z ?_)))
   intro gy bI
   refine O Z Z (Zo (v := QD 50 (aP)) Z Z (Zb (V (Zc (Zd (O Z Z (Zm (v := QD 50 (aP)) Z Z (O Z Z (Jj (T := 50) Tryz.underlying32 Z Z Z (Zb (V ?_)))))))))))
   rcases Qf a with ⟨bc, a⟩ | ⟨bc, a⟩
   ·refine Qr Z bc (Zc (Zd (O Z Z (Exec.build Z Qu (v := Value.agg #[U 0, U 0, Vn, Vn, Vn]) (fun _ => by kernel_rfl) (O Z Z (Zm (v := QD 50 (aP)) Z Z (O Z Z (Qe (ds := [U 0, U 0, Vn, Vn, Vn]) (es := [U 0, U 0, Vn, Vn, Vn]) bI.f6 KS Z aB Z Z (Zj Z (Zj Z (Zj Z (Zj Z (Zj Z Q5))))) (Nat.le_of_ble_eq_true Z) Z ?_))))))))
    intro gz co
    refine O Z Z (Zo (v := QD 50 (aP)) Z Z (Zb (V (Q0 (Qi (QC (Qi (Qi (QC (Qi (Qi ?_)))))))))))
    have fu := Zu a
    subst a6
    have dB := be _ (bf (by intro _ h; cases h))
    have fv := Zu dB
    subst r
    refine ⟨_, Qat Z ⟨_, _, aB, Kj (co) KS⟩ Z, ?_⟩
    exact ⟨eI, Vn, Vn, Vn, m, (Zt (Zt (Zt (Zt (Zt n t) af) ag) a8) a9), (((((((((co.drop).drop).drop).f1).drop).f2).drop).f2).f2).f2, (Yp Z Z), (SliceRep.nil _ _), (SliceRep.nil _ _), (SliceRep.nil _ _)⟩
   refine Qs Z bc ?_
   replace bc := Zk bc
   refine Qq (V (Zc (Zd (O Z Z (Zp JV Z b1 Z (O Z Z (Zn (bI.f1) A3 Z Z Z (O Z Z (Zp Qlk Z b2 Z (O Z Z (Qe (ds := [U (i.States)]) (es := [U b, z, q, U (i.States)]) bI A3 Z Z Z Z (Zj Z Q5) (Nat.le_of_ble_eq_true Z) Z ?_)))))))))))
   intro g0 bJ
   refine Zb (V (Zc (KT (n0 := 8) (qs 0 6 (.e 6 [0, 1, 2, 3, 4] (.e 7 [0] .done))) Yc (by kernel_rfl) (by kernel_rfl) (Qm Z Z (Zm (v := Vq d) Z a2 ⟨Z, ?_⟩)))))
   refine Qm Z Z (Zm (v := Vq d) Z a2 ⟨Z, ?_⟩)
   refine Qm Z Z (QI Z Z ⟨Z, ?_⟩)
   refine Qm Z Z (Zp QfE Z Z Z ⟨Z, ?_⟩)
   refine Qm Z Z (Zn ((bJ.drew).f2) A72 Z Z Z ⟨Z, ?_⟩)
   refine Qm Z Z (Ql (ds := [U b, z, q, U (i.States)]) (bJ.drew) A87 Z b2 Z ⟨Z, ?_⟩)
   refine JQ Z Z (Exec.buildSlice (Te := 87) (cs := [U b, z, q, U (i.States)]) bJ.drew Z (Qc (c := [U b, z, q, U (i.States)]) (Qh Z Z) Qu) (fun _ => by kernel_rfl) ?_)
   intro ff g1 cp
   refine ⟨(Qb (Q4 Z Z (Zm (v := Vq d) Z a2 ⟨Z, Z⟩)) (Qb (Q4 Z Z (Zm (v := Vq d) Z a2 ⟨Z, Z⟩)) (Qb (Q4 Z Z (QI Z Z ⟨Z, Z⟩)) (Qb (Q4 Z Z (Zp QfE Z Z Z ⟨Z, Z⟩)) (Qb (Q4 Z Z (Zn (cp.f3) A72 Z Z Z ⟨Z, Z⟩)) QV))))), ?_⟩
   obtain ⟨fF, eC, a⟩ := Zg a
   refine JQ Z Z (QZ (E := encmergeshrink_stage) (ys := [(⟨b, eY, eX, i.States⟩ : mergeshrink_stage)]) cp.f8 S72 Z87 Z (by decide) Z Z Z Z ⟨[U b, z, q, U (i.States)], [], Z, ⟨[U b], [z, q, U (i.States)], Z, Z, ⟨[z], [q, U (i.States)], Z, ⟨_, Z, bV⟩, ⟨[q], [U (i.States)], Z, ⟨_, Z, (bU.mono a9)⟩, Z⟩⟩⟩, Z⟩ Z eC ?_)
   intro bA g2 bK
   refine ⟨(Qb (Q4 Z Z (Zm (v := Vq d) Z a2 ⟨Z, Z⟩)) QV), ?_⟩
   refine QG (O Z Z (QI Z Z (O Z Z (Zp QfE Z Z Z (O Z Z (Qe (ds := [bA]) (es := [l, bA, Vn, Vb fc]) bK.f3 A72 Z Z Z (QX ((bK.f3).f1).arr_one) (Zj ((bK.f3).f1).arr_one Q5) (Nat.le_of_ble_eq_true Z) Z ?_))))))
   intro g3 bL
   refine Zb (V (Zc (Zd (O Z Z (Ql (ds := [U (am.States), U (am.Init), bo, bp, bq]) (bL.f4) KS Z bg Z (O Z Z (Ql (ds := [U (i.States), U (i.Init), br, bs, bt]) (bL.f3) KS Z b1 Z ?_)))))))
   obtain ⟨eR, eD, a⟩ := Zg a
   obtain ⟨aQ, a5⟩ := eR
   replace a := Jp a
   refine O Z Z (Tc Z Z Z (Zi Z (Zi Z Qk)) (Qd9 eD bL (cC.mono a9) (cD.mono a9) (cE.mono a9) cF cG cH).r ?_)
   rintro _ g4 ⟨cR, bu, bv, bw, c1, d4, rfl, cI, cJ, cK⟩
   refine O Z Z (Zm (v := Value.tuple #[Value.agg #[U (a5.States), U (a5.Init), bu, bv, bw], QD 50 (aQ)]) Z Z (O Z Z (Exec.extract (v := Value.agg #[U (a5.States), U (a5.Init), bu, bv, bw]) Z Z Z (O Z Z (Exec.extract (v := QD 50 (aQ)) Z Z Z (O Z Z (Qe (ds := [U (a5.States), U (a5.Init), bu, bv, bw]) (es := [U (a5.States), U (a5.Init), bu, bv, bw]) d4.f4 KS Z bg Z Z (Zj Z (Zj Z (Zj cI.one (Zj cJ.one (Zj cK.one Q5))))) (Nat.le_of_ble_eq_true Z) Z ?_)))))))
   intro g5 cq
   refine O Z Z (Zo (v := QD 50 (aQ)) Z Z (Zb (V (Zc (Zd (O Z Z (Zm (v := QD 50 (aQ)) Z Z (O Z Z (Jj (T := 50) Tryz.underlying32 Z Z Z (Zb (V ?_)))))))))))
   rcases Qf a with ⟨bd, a⟩ | ⟨bd, a⟩
   ·refine Qr Z bd (Zc (Zd (O Z Z (Exec.build Z Qu (v := Value.agg #[U 0, U 0, Vn, Vn, Vn]) (fun _ => by kernel_rfl) (O Z Z (Zm (v := QD 50 (aQ)) Z Z (O Z Z (Qe (ds := [U 0, U 0, Vn, Vn, Vn]) (es := [U 0, U 0, Vn, Vn, Vn]) cq.f7 KS Z aB Z Z (Zj Z (Zj Z (Zj Z (Zj Z (Zj Z Q5))))) (Nat.le_of_ble_eq_true Z) Z ?_))))))))
    intro g6 cr
    refine O Z Z (Zo (v := QD 50 (aQ)) Z Z (Zb (V (Q0 (QC (Qi (Qi (QC (Qi (Qi ?_))))))))))
    have fw := Zu a
    subst a6
    have dC := be _ (bf (by intro _ h; cases h))
    have fx := Zu dC
    subst r
    refine ⟨_, Qat Z ⟨_, _, aB, Kj (cr) KS⟩ Z, ?_⟩
    exact ⟨cR, Vn, Vn, Vn, bA, (Zt (Zt (Zt (Zt (Zt (Zt n t) af) ag) a8) a9) c1), ((((((((((cr.drop).drop).f2).drop).f2).drop).f3).drop).f1).f2).f2, (Yp Z Z), (SliceRep.nil _ _), (SliceRep.nil _ _), (SliceRep.nil _ _)⟩
   refine Qs Z bd ?_
   replace bd := Zk bd
   refine Qq (Qz (V (Zd (O Z Z (Exec.add Z er Z (O Z Z (Zm (v := U (IntKind.i64.wrap ((a1 : Int) + 1))) Z Z (Zb (V ?_)))))))))
   have fy := Zu a
   subst a6
   refine ⟨_, Z, ?_⟩; exact ⟨cR, bu, bv, bw, bA, (Zt (Zt (Zt (Zt (Zt t af) ag) a8) a9) c1), (((((((((cq.f3).drop).f3).drop).f2).f1).f5).f5).f5).f5, a2, ej, ek, aB, el, bg, eo, ep, (Eq.trans Z (QF cw (SliceRep.le (aT.mono n)))), cI, cJ, cK⟩
  intro eS fC g7 df dD
  obtain ⟨aR, aS, aa, aF, bZ, ca, cb⟩ := eS
  obtain ⟨eJ, av, aw, ax, m, dH, d5, et, eu, ev, ew, ex, ey, ez, c4, eU, bM, bN, bO⟩ := df
  refine Zc (Zd (O Z Z (Zq Z eU c4 (Zb (V (Zc (QB (Zx (decide_eq_false (by omega))) (QJ (Qn (Qn (Q9 (V ?_))))))))))))
  refine ⟨_, .inl dD, ?_⟩; exact ⟨eJ, av, aw, ax, m, dH, (((((d5.f5).f5).f5).f5).f5).f5, et, eu, ev, ew, ex, ey, ez, c4, bM, bN, bO⟩
 rintro fD g8 ⟨eT, cv, dj⟩
 have hm := cv.elim (d7 _) (d6 _)
 clear cv
 obtain ⟨cX, cY, bz, b0, cZ, da, db⟩ := eT
 replace hm := Qlp hm
 obtain ⟨eK, aC, aD, aE, b9, dI, ct, fH, fI, fJ, c5, fK, e0, fL, fM, cx, cy, cz⟩ := dj
 refine (V (Zc (Zd (O Z Z (Ql (ds := [U bz, U b0, aC, aD, aE]) (ct.f4) KS Z e0 Z (O Z Z (Qe (ds := [U bz, U b0, aC, aD, aE]) (es := [U bz, U b0, aC, aD, aE]) ct.f3 KS Z c5 Z Z (Zj Z (Zj Z (Zj cx.one (Zj cy.one (Zj cz.one Q5))))) (Nat.le_of_ble_eq_true Z) Z ?_)))))))
 intro g9 cu
 refine O Z Z (Zo (v := QD 50 (none)) Z Z (Zb (V (Q0 ?_))))
 have fz := Zu hm
 subst r
 refine ⟨_, Qat Z ⟨_, _, c5, Kj (cu) KS⟩ Z, ?_⟩
 exact ⟨eK, aC, aD, aE, b9, (Zt n dI), (((((((cu.drop).f2).drop).f2).drop).f2).f2).f2, (Yp Z Z), cx, cy, cz⟩
theorem Qe5 {w0 w : World} {s : PHeap} {H : List Res} {a : System} {z : Value} {aa : Value} {l : Value} {r : (List Int)} (hm : Yv a = some r) (hS : St w0 s (H) w) (aF : SliceRep (Qa .i64) s z a.Costs) (aG : SliceRep encEdge s aa a.Edges) (o : SliceRep encBool s l a.Goals) :
  Calls Tryz.prog 62 #[Value.agg #[U (a.States), U (a.Init), z, aa, l]] w fun e w' => ∃ v, e = .returned v ∧ ((fun (aE : (List Int)) => ∃ (x : PHeap) (ag : Value), PHeap.le s x ∧ St w0 x (H) w' ∧ v = ag ∧ SliceRep (Qa .i64) x ag aE) r) := by
 unfold Yv at hm
 refine Qw Tryz.func62 Z Z (Zc (Zd (O Z Z (Exec.box (cs := [U (a.States), U (a.Init), z, aa, l]) hS Z Z Z ?_))))
 intro aH aW ab
 refine O Z Z (Zo (v := Vn) Z Z (Zb (V (Zc (Zd (O Z Z (Zo (v := Vn) Z Z (Zb (V (Zc (Zc (Zd (O Z Z (Zp Qby Z Z Z (O Z Z (Zn (ab) A36 Z Z Z (O Z Z (Zr S36 Z Z o (O Z Z (Zm (v := U 0) Z Z (Zb (V ?_))))))))))))))))))))))
 obtain ⟨q, ak, hm⟩ := Zg hm
 refine Qo (JZ (fun k' s' f' w' => (fun (q : (List Int)) => ∃ (ae : PHeap) (d : Value), PHeap.le s ae ∧ St w0 ae (Res.arr (Qa .i64) 3 d q :: H) w' ∧ f' 3 = d ∧ f' 7 = l ∧ f' 8 = U ((a.Goals.length : Int)) ∧ f' 9 = U (k' : Int)) s') ak ?_ ?_ ?_)
 ·have ao := ab.nilArr (Qa .i64) 3
  exact ⟨s, Vn, (Zv _), (ao.f1).drop, Z, Z, Z, Z⟩
 ·intro b q aA aO aX aw al i
  obtain ⟨y, d, ac, p, ad, t, u, m⟩ := al
  refine Zc (Zd (O Z Z (Zq Z m u (Zb (V (Zc (QL (Zx (decide_eq_true (by omega))) (Qq (V (Zc (Qo (Zc (Zd (O Z Z (Zm (v := U ((b : Int))) Z m ?_)))))))))))))))
  obtain ⟨ai, a6, i⟩ := Zg i
  refine O Z Z (Qy S36 Z t m (o.mono ac) a6 ?_)
  intro aI aS aj
  refine O Z Z (Zw (E := encBool) p A4 Z Z Z aj ?_)
  intro aV a7
  obtain rfl := J0.1 a7
  refine O Z Z (Zo (v := U ((b : Int))) Z Z (O Z Z (Zo (v := Vb ai) Z Z (Zb (V (Zc (Zd (O Z Z (Zm (v := Vb ai) Z Z (Zb (V ?_)))))))))))
  obtain ⟨j, g, i⟩ := Zg i
  refine QK (M := fun f' w' => (fun (j : (List Int)) => ∃ (af : PHeap) (n : Value), PHeap.le y af ∧ St w0 af (Res.arr (Qa .i64) 3 n j :: H) w' ∧ f' 3 = n ∧ f' 7 = l ∧ f' 8 = U ((a.Goals.length : Int)) ∧ f' 9 = U ((b : Int))) j) ?_ ?_
  ·rcases Qf g with ⟨h, g⟩ | ⟨h, g⟩
   ·refine Qr Z h (Zd (O Z Z (Zm (v := d) Z ad (O Z Z (Zm (v := U ((b : Int))) Z Z (O Z Z (Exec.buildSlice (Te := 3) (cs := [U ((b : Int))]) p Z (Qc (c := [U ((b : Int))]) (Qh Z Z) Qu) (fun _ => by kernel_rfl) ?_)))))))
    intro aJ aY ap
    obtain ⟨aR, a8, g⟩ := Zg g
    refine O Z Z (QZ (E := (Qa .i64)) (ys := [(b : Int)]) ap.f1 JG Z3 Z (by decide) Z Z Z Z ⟨[U ((b : Int))], [], Z, Z, Z⟩ Z a8 ?_)
    intro ah aZ aq
    refine O Z Z (Zo (v := ah) Z Z (Zb (V ?_)))
    have aK := Zu g
    subst j
    exact ⟨y, ah, (Zv _), aq, Z, t, u, m⟩
   refine Qs Z h ?_
   replace h := Zk h
   refine Qq (V ?_)
   have aL := Zu g
   subst j
   exact ⟨y, d, (Zv _), p, ad, t, u, m⟩
  intro aP ba an
  obtain ⟨aB, n, ax, ar, a0, a1, a2, a3⟩ := an
  refine (Qz (V (Zd (O Z Z (Exec.add Z a3 Z (O Z Z (Zm (v := U (IntKind.i64.wrap ((b : Int) + 1))) Z Z (Zb (V ?_)))))))))
  have aM := Zu i
  subst aA
  exact ⟨aB, n, (Zt ac ax), ar, a0, a1, a2, (Eq.trans Z (QF aw (SliceRep.le o)))⟩
 intro aQ bb am
 obtain ⟨aU, d, ay, au, a4, aT, a5, aD⟩ := am
 refine Zc (Zd (O Z Z (Zq Z aD a5 (Zb (V (Zc (QB (Zx (decide_eq_false (by omega))) (QJ (Qn (Qn (Q9 (V (Zc (Zd (O Z Z (Zm (v := d) Z a4 (O Z Z (Zo (v := d) Z Z (Zb (V (Q0 ?_)))))))))))))))))))))
 have aN := Zu hm
 subst r
 refine ⟨_, QW Z, ?_⟩
 obtain ⟨aC, az, av, a9⟩ := au.freezeArr
 exact ⟨aC, d, (Zt ay az), av, Z, a9⟩
theorem Qlb : Je Tryz.prog 135 = some (138, 1, 24) := by kernel_rfl
theorem Qoo : JL Tryz.prog 138 = some (Value.slice none 0 0) := by kernel_rfl
theorem Qnr : JL Tryz.prog 137 = some (Value.agg #[U 0, U 0, U 0]) := by kernel_rfl
theorem Qmx : JU Tryz.prog 137 = some (true, 3) := by kernel_rfl
theorem Qci : Jt Tryz.prog 137 1 = some 1 := by kernel_rfl
theorem QdS : Jt Tryz.prog 137 0 = some 0 := by kernel_rfl
theorem Qmw : JU Tryz.prog 138 = some (false, 1) := by kernel_rfl
theorem Qnu : Je Tryz.prog 138 = some (137, 3, 24) := by kernel_rfl
theorem Qly : Jt Tryz.prog 137 2 = some 2 := by kernel_rfl
theorem Qdq {w0 w : World} {s : PHeap} {H : List Res} {m : System} {aX : (List Int)} {ay : Bool} {aw : Value} {ae : Value} {ax : Value} {af : Value} {r : (List Int)} (hm : KP m aX ay = some r) (hS : St w0 s (H) w) (cD : SliceRep (Qa .i64) s aw m.Costs) (aV : SliceRep encEdge s ae m.Edges) (fj : SliceRep encBool s ax m.Goals) (aA : SliceRep (Qa .i64) s af aX) :
  Calls Tryz.prog 61 #[Value.agg #[U (m.States), U (m.Init), aw, ae, ax], af, Value.bool (ay)] w fun e w' => ∃ v, e = .returned v ∧ ((fun (fh : (List Int)) => ∃ (bt : PHeap) (cA : Value), PHeap.le s bt ∧ St w0 bt (H) w' ∧ v = cA ∧ SliceRep (Qa .i64) bt cA fh) r) := by
 unfold KP at hm
 refine Qw Tryz.func61 Z Z (Zc (Zd (O Z Z (Exec.box (cs := [U (m.States), U (m.Init), aw, ae, ax]) hS Z Z Z ?_))))
 intro ao gR bK
 refine O Z Z (Zo (v := Vn) Z Z (Zb (V (Zc (Zd (O Z Z (Zp JV Z Z Z (O Z Z (Zn (bK) A3 Z Z Z ?_)))))))))
 obtain ⟨gq, eu, hm⟩ := Zg hm
 refine O Z Z (QbL (F := encArc) (T2 := 137) bK Qlb Qoo Z Z Z eu ?_)
 intro d d5 gS bL
 refine O Z Z (Zo (v := d) Z Z (Zb (V (Zc (Zc (Zd (O Z Z (Zp QaN Z Z Z (O Z Z (Zn (bL.f2) A35 Z Z Z (O Z Z (Zr S35 Z Z aV (O Z Z (Zm (v := U 0) Z Z (Zb (V ?_))))))))))))))))
 obtain ⟨u, cI, hm⟩ := Zg hm
 refine Qo (JZ (fun k' s' f' w' => (fun (u : (List (List Arc))) => ∃ (cz : PHeap) (j : List Value), PHeap.le s cz ∧ St w0 cz (Res.box ao 38 [U (m.States), U (m.Init), aw, ae, ax] :: Res.arr encRaw 138 d j :: Res.rows encArc 137 j u :: H) w' ∧ f' 1 = af ∧ f' 2 = Vb ay ∧ f' 3 = Vq ao ∧ f' 7 = d ∧ f' 24 = ae ∧ f' 25 = U ((m.Edges.length : Int)) ∧ f' 26 = U (k' : Int)) s') cI ?_ ?_ ?_)
 ·have cZ := bL.f2
  exact ⟨s, d5, (Zv _), cZ, Z, Z, Z, Z, Z, Z, Z⟩
 ·intro bW u eM fO gT d0 cN o
  obtain ⟨bu, j, bc, bM, ci, bj, aI, cj, bk, bl, aU⟩ := cN
  refine Zc (Zd (O Z Z (Zq Z aU bl (Zb (V (Zc (QL (Zx (decide_eq_true (by omega))) (Qq (V (Zc (Qo (Zc (Zd ?_)))))))))))))
  obtain ⟨a, ev, o⟩ := Zg o
  refine O Z Z (Qy S35 Z bk aU (aV.mono bc) ev ?_)
  intro fk g1 cE
  refine O Z Z (Zw (E := encEdge) bM A85 Z Z Z cE ?_)
  intro gH ew
  obtain rfl := JX.1 ew
  refine O Z Z (Exec.alloc (cs := [U 0, U 0, U 0]) bM Z85 Z Z ?_)
  intro fl gU da
  refine O Z Z (Qe (ds := [U (a.From), U (a.Label), U (a.To)]) (es := [U (a.From), U (a.Label), U (a.To)]) da A85 Z Z Z Z (Zj Z (Zj Z (Zj Z Q5))) (Nat.le_of_ble_eq_true Z) Z ?_)
  intro gV db
  refine Zb (V (Zc (KT (n0 := 12) (qs 0 11 (.e 11 [0, 1, 2, 3, 4, 5, 6, 7, 8, 9, 10] .done)) Yc (by kernel_rfl) (by kernel_rfl) ?_)))
  have aq := db.drew
  refine Qm Z Z (Zp Qbx Z Z Z ⟨Z, ?_⟩)
  refine Qm Z Z (Zn (aq) A3 Z Z Z ⟨Z, ?_⟩)
  refine Qm Z Z (Zp Qan Z Z Z ⟨Z, ?_⟩)
  refine Qm Z Z (Zn (aq) A3 Z Z Z ⟨Z, ?_⟩)
  refine Qm Z Z (Zp QaZ Z aI Z ⟨Z, ?_⟩)
  refine Qm Z Z (Zn (aq.f1) A22 Z Z Z ⟨Z, ?_⟩)
  refine Qm Z Z (Zp Qaw Z Z Z ⟨Z, ?_⟩)
  refine Qm Z Z (Zn (aq) A3 Z Z Z ⟨Z, ?_⟩)
  obtain ⟨n, ex, o⟩ := Zg o
  refine Qm Z Z (QT JG Z Z Z (cD.mono bc) ex ?_)
  intro fm g2 b2 cH
  refine ⟨Z, ?_⟩
  refine Qm Z Z (Zw (E := (Qa .i64)) aq A3 Z Z Z b2 ?_)
  intro gI ey
  obtain rfl := Qv.1 ey
  refine ⟨Z, ?_⟩
  refine Qm Z Z (Exec.build Z (Qc (c := [U (a.From)]) (Qh Z Z) (Qc (c := [U (a.To)]) (Qh Z Z) (Qc (c := [U n]) (Qh Z Z) Qu))) (v := Value.agg #[U (a.From), U (a.To), U n]) (fun _ => by kernel_rfl) ⟨Z, ?_⟩)
  refine JQ Z Z (Exec.alloc (cs := [U 0, U 0, U 0]) aq Qnr Z Z ?_)
  intro b3 gW ar
  refine ⟨(Qb (Q4 Z Z (Zp Qbx Z Z Z ⟨Z, Z⟩)) (Qb (Q4 Z Z (Zn (ar.f1) A3 Z Z Z ⟨Z, Z⟩)) (Qb (Q4 Z Z (Zp Qan Z Z Z ⟨Z, Z⟩)) (Qb (Q4 Z Z (Zn (ar.f1) A3 Z Z Z ⟨Z, Z⟩)) (Qb (Q4 Z Z (Zp QaZ Z aI Z ⟨Z, Z⟩)) (Qb (Q4 Z Z (Zn (ar.f2) A22 Z Z Z ⟨Z, Z⟩)) (Qb (Q4 Z Z (Zp Qaw Z Z Z ⟨Z, Z⟩)) (Qb (Q4 Z Z (Zn (ar.f1) A3 Z Z Z ⟨Z, Z⟩)) (Qb (Q4 Z Z (Qg6 Z Z Z cH ⟨Z, Z⟩)) (Qb (Q4 Z Z (Zw (E := (Qa .i64)) ar A3 Z Z Z b2 (fun _ q => ⟨Z, Qv.1 q⟩))) (Qb (Q4 Z Z (Exec.build Z (Qc (c := [U (a.From)]) (Qh Z Z) (Qc (c := [U (a.To)]) (Qh Z Z) (Qc (c := [U n]) (Qh Z Z) Qu))) (v := Value.agg #[U (a.From), U (a.To), U n]) (fun _ => by kernel_rfl) ⟨Z, Z⟩)) QV))))))))))), ?_⟩
  refine QG (O Z Z (Qe (ds := [U (a.From), U (a.To), U n]) (es := [U (a.From), U (a.To), U n]) ar Qmx Z Z Z Z (Zj Z (Zj Z (Zj Z Q5))) (Nat.le_of_ble_eq_true Z) Z ?_))
  intro gX aC
  refine Zb (V (Zc (Zc (Zd (O Z Z (Zm (v := Vb ay) Z bj (Zb (V ?_))))))))
  obtain ⟨aQ, a5, o⟩ := Zg o
  refine QK (M := fun f' w' => (J2 fun (ag : Int) (ab : Int) => ∃ (c0 : PHeap) , PHeap.le bu c0 ∧ St w0 c0 (Res.box ao 38 [U (m.States), U (m.Init), aw, ae, ax] :: Res.arr encRaw 138 d j :: Res.rows encArc 137 j u :: Res.box b3 137 [U ag, U ab, U n] :: H) w' ∧ f' 1 = af ∧ f' 2 = Vb ay ∧ f' 3 = Vq ao ∧ f' 7 = d ∧ f' 10 = Vq b3 ∧ f' 24 = ae ∧ f' 25 = U ((m.Edges.length : Int)) ∧ f' 26 = U ((bW : Int))) aQ) ?_ ?_
  ·rcases Qf a5 with ⟨a0, a5⟩ | ⟨a0, a5⟩
   ·refine Qr Z a0 (Zd (O Z Z (Zp Qci Z Z Z (O Z Z (Zn (aC) A3 Z Z Z (O Z Z (Zp QdS Z Z Z (O Z Z (Zn (aC) A3 Z Z Z (O Z Z (Zp QdS Z Z Z (O Z Z (Qe (ds := [U (a.To)]) (es := [U (a.To), U (a.To), U n]) aC A3 Z Z Z Z (Zj Z Q5) (Nat.le_of_ble_eq_true Z) Z ?_)))))))))))))
    intro gY dc
    refine O Z Z (Zp Qci Z Z Z (O Z Z (Qe (ds := [U (a.From)]) (es := [U (a.To), U (a.From), U n]) dc A3 Z Z Z Z (Zj Z Q5) (Nat.le_of_ble_eq_true Z) Z ?_)))
    intro gZ dd
    refine Zb (V ?_)
    have fC := Zu a5
    subst aQ
    exact ⟨bu, (Zv _), ((((dd.f1).drop).f3).f3).f3, ci, bj, aI, cj, Z, bk, bl, aU⟩
   refine Qs Z a0 ?_
   replace a0 := Zk a0
   refine Qq (V ?_)
   have fD := Zu a5
   subst aQ
   exact ⟨bu, (Zv _), ((((aC.f1).drop).f3).f3).f3, ci, bj, aI, cj, Z, bk, bl, aU⟩
  intro fP ha cW
  obtain ⟨ag, ab⟩ := aQ
  replace o := Jp o
  obtain ⟨eN, d8, de, dH, dI, dJ, au, av, dK, dL, dM⟩ := cW
  refine (V (KT (n0 := 11) (qs 0 9 (.e 9 [0, 1, 2, 3, 4, 5, 6, 7] (.e 10 [0, 1, 2] .done))) Yc (by kernel_rfl) (by kernel_rfl) ?_))
  have ah := de.drew
  refine Qm Z Z (Zm (v := d) Z au ⟨Z, ?_⟩)
  refine Qm Z Z (Zp QdS Z av Z ⟨Z, ?_⟩)
  refine Qm Z Z (Zn (ah.f3) A3 Z Z Z ⟨Z, ?_⟩)
  refine Qm Z Z (Zm (v := d) Z au ⟨Z, ?_⟩)
  refine Qm Z Z (Zp QdS Z av Z ⟨Z, ?_⟩)
  refine Qm Z Z (Zn (ah.f3) A3 Z Z Z ⟨Z, ?_⟩)
  obtain ⟨gD, cu, o⟩ := Zg o
  obtain ⟨go, y, b6, _⟩ := (((ah.f2).f2).f1).rows_at cu
  obtain ⟨ga, fs, ap⟩ := ((ah.f2).f2).arr_at y
  refine Qm Z Z (Qd Qlb Z ap Z (Qg y).1 (Qg y).2.1 ⟨Z, ?_⟩)
  refine Qm Z Z (Qt (F := encRaw) ((ah.f2).f2) ap Qmw Z Z Z y (Sub.refl _) ?_)
  intro fb cv
  replace cv := (Yr.1 cv).1
  subst fb
  refine ⟨Z, ?_⟩
  refine Qm Z Z (Ql (ds := [U ag, U ab, U n]) (ah.f3) Qmx Z av Z ⟨Z, ?_⟩)
  refine JQ Z Z (Exec.buildSlice (Te := 137) (cs := [U ag, U ab, U n]) ah Z (Qc (c := [U ag, U ab, U n]) (Qh Z Z) Qu) (fun _ => by kernel_rfl) ?_)
  intro fn hb aD
  refine ⟨(Qb (Q4 Z Z (Zm (v := d) Z au ⟨Z, Z⟩)) (Qb (Q4 Z Z (Zp QdS Z av Z ⟨Z, Z⟩)) (Qb (Q4 Z Z (Zn (aD.f4) A3 Z Z Z ⟨Z, Z⟩)) (Qb (Q4 Z Z (Zm (v := d) Z au ⟨Z, Z⟩)) (Qb (Q4 Z Z (Zp QdS Z av Z ⟨Z, Z⟩)) (Qb (Q4 Z Z (Zn (aD.f4) A3 Z Z Z ⟨Z, Z⟩)) (Qb (Q4 Z Z (Qd Qlb Z ap Z (Qg y).1 (Qg y).2.1 ⟨Z, Z⟩)) (Qb (Q4 Z Z (Qt (F := encRaw) ((aD.f3).f3) ap Qmw Z Z Z y (Sub.refl _) (fun _ q => ⟨Z, (Yr.1 q).1⟩))) QV)))))))), ?_⟩
  have df := (((aD.f3).f3).f1).rows_split b6 (Qg cu).2.2
  obtain ⟨gr, ez, o⟩ := Zg o
  refine JQ Z Z (QZ (E := encArc) (ys := [(⟨ag, ab, n⟩ : Arc)]) (df.f3).f1 Qnu Qnr Z (by decide) Z Z Z Z ⟨[U ag, U ab, U n], [], Z, ⟨[U ag], [U ab, U n], Z, Z, ⟨[U ab], [U n], Z, Z, Z⟩⟩, Z⟩ Z ez ?_)
  intro gJ hc bN
  refine ⟨(Qb (Q4 Z Z (Zm (v := d) Z au ⟨Z, Z⟩)) (Qb (Q4 Z Z (Zp QdS Z av Z ⟨Z, Z⟩)) (Qb (Q4 Z Z (Zn (bN.f4) A3 Z Z Z ⟨Z, Z⟩)) QV))), ?_⟩
  refine QG (O Z Z (Qd Qlb Z ap Z (Qg y).1 (Qg y).2.1 ?_))
  obtain ⟨gs, e0, o⟩ := Zg o
  refine O Z Z (QbK ((bN.f2).f2).f2 b6 ap Qmw Z Z Z Z e0 ?_)
  intro d6 hd dg
  refine Zb (Qz (V (Zd (O Z Z (Exec.add Z dM Z (O Z Z (Zm (v := U (IntKind.i64.wrap ((bW : Int) + 1))) Z Z (Zb (V ?_)))))))))
  have fE := Zu o
  subst eM
  exact ⟨eN, d6, (Zt bc d8), ((dg.f3).drop).f2, dH, dI, dJ, au, dK, dL, (Eq.trans Z (QF d0 (SliceRep.le aV)))⟩
 intro fQ he cO
 obtain ⟨c1, j, a6, bO, dN, g5, ck, dO, g6, dP, fd⟩ := cO
 refine Zc (Zd (O Z Z (Zq Z fd dP (Zb (V (Zc (QB (Zx (decide_eq_false (by omega))) (QJ (Qn (Qn (Q9 (V (Zc (Zd (O Z Z (Zp JV Z ck Z (O Z Z (Zn (bO) A3 Z Z Z ?_))))))))))))))))))
 obtain ⟨d9, e1, hm⟩ := Zg hm
 refine O Z Z (Kr (E := (Qa .i64)) bO JG Z3 Z Z Z Z e1 ?_)
 intro g hf aY
 refine O Z Z (Zo (v := g) Z Z (Zb (V (Zc (Zc (Zd (O Z Z (Zm (v := g) Z Z (O Z Z (QP (aY) JG Z Z (O Z Z (Zm (v := U 0) Z Z (Zb (V ?_))))))))))))))
 obtain ⟨bd, cJ, hm⟩ := Zg hm
 refine Qo (JZ (fun k' s' f' w' => (fun (bd : (List Int)) => ∃ (c2 : PHeap) , PHeap.le c1 c2 ∧ St w0 c2 (Res.box ao 38 [U (m.States), U (m.Init), aw, ae, ax] :: Res.arr encRaw 138 d j :: Res.rows encArc 137 j u :: Res.arr (Qa .i64) 3 g bd :: H) w' ∧ f' 1 = af ∧ f' 3 = Vq ao ∧ f' 7 = d ∧ f' 11 = g ∧ f' 65 = U ((d9.length : Int)) ∧ f' 66 = U (k' : Int)) s') cJ ?_ ?_ ?_)
 ·have dh := (aY.f3).f3
  exact ⟨c1, (Zv _), dh.f3, dN, ck, dO, Z, Z, Z⟩
 ·intro aG bd eO fR hg d1 cP a4
  obtain ⟨eP, dA, bP, dQ, dR, dS, cl, cm, bz⟩ := cP
  refine Zc (Zd (O Z Z (Zq Z bz cm (Zb (V (Zc (QL (Zx (decide_eq_true (by omega))) (Qq (V (Zc (Qo (Zc (Zd (O Z Z (Zm (v := U ((aG : Int))) Z bz (O Z Z (Zo (v := U ((aG : Int))) Z Z (Zb (V (Zd (O Z Z (Zm (v := g) Z cl (O Z Z (Zm (v := U ((aG : Int))) Z Z ?_))))))))))))))))))))))))
  obtain ⟨h2, bp, a4⟩ := Zg a4
  obtain ⟨gb, ft, b7⟩ := (bP.f3).arr_at bp
  refine O Z Z (Qd JG Z b7 Z (Qg bp).1 (Qg bp).2.1 ?_)
  obtain ⟨gu, e2, a4⟩ := Zg a4
  refine O Z Z (QQ bP.f3 b7 A3 Z Z Z Z (Qv.2 Z) e2 ?_)
  intro hh di
  refine Zb (Qz (V (Zd (O Z Z (Exec.add Z bz Z (O Z Z (Zm (v := U (IntKind.i64.wrap ((aG : Int) + 1))) Z Z (Zb (V ?_)))))))))
  have fF := Zu a4
  subst eO
  exact ⟨eP, dA, ((di.f3).f3).f3, dQ, dR, dS, cl, cm, (Eq.trans Z (QF d1 aY.arr_le))⟩
 intro fS hi cQ
 obtain ⟨gE, a7, bQ, cn, dT, dU, dV, dW, fe⟩ := cQ
 refine Zc (Zd (O Z Z (Zq Z fe dW (Zb (V (Zc (QB (Zx (decide_eq_false (by omega))) (QJ (Qn (Qn (Q9 (V (Zc (Zd (O Z Z (Zp JV Z dT Z (O Z Z (Zn (bQ) A3 Z Z Z ?_))))))))))))))))))
 obtain ⟨gv, e3, hm⟩ := Zg hm
 refine O Z Z (Kr (E := encBool) bQ S36 Z4 Z Z Z Z e3 ?_)
 intro l hj dj
 refine O Z Z (Zo (v := l) Z Z (Zb (V (Zc (Zd (O Z Z (Zm (v := af) Z cn ?_)))))))
 obtain ⟨fi, e4, hm⟩ := Zg hm
 refine O Z Z (Tc Z Z Z (Zi Z Qk) (Ji e4 dj (aA.mono (Zt a6 a7))).r ?_)
 rintro aS hk ⟨c3, _, aH, dk, rfl⟩
 refine O Z Z (Zo (v := aS) Z Z (Zb (V (Zc (Zc (Zd (O Z Z (Zm (v := af) Z cn (O Z Z (Zr JG Z Z (aA.mono (Zt (Zt a6 a7) aH)) (O Z Z (Zm (v := U 0) Z Z (Zb (V ?_))))))))))))))
 obtain ⟨eV, cK, hm⟩ := Zg hm
 refine Qo (JZ (fun k' s' f' w' => (J2 fun (be : (List Int)) (bf : (List Bool)) => ∃ (c4 : PHeap) , PHeap.le c3 c4 ∧ St w0 c4 (Res.arr encRaw 138 d j :: Res.rows encArc 137 j u :: Res.arr (Qa .i64) 3 g be :: Res.arr encBool 4 l bf :: Res.que (Qa .i64) 3 aS fi :: H) w' ∧ f' 7 = d ∧ f' 11 = g ∧ f' 13 = l ∧ f' 14 = aS ∧ f' 78 = af ∧ f' 79 = U ((aX.length : Int)) ∧ f' 80 = U (k' : Int)) s') cK ?_ ?_ ?_)
 ·have dl := ((dk.arr_que).f2).drop
  exact ⟨c3, (Zv _), (((dl.f1).f4).f4).f4, dU, dV, Z, Z, Z, Z, Z⟩
 ·intro d7 eW eQ fT hl d2 cR t
  obtain ⟨be, bf⟩ := eW
  replace t := Jp t
  obtain ⟨eR, bX, aZ, dX, co, cp, dY, cq, cr, b0⟩ := cR
  refine Zc (Zd (O Z Z (Zq Z b0 cr (Zb (V (Zc (QL (Zx (decide_eq_true (by omega))) (Qq (V (Zc (Qo (Zc (Zd ?_)))))))))))))
  obtain ⟨b1, e5, t⟩ := Zg t
  refine O Z Z (Qy JG Z cq b0 (aA.mono (Zt (Zt (Zt a6 a7) aH) bX)) e5 ?_)
  intro fo g3 cF
  refine O Z Z (Zw (E := (Qa .i64)) aZ A3 Z Z Z cF ?_)
  intro gK e6
  obtain rfl := Qv.1 e6
  refine O Z Z (Zo (v := U b1) Z Z (Zb (V (Zd (O Z Z (Zm (v := g) Z co (O Z Z (Zm (v := U b1) Z Z (O Z Z (Zm (v := l) Z cp (O Z Z (Zm (v := U b1) Z Z ?_))))))))))))
  obtain ⟨h3, bq, t⟩ := Zg t
  obtain ⟨gc, fu, b8⟩ := (aZ.f2).arr_at bq
  refine O Z Z (Qd JG Z b8 Z (Qg bq).1 (Qg bq).2.1 ?_)
  obtain ⟨gw, e7, t⟩ := Zg t
  refine O Z Z (QQ aZ.f2 b8 A3 Z Z Z Z (Qv.2 Z) e7 ?_)
  intro hn bR
  obtain ⟨h4, br, t⟩ := Zg t
  obtain ⟨gd, fv, b9⟩ := (bR.f3).arr_at br
  refine O Z Z (Qd S36 Z b9 Z (Qg br).1 (Qg br).2.1 ?_)
  obtain ⟨gx, e8, t⟩ := Zg t
  refine O Z Z (QQ bR.f3 b9 A4 Z Z Z Z (J0.2 Z) e8 ?_)
  intro ho dm
  refine Zb (Qz (V (Zd (O Z Z (Exec.add Z b0 Z (O Z Z (Zm (v := U (IntKind.i64.wrap ((d7 : Int) + 1))) Z Z (Zb (V ?_)))))))))
  have fG := Zu t
  subst eQ
  exact ⟨eR, bX, ((((dm.f4).f1).f2).f4).f4, dX, co, cp, dY, cq, cr, (Eq.trans Z (QF d2 (SliceRep.le (aA.mono (Zt (Zt a6 a7) aH)))))⟩
 intro fU hp cS
 obtain ⟨be, bf⟩ := eV
 replace hm := Jp hm
 obtain ⟨bv, dB, dn, dZ, ea, eb, ec, g7, ed, ff⟩ := cS
 refine Zc (Zd (O Z Z (Zq Z ff ed (Zb (V (Zc (QB (Zx (decide_eq_false (by omega))) (QJ (Qn (Qn (Q9 (V (Zc ?_)))))))))))))
 obtain ⟨b4, cL, gp, d3, dz⟩ := QN hm
 refine QK (M := fun f' w' => ∃ s', (b4 = .next s' ∨ b4 = .brk s') ∧ (un3 fun (bY : (List Int)) (bZ : (List Bool)) (ca : (List Int)) => ∃ (c5 : PHeap) (bx : Value), PHeap.le bv c5 ∧ St w0 c5 (Res.arr encRaw 138 d j :: Res.rows encArc 137 j u :: Res.arr (Qa .i64) 3 g bY :: Res.arr encBool 4 l bZ :: Res.que (Qa .i64) 3 bx ca :: H) w' ∧ f' 7 = d ∧ f' 11 = g ∧ f' 13 = l ∧ f' 14 = bx) s') ?_ ?_
 ·refine Qo (YG (fun s' f' w' => (un3 fun (cb : (List Int)) (cc : (List Bool)) (cd : (List Int)) => ∃ (c6 : PHeap) (am : Value), PHeap.le bv c6 ∧ St w0 c6 (Res.arr encRaw 138 d j :: Res.rows encArc 137 j u :: Res.arr (Qa .i64) 3 g cb :: Res.arr encBool 4 l cc :: Res.que (Qa .i64) 3 am cd :: H) w' ∧ f' 7 = d ∧ f' 11 = g ∧ f' 13 = l ∧ f' 14 = am) s') cL ?_ ?_)
  ·have dp := dn.f4
   exact ⟨bv, aS, (Zv _), (((dp.f4).f4).f4).f4, dZ, ea, eb, ec⟩
  intro eX b5 fV hq cT b d4
  obtain ⟨cb, cc, cd⟩ := eX
  replace b := Qbt b
  obtain ⟨bw, am, ce, aE, bm, ct, bn, aJ⟩ := cT
  refine Zc (Zc (Zd (O Z Z (Zm (v := am) Z aJ (O Z Z (QhW (aE.f4) JG Z Z (O Z Z (Exec.gtr Z Z Z (Zb (V ?_))))))))))
  rcases Qf b with ⟨a1, b⟩ | ⟨a1, b⟩
  ·refine Qr Z a1 (Qq (V (Qo (Zc (Zd (O Z Z (Zm (v := am) Z aJ ?_)))))))
   obtain ⟨an, e9, b⟩ := Zg b
   refine O Z Z (Qg7 (aE.f4) JG Z Z Z e9 ?_)
   intro fp g4 cG
   refine O Z Z (QgN (E := (Qa .i64)) cG A3 Z Z ?_)
   intro gL eA
   obtain rfl := Qv.1 eA
   refine O Z Z (Zo (v := U an) Z Z (Zb (V (Zc (Zd (O Z Z (Zm (v := l) Z bn (O Z Z (Zm (v := U an) Z Z (O Z Z (Zm (v := am) Z aJ ?_)))))))))))
   obtain ⟨fw, eB, b⟩ := Zg b
   refine O Z Z (Qg4 aE.f4 JG Z Z Z eB ?_)
   intro cB bS
   refine O Z Z (Zo (v := cB) Z Z ?_)
   obtain ⟨h5, bs, b⟩ := Zg b
   obtain ⟨gf, fx, bA⟩ := (bS.f4).arr_at bs
   refine O Z Z (Qd S36 Z bA Z (Qg bs).1 (Qg bs).2.1 ?_)
   obtain ⟨gy, eC, b⟩ := Zg b
   refine O Z Z (QQ bS.f4 bA A4 Z Z Z Z (J0.2 Z) eC ?_)
   intro hr az
   refine Zb (V (Zc (Zd (O Z Z (Zm (v := d) Z bm (O Z Z (Zm (v := U an) Z Z ?_)))))))
   obtain ⟨cy, aN, b⟩ := Zg b
   obtain ⟨bJ, aB, aW, _⟩ := (((az.f3).f3).f1).rows_at aN
   obtain ⟨gg, fy, bB⟩ := ((az.f3).f3).arr_at aB
   refine O Z Z (Qd Qlb Z bB Z (Qg aB).1 (Qg aB).2.1 (O Z Z (Qt (F := encRaw) ((az.f3).f3) bB Qmw Z Z Z aB (Sub.refl _) ?_)))
   intro fc cw
   replace cw := (Yr.1 cw).1
   subst fc
   refine O Z Z (QP ((((az.f3).f3).f1).rows_split aW (Qg aN).2.2) Qnu Z Z (O Z Z (Zm (v := U 0) Z Z (Zb (V ?_)))))
   obtain ⟨gG, cx, b⟩ := Zg b
   obtain ⟨eY, cM, b⟩ := Zg b
   refine Qo (JZ (fun k' s' f' w' => (un3 fun (bg : (List Int)) (bh : (List Bool)) (bi : (List Int)) => ∃ (c7 : PHeap) (aa : Value), PHeap.le bw c7 ∧ St w0 c7 (Res.arr encRaw 138 d j :: Res.rows encArc 137 j u :: Res.arr (Qa .i64) 3 g bg :: Res.arr encBool 4 l bh :: Res.que (Qa .i64) 3 aa bi :: H) w' ∧ f' 7 = d ∧ f' 11 = g ∧ f' 13 = l ∧ f' 14 = aa ∧ f' 17 = U an ∧ f' 105 = bJ ∧ f' 106 = U ((cy.length : Int)) ∧ f' 107 = U (k' : Int)) s') cM ?_ ?_ ?_)
   ·have dq := az.f1
    exact ⟨bw, cB, (Zv _), (((dq.f1).f4).f4).f4, bm, ct, bn, Z, Z, Z, Z, Z⟩
   ·intro bb eZ c8 fW hs bV cU i
    obtain ⟨bg, bh, bi⟩ := eZ
    replace i := Qbt i
    obtain ⟨aP, aa, cf, ba, bo, aj, ac, aK, a8, aL, aM, a9⟩ := cU
    refine Zc (Zd (O Z Z (Zq Z a9 aM (Zb (V (Zc (QL (Zx (decide_eq_true (by omega))) (Qq (V (Zc (Qo (Zc (Zd ?_)))))))))))))
    obtain ⟨x, aO, i⟩ := Zg i
    obtain ⟨gh, fz, bC⟩ := ((ba.f1).rows_split aW (Qg aN).2.2).arr_at aO
    refine O Z Z (Qd Qnu Z (Eq.trans aL bC) a9 (Qg aO).1 (Qg aO).2.1 (O Z Z (Qt (F := encArc) ((ba.f1).rows_split aW (Qg aN).2.2) bC Qmx Z Z Z aO (Sub.refl _) ?_)))
    intro gM eD
    obtain rfl := Qj5.1 eD
    refine O Z Z (Exec.alloc (cs := [U 0, U 0, U 0]) ba Qnr Z Z ?_)
    intro fq ht dr
    refine O Z Z (Qe (ds := [U (x.From), U (x.To), U (x.Weight)]) (es := [U (x.From), U (x.To), U (x.Weight)]) dr Qmx Z Z Z Z (Zj Z (Zj Z (Zj Z Q5))) (Nat.le_of_ble_eq_true Z) Z ?_)
    intro hu dt
    refine Zb (V (Zc (Zc (KT (n0 := 13) (qs 0 13 .done) Yc (by kernel_rfl) (by kernel_rfl) ?_))))
    have p := dt.drew
    refine Qm Z Z (Zm (v := g) Z aj ⟨Z, ?_⟩)
    refine Qm Z Z (Zm (v := U an) Z a8 ⟨Z, ?_⟩)
    obtain ⟨h6, ad, i⟩ := Zg i
    obtain ⟨gi, f0, bD⟩ := (p.f3).arr_at ad
    refine Qm Z Z (Qd JG Z bD Z (Qg ad).1 (Qg ad).2.1 ⟨Z, ?_⟩)
    refine Qm Z Z (Qt (F := (Qa .i64)) (p.f3) bD A3 Z Z Z ad (Sub.refl _) ?_)
    intro gN eE
    obtain rfl := Qv.1 eE
    refine ⟨Z, ?_⟩
    refine Qm Z Z (Zp Qly Z Z Z ⟨Z, ?_⟩)
    refine Qm Z Z (Zn (p) A3 Z Z Z ⟨Z, ?_⟩)
    refine Qm Z Z (Exec.add Z Z Z ⟨Z, ?_⟩)
    refine Qm Z Z (Zm (v := g) Z aj ⟨Z, ?_⟩)
    refine Qm Z Z (Zp Qci Z Z Z ⟨Z, ?_⟩)
    refine Qm Z Z (Zn (p) A3 Z Z Z ⟨Z, ?_⟩)
    obtain ⟨h7, ak, i⟩ := Zg i
    obtain ⟨gj, f7, bE⟩ := (p.f3).arr_at ak
    refine Qm Z Z (Qd JG Z bE Z (Qg ak).1 (Qg ak).2.1 ⟨Z, ?_⟩)
    refine Qm Z Z (Qt (F := (Qa .i64)) (p.f3) bE A3 Z Z Z ak (Sub.refl _) ?_)
    intro gO eF
    obtain rfl := Qv.1 eF
    refine ⟨Z, ?_⟩
    refine Qm Z Z (Exec.geq Z Z Z ⟨Z, ?_⟩)
    refine QG (Zb (V ?_))
    rcases Qf i with ⟨a2, i⟩ | ⟨a2, i⟩
    ·refine Qr Z a2 (QJ (Qn (Q9 (V (Zd (O Z Z (Exec.add Z a9 Z (O Z Z (Zm (v := U (IntKind.i64.wrap ((bb : Int) + 1))) Z Z (Zb (V ?_)))))))))))
     have fH := Zu i
     subst c8
     exact ⟨aP, aa, cf, (((((p.drop).f4).f4).f4).f4).f4, bo, aj, ac, aK, a8, aL, aM, (Eq.trans Z (QF bV (by have h := Q7 cx; simpa [maxLen] using h)))⟩
    refine Qs Z a2 ?_
    replace a2 := Zk a2
    refine Qq (V (Zc (KT (n0 := 10) (qs 0 10 .done) Yc (by kernel_rfl) (by kernel_rfl) (Qm Z Z (Zm (v := g) Z aj ⟨Z, ?_⟩)))))
    refine Qm Z Z (Zp Qci Z Z Z ⟨Z, ?_⟩)
    refine Qm Z Z (Zn (p.drew) A3 Z Z Z ⟨Z, ?_⟩)
    refine Qm Z Z (Zm (v := g) Z aj ⟨Z, ?_⟩)
    refine Qm Z Z (Zm (v := U an) Z a8 ⟨Z, ?_⟩)
    obtain ⟨gk, f8, bF⟩ := ((p.drew).f3).arr_at ad
    refine Qm Z Z (Qd JG Z bF Z (Qg ad).1 (Qg ad).2.1 ⟨Z, ?_⟩)
    refine Qm Z Z (Qt (F := (Qa .i64)) ((p.drew).f3) bF A3 Z Z Z ad (Sub.refl _) ?_)
    intro gP eG
    obtain rfl := Qv.1 eG
    refine ⟨Z, ?_⟩
    refine Qm Z Z (Zp Qly Z Z Z ⟨Z, ?_⟩)
    refine Qm Z Z (Zn (p.drew) A3 Z Z Z ⟨Z, ?_⟩)
    refine Qm Z Z (Exec.add Z Z Z ⟨Z, ?_⟩)
    refine QG ?_
    obtain ⟨gl, f9, bG⟩ := ((p.drew).f3).arr_at ak
    refine O Z Z (Qd JG Z bG Z (Qg ak).1 (Qg ak).2.1 ?_)
    obtain ⟨dC, eH, i⟩ := Zg i
    refine O Z Z (QQ (p.drew).f3 bG A3 Z Z Z Z (Qv.2 Z) eH ?_)
    intro hv ai
    refine Zb (V (Zc (Zd (O Z Z (Zm (v := l) Z ac (O Z Z (Zp Qci Z Z Z (O Z Z (Zn (ai.f1) A3 Z Z Z ?_)))))))))
    obtain ⟨h8, al, i⟩ := Zg i
    obtain ⟨gm, fA, bH⟩ := (ai.f4).arr_at al
    refine O Z Z (Qd S36 Z bH Z (Qg al).1 (Qg al).2.1 (O Z Z (Qt (F := encBool) (ai.f4) bH A4 Z Z Z al (Sub.refl _) ?_)))
    intro gQ eI
    obtain rfl := J0.1 eI
    refine O Z Z (Exec.not Z Z (Zb (V ?_)))
    obtain ⟨aR, z, i⟩ := Zg i
    refine QK (M := fun f' w' => (J2 fun (cg : (List Bool)) (ch : (List Int)) => ∃ (c9 : PHeap) (aT : Value), PHeap.le aP c9 ∧ St w0 c9 (Res.arr encRaw 138 d j :: Res.rows encArc 137 j u :: Res.arr (Qa .i64) 3 g dC :: Res.arr encBool 4 l cg :: Res.que (Qa .i64) 3 aT ch :: H) w' ∧ f' 7 = d ∧ f' 11 = g ∧ f' 13 = l ∧ f' 14 = aT ∧ f' 17 = U an ∧ f' 105 = bJ ∧ f' 106 = U ((cy.length : Int)) ∧ f' 107 = U ((bb : Int))) aR) ?_ ?_
    ·rcases Qf z with ⟨a3, z⟩ | ⟨a3, z⟩
     ·refine Qr Z a3 (KT (n0 := 9) (qs 0 6 (.e 6 [0, 1, 2, 3] (.e 7 [0, 1, 2] (.e 8 [0, 1, 2] .done)))) Yc (by kernel_rfl) (by kernel_rfl) (Qm Z Z (Zm (v := l) Z ac ⟨Z, ?_⟩)))
      refine Qm Z Z (Zp Qci Z Z Z ⟨Z, ?_⟩)
      refine Qm Z Z (Zn ((ai.drew).f1) A3 Z Z Z ⟨Z, ?_⟩)
      refine Qm Z Z (Zm (v := aa) Z aK ⟨Z, ?_⟩)
      refine Qm Z Z (Zp Qci Z Z Z ⟨Z, ?_⟩)
      refine Qm Z Z (Zn ((ai.drew).f1) A3 Z Z Z ⟨Z, ?_⟩)
      refine JQ Z Z (Exec.buildSlice (Te := 3) (cs := [U (x.To)]) ai.drew Z (Qc (c := [U (x.To)]) (Qh Z Z) Qu) (fun _ => by kernel_rfl) ?_)
      intro fr hw bT
      refine ⟨(Qb (Q4 Z Z (Zm (v := l) Z ac ⟨Z, Z⟩)) (Qb (Q4 Z Z (Zp Qci Z Z Z ⟨Z, Z⟩)) (Qb (Q4 Z Z (Zn (bT.f2) A3 Z Z Z ⟨Z, Z⟩)) (Qb (Q4 Z Z (Zm (v := aa) Z aK ⟨Z, Z⟩)) QV)))), ?_⟩
      obtain ⟨gz, eJ, z⟩ := Zg z
      refine JQ Z Z (Qfz (E := (Qa .i64)) (ys := [x.To]) bT.f6 JG Z3 Z (by decide) Z Z Z Z ⟨[U (x.To)], [], Z, Z, Z⟩ Z eJ ?_)
      intro cC hx aF
      refine ⟨(Qb (Q4 Z Z (Zm (v := l) Z ac ⟨Z, Z⟩)) (Qb (Q4 Z Z (Zp Qci Z Z Z ⟨Z, Z⟩)) (Qb (Q4 Z Z (Zn (aF.f2) A3 Z Z Z ⟨Z, Z⟩)) QV))), ?_⟩
      refine JQ Z Z (Zo (v := cC) Z Z (⟨(Qb (Q4 Z Z (Zm (v := l) Z ac ⟨Z, Z⟩)) (Qb (Q4 Z Z (Zp Qci Z Z Z ⟨Z, Z⟩)) (Qb (Q4 Z Z (Zn (aF.f2) A3 Z Z Z ⟨Z, Z⟩)) QV))), ?_⟩))
      refine QG ?_
      obtain ⟨gn, fB, bI⟩ := (aF.f5).arr_at al
      refine O Z Z (Qd S36 Z bI Z (Qg al).1 (Qg al).2.1 ?_)
      obtain ⟨g0, eK, z⟩ := Zg z
      refine O Z Z (QQ aF.f5 bI A4 Z Z Z Z (J0.2 Z) eK ?_)
      intro hy du
      refine Zb (V ?_)
      have fI := Zu z
      subst aR
      exact ⟨aP, cC, (Zv _), ((((((du.f3).drop).f1).f1).f2).f4).f4, bo, aj, ac, Z, a8, aL, aM, a9⟩
     refine Qs Z a3 ?_
     replace a3 := Zk a3
     refine Qq (V ?_)
     have fJ := Zu z
     subst aR
     exact ⟨aP, aa, (Zv _), ((((((ai.f1).drop).f4).f4).f2).f4).f4, bo, aj, ac, aK, a8, aL, aM, a9⟩
    intro fX hz cX
    obtain ⟨cg, ch⟩ := aR
    replace i := Jp i
    obtain ⟨eS, aT, dD, dv, ee, ef, eg, eh, ei, ej, ek, el⟩ := cX
    refine (Qz (V (Zd (O Z Z (Exec.add Z el Z (O Z Z (Zm (v := U (IntKind.i64.wrap ((bb : Int) + 1))) Z Z (Zb (V ?_)))))))))
    have fK := Zu i
    subst c8
    exact ⟨eS, aT, (Zt cf dD), ((((dv.f4).f4).f4).f4).f4, ee, ef, eg, eh, ei, ej, ek, (Eq.trans Z (QF bV (by have h := Q7 cx; simpa [maxLen] using h)))⟩
   intro fY h0 cV
   obtain ⟨bg, bh, bi⟩ := eY
   replace b := Qbt b
   obtain ⟨eT, aa, dE, dw, em, en, eo, ep, g8, g9, er, fg⟩ := cV
   refine Zc (Zd (O Z Z (Zq Z fg er (Zb (V (Zc (QB (Zx (decide_eq_false (by omega))) (QJ (Qn (Qn (Q9 (Qz (V ?_)))))))))))))
   have fL := Zu b
   subst b5
   refine ⟨_, Z, ?_⟩; exact ⟨eT, aa, (Zt ce dE), ((((dw.f4).f4).f4).f4).f4, em, en, eo, ep⟩
  refine Qs Z a1 ?_
  replace a1 := Zk a1
  refine QJ (Qn (Qn (Q9 (V ?_))))
  have fM := Zu b
  subst b5
  refine ⟨_, .inr (d4 (by intro _ h; cases h)), ?_⟩; exact ⟨bw, am, ce, ((((aE.f4).f4).f4).f4).f4, bm, ct, bn, aJ⟩
 rintro fZ h1 ⟨fa, bU, cY⟩
 have hm := bU.elim (d3 _) (dz _)
 clear bU
 obtain ⟨bY, bZ, ca⟩ := fa
 replace hm := Qbt hm
 obtain ⟨gF, bx, dF, dx, gA, et, gB, gC⟩ := cY
 refine (V (Zc (Zd (O Z Z (Zm (v := g) Z et (O Z Z (Zo (v := g) Z Z (Zb (V (Q0 ?_))))))))))
 have fN := Zu hm
 subst r
 refine ⟨_, QW Z, ?_⟩
 obtain ⟨eU, dG, dy, eL⟩ := dx.f2.freezeArr
 exact ⟨eU, g, (Zt (Zt (Zt (Zt (Zt a6 a7) aH) dB) dF) dG), (((dy.drop).drop).drop).drop, Z, eL⟩
theorem QcU {w0 w : World} {s : PHeap} {H : List Res} {a : System} {c : Value} {d : Value} {f : Value} {r : (List Int) × (Option Int)} (hm : KE a = some r) (hS : St w0 s (H) w) (j : SliceRep (Qa .i64) s c a.Costs) (k : SliceRep encEdge s d a.Edges) (l : SliceRep encBool s f a.Goals) :
  Calls Tryz.prog 38 #[Value.agg #[U (a.States), U (a.Init), c, d, f]] w fun e w' => ∃ v, e = .returned v ∧ ((J2 fun (af : (List Int)) (ag : (Option Int)) => ∃ (m : PHeap) (p : Value), PHeap.le s m ∧ St w0 m (H) w' ∧ v = Value.tuple #[p, QD 50 (ag)] ∧ SliceRep (Qa .i64) m p af) r) := by
 unfold KE at hm
 refine Qw Tryz.func38 Z Z (Zc (Zd (O Z Z (Exec.box (cs := [U (a.States), U (a.Init), c, d, f]) hS Z Z Z ?_))))
 intro ah am n
 refine O Z Z (Zo (v := Vn) Z Z (O Z Z (Zo (v := QD 50 (none)) Z Z (Zb (V (Zc (Zc (Zd (O Z Z (Ql (ds := [U (a.States), U (a.Init), c, d, f]) (n) KS Z Z Z ?_))))))))))
 obtain ⟨aq, y, hm⟩ := Zg hm
 refine O Z Z (Tc Z Z Z (Zi Z Qk) (KZ y n j k l).r ?_)
 rintro _ an ⟨ad, b, h, rfl⟩
 refine O Z Z (Exec.not Z Z (Zb (V ?_)))
 rcases Qf hm with ⟨g, hm⟩ | ⟨g, hm⟩
 ·refine Qr Z g (Zc (Zd (O Z Z (Exec.makeInterface C50 Z Z (O Z Z (Zo (v := Vn) Z Z (O Z Z (Zo (v := QD 50 (some 2)) Z Z (Zb (V (Q0 (Qi ?_))))))))))))
  have ai := Zu hm
  subst r
  refine ⟨_, QbU Z, ?_⟩
  exact ⟨ad, Vn, b, h.drop, (Yp Z Z), (SliceRep.nil _ _)⟩
 refine Qs Z g ?_
 replace g := Zk g
 refine Qq (V (Zc (KT (n0 := 4) (.q 0 (.q 1 (.e 2 [0] (.e 3 [] .done)))) Yc (by kernel_rfl) (by kernel_rfl) (Qm Z Z (Ql (ds := [U (a.States), U (a.Init), c, d, f]) (h.drew) KS Z Z Z ⟨Z, ?_⟩)))))
 refine Qm Z Z (Ql (ds := [U (a.States), U (a.Init), c, d, f]) (h.drew) KS Z Z Z ⟨Z, ?_⟩)
 obtain ⟨ar, z, hm⟩ := Zg hm
 refine JQ Z Z (Tc Z Z Z (Zi Z Qk) (Qe5 z h.drew (j.mono b) (k.mono b) (l.mono b)).r ?_)
 rintro al ao ⟨ak, _, i, o, rfl, ab⟩
 refine ⟨(Qb (Q4 Z Z (Ql (ds := [U (a.States), U (a.Init), c, d, f]) (o) KS Z Z Z ⟨Z, Z⟩)) QV), ?_⟩
 obtain ⟨au, aa, hm⟩ := Zg hm
 refine JQ Z Z (Tc Z Z Z (Zi Z (Zi Z (Zi Z Qk))) (Qdq aa o (j.mono (Zt b i)) (k.mono (Zt b i)) (l.mono (Zt b i)) ab).r ?_)
 rintro t ap ⟨ae, _, x, u, rfl, ac⟩
 refine ⟨QV, ?_⟩
 refine QG (O Z Z (Zo (v := t) Z Z (O Z Z (Zo (v := QD 50 (none)) Z Z (Zb (V (Q0 ?_)))))))
 have aj := Zu hm
 subst r
 refine ⟨_, QbU Z, ?_⟩
 exact ⟨ae, t, (Zt (Zt b i) x), u.drop, (Yp Z Z), ac⟩
theorem Qlm : Jt Tryz.prog 74 2 = some 2 := by kernel_rfl
theorem Ku {w0 w : World} {s : PHeap} {H : List Res} {t : Task} {a2 : (List Int)} {al : Int} {ab : Value} {ac : Value} {ad : Value} {ae : Value} {ag : Value} {r : (Option mergeshrink_Abstraction) × (Option Int)} (hm : Jf t a2 al = some r) (hS : St w0 s (H) w) (af : SliceRep (Qa .i64) s ab t.Vars) (ao : SliceRep (Qa .i64) s ac t.Init) (ap : SliceRep encFact s ad t.Goal) (aq : SliceRep encOp s ae t.Ops) (ar : SliceRep (Qa .i64) s ag a2) :
  Calls Tryz.prog 13 #[Value.agg #[ab, ac, ad, ae], ag, U al] w fun e w' => ∃ v, e = .returned v ∧ ((J2 fun (a3 : (Option mergeshrink_Abstraction)) (aE : (Option Int)) => (∃ m : mergeshrink_Abstraction, a3 = some m ∧ ∃ (an : PHeap) (a9 : Value) (au : Nat) (aA : Value) (aB : Value), PHeap.le s an ∧ St w0 an (Res.box au 74 [aA, aB, a9, Value.bool (m.exact)] :: Res.arr (Qa .i64) 3 aA m.vars :: Res.arr encmergeshrink_stage 87 aB m.stages :: H) w' ∧ v = Value.tuple #[Value.pointer (some ⟨au, 0, none⟩), QD 50 (aE)] ∧ SliceRep (Qa .i64) an a9 m.distance) ∨ (a3 = none ∧ ∃ (a7 : PHeap) , PHeap.le s a7 ∧ St w0 a7 (H) w' ∧ v = Value.tuple #[Value.pointer none, QD 50 (aE)])) r) := by
 unfold Jf at hm
 refine Qw Tryz.func13 Z Z (Zc (Zd (O Z Z (Exec.box (cs := [ab, ac, ad, ae]) hS Z Z Z ?_))))
 intro ba bn av
 refine O Z Z (Zo (v := Vp none) Z Z (O Z Z (Zo (v := QD 50 (none)) Z Z (Zb (V (Zc (Zc (Zd (O Z Z (Ql (ds := [ab, ac, ad, ae]) (av) A26 Z Z Z ?_))))))))))
 obtain ⟨ah, aK, hm⟩ := Zg hm
 refine O Z Z (Tc Z Z Z (Zi Z Qk) (Qdm aK av af ao ap aq).r ?_)
 rintro _ bo ⟨aU, a, aw, rfl⟩
 refine O Z Z (Zo (v := QD 50 (ah)) Z Z (Zb (V (Zc (Zd (O Z Z (Zm (v := QD 50 (ah)) Z Z (O Z Z (Jj (T := 50) Tryz.underlying32 Z Z Z (Zb (V ?_)))))))))))
 rcases Qf hm with ⟨n, hm⟩ | ⟨n, hm⟩
 ·refine Qr Z n (Zc (Zd (O Z Z (Zm (v := QD 50 (ah)) Z Z (O Z Z (Zo (v := Vp none) Z Z (O Z Z (Zo (v := QD 50 (ah)) Z Z (Zb (V (Q0 (Qi ?_))))))))))))
  have bd := Zu hm
  subst r
  refine ⟨_, QbU Z, ?_⟩
  refine (Or.inr ⟨Z, ?_⟩); exact ⟨aU, a, aw.drop, (Yp Z Z)⟩
 refine Qs Z n ?_
 replace n := Zk n
 refine Qq (V (Zc (Zd (O Z Z (Zm (v := ag) Z Z (O Z Z (Tc Z Z Z (Zi Z Qk) (Qjr aw (ar.mono a)).r ?_)))))))
 rintro _ bp ⟨bi, bb, b, aF, rfl, aR⟩
 obtain ⟨b1, aL, hm⟩ := Zg hm
 refine O Z Z (Tc Z Z Z (Zi Z Qk) (QbS aL aF aR).r ?_)
 rintro aC bq ⟨bj, _, d, ax, rfl, aS⟩
 refine O Z Z (Zo (v := aC) Z Z (Zb (V (Zc (Zc (Zd (O Z Z (Zm (v := aC) Z Z (O Z Z (Zp Yu Z Z Z (O Z Z (Zn (ax) A22 Z Z Z (O Z Z (Zr JG Z Z (af.mono (Zt (Zt a b) d)) ?_))))))))))))))
 obtain ⟨b2, aM, hm⟩ := Zg hm
 refine O Z Z (Tc Z Z Z (Zi Z Qk) (Qbl aM ax).r ?_)
 rintro bm br ⟨bk, _, f, aG, rfl, aT⟩
 obtain ⟨b3, aN, hm⟩ := Zg hm
 refine O Z Z (Tc Z Z Z (Zi Z (Zi Z Qk)) (Y9 aN aG (aS.mono f) aT).r ?_)
 rintro _ bs ⟨aV, g, ai, rfl⟩
 refine O Z Z (Exec.not Z Z (Zb (V ?_)))
 rcases Qf hm with ⟨o, hm⟩ | ⟨o, hm⟩
 ·refine Qr Z o (Zc (Zd (O Z Z (Exec.makeInterface C50 Z Z (O Z Z (Zo (v := Vp none) Z Z (O Z Z (Zo (v := QD 50 (some 2)) Z Z (Zb (V (Q0 (Qi ?_))))))))))))
  have be := Zu hm
  subst r
  refine ⟨_, QbU Z, ?_⟩
  refine (Or.inr ⟨Z, ?_⟩); exact ⟨aV, (Zt (Zt (Zt (Zt a b) d) f) g), ai.drop, (Yp Z Z)⟩
 refine Qs Z o ?_
 replace o := Zk o
 refine Qq (V (Zc (Zd (O Z Z (Zp Yu Z Z Z (O Z Z (Zn (ai) A22 Z Z Z ?_)))))))
 obtain ⟨b4, aO, hm⟩ := Zg hm
 refine O Z Z (Tc Z Z Z (Zi Z Qk) (Ji aO ai (af.mono (Zt (Zt (Zt (Zt a b) d) f) g))).r ?_)
 rintro u bt ⟨bl, _, i, ay, rfl⟩
 refine O Z Z (Exec.build Z (Qc (c := [u]) (Qh Z (QX ay.arr_one)) (Qc (c := [Vb true]) (Qh Z Z) Qu)) (v := Value.agg #[u, Vn, Vn, Vb true]) (fun _ => by kernel_rfl) (O Z Z (Exec.box (cs := [u, Vn, Vn, Vb true]) ay Z Z Z ?_)))
 intro j bu az
 refine O Z Z (Zo (v := Vq j) Z Z (Zb (V (Zc (Zd (O Z Z (Zm (v := Vq j) Z Z (O Z Z (Ql (ds := [ab, ac, ad, ae]) (az.f2) A26 Z Z Z (O Z Z (Zm (v := ag) Z Z (O Z Z (Zm (v := U al) Z Z (O Z Z (QeU Z Z Z (O Z Z (Qc5 Z Z Z ?_)))))))))))))))))
 obtain ⟨aX, aP, hm⟩ := Zg hm
 obtain ⟨k, h, b6, aZ⟩ := aX
 replace hm := Qhx hm
 refine O Z Z (Tc Z Z Z (Zi Z (Zi Z (Zi Z (Zi Z Qk)))) (YP aP (az.f1).f1 (af.mono (Zt (Zt (Zt (Zt (Zt a b) d) f) g) i)) (ao.mono (Zt (Zt (Zt (Zt (Zt a b) d) f) g) i)) (ap.mono (Zt (Zt (Zt (Zt (Zt a b) d) f) g) i)) (aq.mono (Zt (Zt (Zt (Zt (Zt a b) d) f) g) i)) (ar.mono (Zt (Zt (Zt (Zt (Zt a b) d) f) g) i))).r ?_)
 rintro _ bv ⟨aW, x, y, z, aD, ak, aH, rfl, a4, a5, a6⟩
 refine O Z Z (Zm (v := Value.tuple #[Value.agg #[U (h.States), U (h.Init), x, y, z], QD 50 (k)]) Z Z (O Z Z (Exec.extract (v := Value.agg #[U (h.States), U (h.Init), x, y, z]) Z Z Z (O Z Z (Exec.extract (v := QD 50 (k)) Z Z Z (O Z Z (Exec.alloc (cs := [U 0, U 0, Vn, Vn, Vn]) aH Z38 Z Z ?_)))))))
 intro bc bw aI
 refine O Z Z (Qe (ds := [U (h.States), U (h.Init), x, y, z]) (es := [U (h.States), U (h.Init), x, y, z]) aI KS Z Z Z Z (Zj Z (Zj Z (Zj a4.one (Zj a5.one (Zj a6.one Q5))))) (Nat.le_of_ble_eq_true Z) Z ?_)
 intro bx aj
 refine O Z Z (Zo (v := QD 50 (k)) Z Z (Zb (V (Zc (Zc (Zd (O Z Z (Zm (v := QD 50 (k)) Z Z (O Z Z (Jj (T := 50) Tryz.underlying32 Z Z Z (Zb (V ?_))))))))))))
 rcases Qf hm with ⟨p, hm⟩ | ⟨p, hm⟩
 ·refine Qr Z p (Zc (Zd (O Z Z (Zm (v := QD 50 (k)) Z Z (O Z Z (Zo (v := Vp none) Z Z (O Z Z (Zo (v := QD 50 (k)) Z Z (Zb (V (Q0 (Qi ?_))))))))))))
  have bf := Zu hm
  subst r
  refine ⟨_, QbU Z, ?_⟩
  refine (Or.inr ⟨Z, ?_⟩); exact ⟨aW, (Zt (Zt (Zt (Zt (Zt (Zt a b) d) f) g) i) ak), ((((aj.drop).drop).drop).drop).drop, (Yp Z Z)⟩
 refine Qs Z p ?_
 replace p := Zk p
 refine Qq (V (Zc (Zc (Zd (O Z Z (Zm (v := Vq j) Z Z (O Z Z (Ql (ds := [U (h.States), U (h.Init), x, y, z]) (aj) KS Z Z Z ?_))))))))
 obtain ⟨aY, aQ, hm⟩ := Zg hm
 obtain ⟨b5, l⟩ := aY
 replace hm := Jp hm
 refine O Z Z (Tc Z Z Z (Zi Z Qk) (QcU aQ aj a4 a5 a6).r ?_)
 rintro _ bz ⟨a8, aa, a1, aJ, rfl, am⟩
 refine O Z Z (Zm (v := Value.tuple #[aa, QD 50 (l)]) Z Z (O Z Z (Exec.extract (v := aa) Z Z Z (O Z Z (Exec.extract (v := QD 50 (l)) Z Z Z (O Z Z (QI Z Z (O Z Z (Zp Qlm Z Z Z (O Z Z (Qe (ds := [aa]) (es := [u, aD, aa, Vb aZ]) aJ.f1 A22 Z Z Z (QX am.one) (Zj am.one Q5) (Nat.le_of_ble_eq_true Z) Z ?_)))))))))))
 intro b0 a0
 refine O Z Z (Zo (v := QD 50 (l)) Z Z (Zb (V (Zc (Zd (O Z Z (Zm (v := QD 50 (l)) Z Z (O Z Z (Jj (T := 50) Tryz.underlying32 Z Z Z (Zb (V ?_)))))))))))
 rcases Qf hm with ⟨q, hm⟩ | ⟨q, hm⟩
 ·refine Qr Z q (Zc (Zd (O Z Z (Zm (v := QD 50 (l)) Z Z (O Z Z (Zo (v := Vp none) Z Z (O Z Z (Zo (v := QD 50 (l)) Z Z (Zb (V (Q0 (Qi ?_))))))))))))
  have bg := Zu hm
  subst r
  refine ⟨_, QbU Z, ?_⟩
  refine (Or.inr ⟨Z, ?_⟩); exact ⟨a8, (Zt (Zt (Zt (Zt (Zt (Zt (Zt a b) d) f) g) i) ak) a1), ((((a0.drop).drop).drop).drop).drop, (Yp Z Z)⟩
 refine Qs Z q ?_
 replace q := Zk q
 refine Qq (V (Zc (Zd (O Z Z (Zm (v := Vq j) Z Z (O Z Z (Zo (v := Vq j) Z Z (O Z Z (Zo (v := QD 50 (none)) Z Z (Zb (V (Q0 ?_))))))))))))
 have bh := Zu hm
 subst r
 refine ⟨_, QbU Z, ?_⟩
 refine (Or.inl ⟨_, Z, ?_⟩); exact ⟨a8, aa, j, u, aD, (Zt (Zt (Zt (Zt (Zt (Zt (Zt a b) d) f) g) i) ak) a1), ((((((a0.f1).drop).f3).drop).f2).f2).f2, (Yp Z Z), am⟩
theorem QnZ : Jt Tryz.prog 74 0 = some 0 := by kernel_rfl
theorem Qe7 {w0 w : World} {s : PHeap} {H : List Res} {i : (List Int)} {o : (List Int)} {b : Value} {g : Value} {r : Bool} (hm : Yy i o = some r) (hS : St w0 s (Res.arr (Qa .i64) 3 b i :: H) w) (u : SliceRep (Qa .i64) s g o) :
  Calls Tryz.prog 42 #[b, g] w fun e w' => ∃ v, e = .returned v ∧ ((fun (aM : Bool) => ∃ (al : PHeap) , PHeap.le s al ∧ St w0 al (Res.arr (Qa .i64) 3 b i :: H) w' ∧ v = Value.bool (aM)) r) := by
 unfold Yy at hm
 refine Qw Tryz.func42 Z Z (Zc (Zd (O Z Z (Zo (v := Vb false) Z Z (Zb (V (Zc (Zc (Zd (O Z Z (Zm (v := g) Z Z (O Z Z (Zr JG Z Z u (O Z Z (Zm (v := b) Z Z (O Z Z (QP (hS) JG Z Z (O Z Z (Exec.neq Z Z Z (Zb (V ?_)))))))))))))))))))))
 rcases Qf hm with ⟨l, hm⟩ | ⟨l, hm⟩
 ·refine Qr Z l (Zc (Zd (O Z Z (Zo (v := Vb false) Z Z (Zb (V (Q0 (Qi ?_))))))))
  have aP := Zu hm
  subst r
  refine ⟨_, QW Z, ?_⟩
  exact ⟨s, (Zv _), hS, Z⟩
 refine Qs Z l ?_
 replace l := Zk l
 refine Qq (V (Zc (Zc (Zd (O Z Z (Zm (v := g) Z Z (O Z Z (Zr JG Z Z u (O Z Z (Zm (v := U 0) Z Z (Zb (V ?_))))))))))))
 obtain ⟨ad, ar, a4, a2, a0⟩ := QN hm
 refine QK (M := fun f' w' => ∃ s', (ad = .next s' ∨ ad = .brk s') ∧ (fun (_ : Unit) => ∃ (am : PHeap) , PHeap.le s am ∧ St w0 am (Res.arr (Qa .i64) 3 b i :: H) w' ∧ f' 0 = b ∧ f' 12 = g ∧ f' 13 = U ((o.length : Int))) s') ?_ ?_
 ·refine Qo (JI (fun k' s' f' w' => (fun (_ : Unit) => ∃ (an : PHeap) , PHeap.le s an ∧ St w0 an (Res.arr (Qa .i64) 3 b i :: H) w' ∧ f' 0 = b ∧ f' 12 = g ∧ f' 13 = U ((o.length : Int)) ∧ f' 14 = U (k' : Int)) s') ar ?_ ?_ ?_)
  ·exact ⟨s, (Zv _), hS, Z, Z, Z, Z⟩
  ·intro n bf ae aW bk a1 au c a5
   obtain ⟨ac, y, j, z, aa, ab, p⟩ := au
   refine Zc (Zd (O Z Z (Zq Z p ab (Zb (V (Zc (QL (Zx (decide_eq_true (by omega))) (Qq (V (Zc (Qo (Zc (Zd (O Z Z (Zm (v := U ((n : Int))) Z p ?_)))))))))))))))
   obtain ⟨q, aF, c⟩ := Zg c
   refine O Z Z (Qy JG Z aa p (u.mono y) aF ?_)
   intro aN bb aq
   refine O Z Z (Zw (E := (Qa .i64)) j A3 Z Z Z aq ?_)
   intro bi aG
   obtain rfl := Qv.1 aG
   refine O Z Z (Zo (v := U ((n : Int))) Z Z (O Z Z (Zo (v := U q) Z Z (Zb (V (Zc ?_))))))
   obtain ⟨t, d, c⟩ := Zg c
   refine QK (M := fun f' w' => (fun (t : Bool) => ∃ (ao : PHeap) , PHeap.le ac ao ∧ St w0 ao (Res.arr (Qa .i64) 3 b i :: H) w' ∧ f' 0 = b ∧ f' 12 = g ∧ f' 13 = U ((o.length : Int)) ∧ f' 14 = U ((n : Int)) ∧ f' 28 = Vb t) t) ?_ ?_
   ·refine Zd (O Z Z (Zm (v := U q) Z Z (O Z Z (Zq Z Z Z (O Z Z (Zm (v := Vb (decide (q < 0))) Z Z ?_))))))
    rcases Qf d with ⟨a, d⟩ | ⟨a, d⟩
    ·refine Qx 7 (by rw [a]; rfl) ?_
     refine Zb (V ?_)
     have aQ := Zu d
     subst t
     exact ⟨ac, (Zv _), j, z, aa, ab, p, Z⟩
    replace a := Zk a
    refine Qj Z (Zf Z (Zx a)) Z (Zm (v := U q) Z Z (Qj Z (Zf Z (Zx a)) Z (Zm (v := b) Z z (Qj Z (Zf Z (Zx a)) Z (Zm (v := U ((n : Int))) Z Z ?_)))))
    obtain ⟨aK, x, d⟩ := Zg d
    obtain ⟨ba, aO, af⟩ := j.arr_at x
    refine Qj Z (Zf Z (Zx a)) Z (Qd JG Z af Z (Qg x).1 (Qg x).2.1 (Qj Z (Zf Z (Zx a)) Z (Qt (F := (Qa .i64)) (j) af A3 Z Z Z x (Sub.refl _) ?_)))
    intro bj aH
    obtain rfl := Qv.1 aH
    refine Qj Z (Zf Z (Zx a)) Z (Exec.geq Z Z Z (O Z Z (Q8 (v := Vb (decide (aK ≤ q))) Z (Zx a) Z (Zb (V ?_)))))
    have aR := Zu d
    subst t
    exact ⟨ac, (Zv _), j, z, aa, ab, p, Z⟩
   intro aX bl aw
   obtain ⟨ap, ai, ag, a9, aA, aB, aC, aj⟩ := aw
   refine (V ?_)
   rcases Qf c with ⟨m, c⟩ | ⟨m, c⟩
   ·refine Qr aj m (Zc (Zd (O Z Z (Zo (v := Vb false) Z Z (Zb (V (Q0 (QC (Qi (Qi (QC (Qi (Qi ?_)))))))))))))
    have aS := Zu c
    subst ae
    have a3 := a4 _ (a5 (by intro _ h; cases h))
    have aT := Zu a3
    subst r
    refine ⟨_, QW Z, ?_⟩
    exact ⟨ap, (Zt y ai), ag, Z⟩
   refine Qs aj m ?_
   replace m := Zk m
   refine Qq (Qz (V (Zd (O Z Z (Exec.add Z aC Z (O Z Z (Zm (v := U (IntKind.i64.wrap ((n : Int) + 1))) Z Z (Zb (V ?_)))))))))
   have aU := Zu c
   subst ae
   refine ⟨_, Z, ?_⟩; exact ⟨ap, (Zt y ai), ag, a9, aA, aB, (Eq.trans Z (QF a1 (SliceRep.le u)))⟩
  intro bg aY bm av a6
  obtain ⟨aI, a7, ay, aD, aE, ak, aL⟩ := av
  refine Zc (Zd (O Z Z (Zq Z aL ak (Zb (V (Zc (QB (Zx (decide_eq_false (by omega))) (QJ (Qn (Qn (Q9 (V ?_))))))))))))
  refine ⟨_, .inl a6, ?_⟩; exact ⟨aI, a7, ay, aD, aE, ak⟩
 rintro aZ bn ⟨bh, ah, ax⟩
 have hm := ah.elim (a2 _) (a0 _)
 clear ah
 obtain ⟨aJ, a8, az, bc, bd, be⟩ := ax
 refine (V (Zc (Zd (O Z Z (Zo (v := Vb true) Z Z (Zb (V (Q0 ?_))))))))
 have aV := Zu hm
 subst r
 refine ⟨_, QW Z, ?_⟩
 exact ⟨aJ, a8, az, Z⟩
theorem QnY : Jt Tryz.prog 87 0 = some 0 := by kernel_rfl
theorem Ju {w0 w : World} {s : PHeap} {H : List Res} {a : mergeshrink_Abstraction} {au : (List Int)} {b : Nat} {h : Value} {c : Value} {t : Value} {j : Value} {r : Int} (hm : Q1 a au = some r) (hS : St w0 s (Res.box b 74 [h, c, t, Value.bool (a.exact)] :: Res.arr (Qa .i64) 3 h a.vars :: Res.arr encmergeshrink_stage 87 c a.stages :: H) w) (ax : SliceRep (Qa .i64) s t a.distance) (ai : SliceRep (Qa .i64) s j au) :
  Calls Tryz.prog 19 #[Value.pointer (some ⟨b, 0, none⟩), j] w fun e w' => ∃ v, e = .returned v ∧ ((fun (bc : Int) => ∃ (ap : PHeap) , PHeap.le s ap ∧ St w0 ap (Res.box b 74 [h, c, t, Value.bool (a.exact)] :: Res.arr (Qa .i64) 3 h a.vars :: Res.arr encmergeshrink_stage 87 c a.stages :: H) w' ∧ v = U bc) r) := by
 unfold Q1 at hm
 refine Qw Tryz.func19 Z Z (Zc (Zd (O Z Z (Zo (v := U 0) Z Z (Zb (V (Zc (Zc (Zd (O Z Z (Zm (v := Vq b) Z Z (O Z Z (Kh Tryz.underlying30 Z Z Z (O Z Z (Zm (v := Vb false) Z Z (Qj Z (Zf Z Z) Z (Zm (v := Vq b) Z Z (Qj Z (Zf Z Z) Z (QI Z Z (Qj Z (Zf Z Z) Z (Zp QnZ Z Z Z (Qj Z (Zf Z Z) Z (Zn (hS) A22 Z Z Z (Qj Z (Zf Z Z) Z (Zm (v := j) Z Z ?_)))))))))))))))))))))))))
 obtain ⟨bd, aM, hm⟩ := Zg hm
 refine Qj Z (Zf Z Z) Z (Tc Z Z Z (Zi Z (Zi Z Qk)) (Qe7 aM hS.f1 ai).r ?_)
 rintro _ b8 ⟨ag, z, n, rfl⟩
 refine Qj Z (Zf Z Z) Z (Exec.not Z Z (O Z Z (Q8 (v := Vb (!bd)) Z Z Z (Zb (V ?_)))))
 rcases Qf hm with ⟨o, hm⟩ | ⟨o, hm⟩
 ·refine Qr Z o (Zc (Zd (O Z Z (Zo (v := U 1125899906842624) Z Z (Zb (V (Q0 (Qi ?_))))))))
  have bk := Zu hm
  subst r
  refine ⟨_, QW Z, ?_⟩
  exact ⟨ag, z, ((n.f2).f1).f2, Z⟩
 refine Qs Z o ?_
 replace o := Zk o
 refine Qq (V (Zc (Zd (O Z Z (Zo (v := U 0) Z Z (Zb (V (Zc (Zc (Zd (O Z Z (Zm (v := Vq b) Z Z (O Z Z (QI Z Z (O Z Z (Zp QfE Z Z Z (O Z Z (Zn (n.f1) A72 Z Z Z (O Z Z (QP (n.f2) S72 Z Z (O Z Z (Zm (v := U 0) Z Z (Zb (V ?_))))))))))))))))))))))))
 obtain ⟨l, a2, hm⟩ := Zg hm
 refine Qo (JZ (fun k' s' f' w' => (fun (l : Int) => ∃ (aq : PHeap) , PHeap.le ag aq ∧ St w0 aq (Res.box b 74 [h, c, t, Vb (a.exact)] :: Res.arr (Qa .i64) 3 h a.vars :: Res.arr encmergeshrink_stage 87 c a.stages :: H) w' ∧ f' 0 = Vq b ∧ f' 1 = j ∧ f' 5 = U l ∧ f' 23 = c ∧ f' 24 = U ((a.stages.length : Int)) ∧ f' 25 = U (k' : Int)) s') a2 ?_ ?_ ?_)
 ·have a6 := n.f2
  exact ⟨ag, (Zv _), (a6.f1).f2, Z, Z, Z, Z, Z, Z⟩
 ·intro q l aW bs b9 aA a3 g
  obtain ⟨ah, ak, ab, am, ad, aC, ae, af, u⟩ := a3
  refine Zc (Zd (O Z Z (Zq Z u af (Zb (V (Zc (QL (Zx (decide_eq_true (by omega))) (Qq (V (Zc (Qo (Zc (Zd (O Z Z (Zm (v := U ((q : Int))) Z u ?_)))))))))))))))
  obtain ⟨x, aa, g⟩ := Zg g
  obtain ⟨bv, bj, aj⟩ := (ab.f2).arr_at aa
  refine O Z Z (Qd S72 Z (Eq.trans ae aj) u (Qg aa).1 (Qg aa).2.1 (O Z Z (Qt (F := encmergeshrink_stage) (ab.f2) aj A87 Z Z Z aa (Sub.refl _) ?_)))
  intro b3 aN
  obtain ⟨av, aw, rfl, an, ao⟩ := Qck.1 aN
  refine O Z Z (Exec.alloc (cs := [U 0, Vn, Vn, U 0]) ab Z87 Z Z ?_)
  intro be bA a7
  refine O Z Z (Zo (v := U ((q : Int))) Z Z (O Z Z (Qe (ds := [U (x.variable_), av, aw, U (x.states)]) (es := [U (x.variable_), av, aw, U (x.states)]) a7 A87 Z Z Z Z (Zj Z (Zj an.one (Zj ao.one (Zj Z Q5)))) (Nat.le_of_ble_eq_true Z) Z ?_)))
  intro bB a8
  refine Zb (V (Zc (KT (n0 := 9) (qs 0 9 .done) Yc (by kernel_rfl) (by kernel_rfl) ?_)))
  have d := a8.drew
  refine Qm Z Z (Zp Qll Z Z Z ⟨Z, ?_⟩)
  refine Qm Z Z (Zn (d) A22 Z Z Z ⟨Z, ?_⟩)
  refine Qm Z Z (Zm (v := j) Z ad ⟨Z, ?_⟩)
  refine Qm Z Z (Zp QnY Z Z Z ⟨Z, ?_⟩)
  refine Qm Z Z (Zn (d) A3 Z Z Z ⟨Z, ?_⟩)
  obtain ⟨bE, aO, g⟩ := Zg g
  refine Qm Z Z (QT JG Z Z Z (ai.mono (Zt z ak)) aO ?_)
  intro bf bw ay bl
  refine ⟨Z, ?_⟩
  refine Qm Z Z (Zw (E := (Qa .i64)) d A3 Z Z Z ay ?_)
  intro b4 aP
  obtain rfl := Qv.1 aP
  refine ⟨Z, ?_⟩
  obtain ⟨y, aQ, g⟩ := Zg g
  refine Qm Z Z (QT JG Z Z Z an aQ ?_)
  intro bg bx az bm
  refine ⟨Z, ?_⟩
  refine Qm Z Z (Zw (E := (Qa .i64)) d A3 Z Z Z az ?_)
  intro b5 aR
  obtain rfl := Qv.1 aR
  refine ⟨Z, ?_⟩
  refine QG (O Z Z (Zo (v := U y) Z Z (Zb (V (Zc (Zd (O Z Z (Zm (v := U ((q : Int))) Z Z (O Z Z (Exec.eql Z Z Z (Zb (V ?_))))))))))))
  obtain ⟨m, i, g⟩ := Zg g
  refine QK (M := fun f' w' => (fun (m : Int) => ∃ (ar : PHeap) , PHeap.le ah ar ∧ St w0 ar (Res.box b 74 [h, c, t, Vb (a.exact)] :: Res.arr (Qa .i64) 3 h a.vars :: Res.arr encmergeshrink_stage 87 c a.stages :: H) w' ∧ f' 0 = Vq b ∧ f' 1 = j ∧ f' 5 = U m ∧ f' 23 = c ∧ f' 24 = U ((a.stages.length : Int)) ∧ f' 25 = U ((q : Int))) m) ?_ ?_
  ·rcases Qf i with ⟨p, i⟩ | ⟨p, i⟩
   ·refine Qr Z p (Zd (O Z Z (Zm (v := U y) Z Z (O Z Z (Zo (v := U y) Z Z (Zb (V ?_)))))))
    have bn := Zu i
    subst m
    exact ⟨ah, (Zv _), (((d.drop).f2).f2).f2, am, ad, Z, ae, af, u⟩
   refine Qs Z p ?_
   replace p := Zk p
   refine KT (n0 := 10) (qs 0 10 .done) Yc (by kernel_rfl) (by kernel_rfl) (Qm Z Z (Zp Qnj Z Z Z ⟨Z, ?_⟩))
   refine Qm Z Z (Zn (d.drew) A22 Z Z Z ⟨Z, ?_⟩)
   refine Qm Z Z (Zm (v := U l) Z aC ⟨Z, ?_⟩)
   obtain ⟨aZ, aS, i⟩ := Zg i
   refine Qm Z Z (QT JG Z Z Z ao aS ?_)
   intro bh bz a0 bo
   refine ⟨Z, ?_⟩
   refine Qm Z Z (Zw (E := (Qa .i64)) d.drew A3 Z Z Z a0 ?_)
   intro b6 aT
   obtain rfl := Qv.1 aT
   refine ⟨Z, ?_⟩
   refine Qm Z Z (Zp Qlk Z Z Z ⟨Z, ?_⟩)
   refine Qm Z Z (Zn (d.drew) A3 Z Z Z ⟨Z, ?_⟩)
   refine Qm Z Z (Exec.mul Z Z Z ⟨Z, ?_⟩)
   refine Qm Z Z (Zm (v := U y) Z Z ⟨Z, ?_⟩)
   refine Qm Z Z (Exec.add Z Z Z ⟨Z, ?_⟩)
   refine QG (O Z Z (Zo (v := U (IntKind.i64.wrap ((IntKind.i64.wrap (aZ * x.states)) + y))) Z Z (Zb (V ?_))))
   have bp := Zu i
   subst m
   exact ⟨ah, (Zv _), ((((d.drew).drop).f2).f2).f2, am, ad, Z, ae, af, u⟩
  intro bt bC a5
  obtain ⟨aX, aB, a9, aD, aE, aF, aG, aH, aI⟩ := a5
  refine (Qz (V (Zd (O Z Z (Exec.add Z aI Z (O Z Z (Zm (v := U (IntKind.i64.wrap ((q : Int) + 1))) Z Z (Zb (V ?_)))))))))
  have bq := Zu g
  subst aW
  exact ⟨aX, (Zt ak aB), ((a9.f2).f2).f2, aD, aE, aF, aG, aH, (Eq.trans Z (QF aA (n.f2).arr_le))⟩
 intro bu bD a4
 obtain ⟨aY, al, ac, aJ, b1, aK, b2, aL, ba⟩ := a4
 refine Zc (Zd (O Z Z (Zq Z ba aL (Zb (V (Zc (QB (Zx (decide_eq_false (by omega))) (QJ (Qn (Qn (Q9 (V (Zc (Zd (O Z Z (Zm (v := Vq b) Z aJ (O Z Z (QI Z Z (O Z Z (Zp Qlm Z Z Z (O Z Z (Zn (ac) A22 Z Z Z (O Z Z (Zm (v := U l) Z aK ?_))))))))))))))))))))))))
 obtain ⟨bb, aU, hm⟩ := Zg hm
 refine O Z Z (Qy JG Z Z Z (ax.mono (Zt z al)) aU ?_)
 intro bi b0 a1
 refine O Z Z (Zw (E := (Qa .i64)) ac A3 Z Z Z a1 ?_)
 intro b7 aV
 obtain rfl := Qv.1 aV
 refine O Z Z (Zo (v := U bb) Z Z (Zb (V (Q0 ?_))))
 have br := Zu hm
 subst r
 refine ⟨_, QW Z, ?_⟩
 exact ⟨aY, (Zt z al), ((ac.f2).f2).f2, Z⟩
theorem Kp {w0 w : World} {s : PHeap} {H : List Res} {a : mergeshrink_Abstraction} {b : Nat} {c : Value} {d : Value} {f : Value} {r : Int} (hm : J4 a = some r) (hS : St w0 s (Res.box b 74 [c, d, f, Value.bool (a.exact)] :: Res.arr (Qa .i64) 3 c a.vars :: Res.arr encmergeshrink_stage 87 d a.stages :: H) w) (h : SliceRep (Qa .i64) s f a.distance) :
  Calls Tryz.prog 15 #[Value.pointer (some ⟨b, 0, none⟩)] w fun e w' => ∃ v, e = .returned v ∧ ((fun (i : Int) => ∃ (g : PHeap) , PHeap.le s g ∧ St w0 g (Res.box b 74 [c, d, f, Value.bool (a.exact)] :: Res.arr (Qa .i64) 3 c a.vars :: Res.arr encmergeshrink_stage 87 d a.stages :: H) w' ∧ v = U i) r) := by
 unfold J4 at hm
 refine Qw Tryz.func15 Z Z (Zc (Zd (O Z Z (Zo (v := U 0) Z Z (Zb (V (Zc (Zc (Zd (O Z Z (Zm (v := Vq b) Z Z (O Z Z (Kh Tryz.underlying30 Z Z Z (Zb (V (QB Z (Qq (V (Zc (Zd (O Z Z (Zm (v := Vq b) Z Z (O Z Z (QI Z Z (O Z Z (Zp Qlm Z Z Z (O Z Z (Zn (hS) A22 Z Z Z (O Z Z (Zr JG Z Z h (O Z Z (Zo (v := U ((a.distance.length : Int))) Z Z (Zb (V (Q0 ?_)))))))))))))))))))))))))))))))))))
 have j := Zu hm
 subst r
 refine ⟨_, QW Z, ?_⟩
 exact ⟨s, (Zv _), ((hS.f2).f2).f2, Z⟩
theorem Kl {w0 w : World} {s : PHeap} {H : List Res} {a : mergeshrink_Abstraction} {b : Nat} {c : Value} {d : Value} {f : Value} {r : Bool} (hm : Jz a = some r) (hS : St w0 s (Res.box b 74 [c, d, f, Value.bool (a.exact)] :: Res.arr (Qa .i64) 3 c a.vars :: Res.arr encmergeshrink_stage 87 d a.stages :: H) w) (i : SliceRep (Qa .i64) s f a.distance) :
  Calls Tryz.prog 16 #[Value.pointer (some ⟨b, 0, none⟩)] w fun e w' => ∃ v, e = .returned v ∧ ((fun (h : Bool) => ∃ (g : PHeap) , PHeap.le s g ∧ St w0 g (Res.box b 74 [c, d, f, Value.bool (a.exact)] :: Res.arr (Qa .i64) 3 c a.vars :: Res.arr encmergeshrink_stage 87 d a.stages :: H) w' ∧ v = Value.bool (h)) r) := by
 unfold Jz at hm
 refine Qw Tryz.func16 Z Z (Zc (Zd (O Z Z (Zo (v := Vb false) Z Z (Zb (V (Zc (Zd (O Z Z (Zm (v := Vq b) Z Z (O Z Z (Qc6 Tryz.underlying30 Z Z Z (O Z Z (Zm (v := Vb true) Z Z (Qj Z (Zf Z Z) Z (Zm (v := Vq b) Z Z (Qj Z (Zf Z Z) Z (QI Z Z (Qj Z (Zf Z Z) Z (Zp QjN Z Z Z (Qj Z (Zf Z Z) Z (Zn (hS) A4 Z Z Z (Qx 2 Z (Zb (V (Q0 ?_))))))))))))))))))))))))))
 have j := Zu hm
 subst r
 refine ⟨_, QW Z, ?_⟩
 exact ⟨s, (Zv _), ((hS.f2).f2).f2, Z⟩
end Go.Pw
