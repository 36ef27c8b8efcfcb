/- -/
import Derived.Test.YtcpkjkmbdolfnaaGreatDoorLD
import Derived.Test.YtcpkjkmbdolfnaaGreatDoorLC
import Derived.Test.YtcpkjkmbdolfnaaGreatDoorMb7
import Derived.Test.YtcpkjkmbdolfnaaGreatDoorMbX2
set_option maxRecDepth 100000
set_option maxHeartbeats 4000000
set_option linter.unusedVariables false
namespace Go.Pw
open Go.Proofs
attribute [local irreducible] Exec WL W andThen Y2 DL QW
theorem QdE {w0 w : World} {s : PHeap} {H : List Res} {b : System} {a : System} {ab : Value} {ac : Value} {ad : Value} {x : Value} {y : Value} {z : Value} {r : (Option Int) × System} (hm : KJ b a = some r) (hS : St w0 s (H) w) (bx : SliceRep (U .i64) s ab b.Costs) (bz : SliceRep encEdge s ac b.Edges) (aP : SliceRep encBool s ad b.Goals) (b0 : SliceRep (U .i64) s x a.Costs) (b1 : SliceRep encEdge s y a.Edges) (aQ : SliceRep encBool s z a.Goals) :
  Calls Tryz.prog 42 #[Value.agg #[O (b.States), O (b.Init), ab, ac, ad], Value.agg #[O (a.States), O (a.Init), x, y, z]] w fun e w' => ∃ v, e = .returned v ∧ ((QM fun (d0 : (Option Int)) (au : System) => ∃ (ao : PHeap) (br : Value) (bs : Value) (bt : Value), PHeap.le s ao ∧ St w0 ao (H) w' ∧ v = Value.tuple #[Value.agg #[O (au.States), O (au.Init), br, bs, bt], Qaw 57 (d0)] ∧ SliceRep (U .i64) ao br au.Costs ∧ SliceRep encEdge ao bs au.Edges ∧ SliceRep encBool ao bt au.Goals) r) := by
 unfold KJ at hm
 refine Qj Tryz.func42 Z Z (G ?_)
 refine JY Z Z ?_
 intro aa fA et
 refine G ?_
 refine JY Z Z ?_
 intro l fB bV
 refine G ?_
 refine Exec.alloc (cs := [O 0, O 0, Vn, Vn, Vn]) bV Z38 Z Z ?_
 intro m fC bW
 obtain ⟨aN, o, hm⟩ := V hm
 refine g ?_
 refine Zc (Zc (Qo (M := fun f' w' => (fun (aN : Bool) => ∃ (bg : PHeap) , PHeap.le s bg ∧ St w0 bg (Res.box aa 38 [O (b.States), O (b.Init), ab, ac, ad] :: Res.box l 38 [O (a.States), O (a.Init), x, y, z] :: Res.box m 38 [O 0, O 0, Vn, Vn, Vn] :: H) w' ∧ Fx f' [(2, Vq aa), (3, Vq l), (4, Vq m), (33, Vb aN)]) aN) ?_ ?_))
 ·obtain ⟨g0, cH, o⟩ := V o
  refine G ?_
  refine Tc Z Z Z Z (KI cH bW bx bz aP).r ?_
  rintro _ fD ⟨fd, e9, bX, rfl⟩
  refine G ?_
  rcases Qp o with ⟨c2, o⟩ | ⟨c2, o⟩
  ·cases o
   refine G ?_
   exact fq
  obtain ⟨g1, cI, o⟩ := V o
  refine G ?_
  refine Tc Z Z Z Z (KI cI bX rq rq rq).r ?_
  rintro _ fE ⟨fe, eA, bY, rfl⟩
  refine G ?_
  rcases Qp o with ⟨c3, o⟩ | ⟨c3, o⟩
  ·cases o
   refine G ?_
   exact fq
  obtain ⟨g2, cJ, o⟩ := V o
  refine G ?_
  refine Tc Z Z Z Z (Y1 cJ bY rq rq).r ?_
  rintro _ fF ⟨ff, eB, eu, rfl⟩
  cases o
  refine G ?_
  exact fq
 intro dN fG bS
 obtain ⟨dk, am, bZ, ⟨dO, rfl⟩⟩ := bS
 refine G ?_
 rcases Qp hm with ⟨c4, hm⟩ | ⟨c4, hm⟩
 ·refine G ?_
  refine Exec.build Z Qh (v := Value.agg #[O 0, O 0, Vn, Vn, Vn]) (fun _ => by kernel_rfl) (G ?_)
  refine Exec.makeInterface C57 Z Z (G ?_)
  refine JU Z Z Z ?_
  intro fH ca
  cases hm
  refine G ?_
  refine ⟨_, Yg Z ⟨_, _, Z, Je (ca) A38.h⟩ Z, ?_⟩
  exact fq
 refine G ?_
 rcases Qp hm with ⟨aZ, hm⟩ | ⟨aZ, hm⟩
 ·refine G ?_
  refine Exec.build Z Qh (v := Value.agg #[O 0, O 0, Vn, Vn, Vn]) (fun _ => by kernel_rfl) (G ?_)
  refine Exec.makeInterface C57 Z Z (G ?_)
  refine JU Z Z Z ?_
  intro fI cb
  cases hm
  refine G ?_
  refine ⟨_, Yg Z ⟨_, _, Z, Je (cb) A38.h⟩ Z, ?_⟩
  exact fq
 obtain ⟨ae, bd, hm⟩ := V hm
 refine W_c Z aZ (QaN (J3 (Ze (Zc (Qo (M := fun f' w' => ∃ (bh : PHeap) (n : Nat) (j : Value), PHeap.le dk bh ∧ St w0 bh (Res.box aa 38 [O (b.States), O (b.Init), ab, ac, ad] :: Res.box l 38 [O (a.States), O (a.Init), x, y, z] :: Res.box m 38 [O 0, O 0, Vn, Vn, Vn] :: Res.box n 38 [O (IntKind.i64.wrap (b.States * a.States)), O (IntKind.i64.wrap ((IntKind.i64.wrap (b.Init * a.States)) + a.Init)), j, Vn, Vn] :: Res.arr (U .i64) 3 j ae :: H) w' ∧ Fx f' [(2, Vq aa), (3, Vq l), (4, Vq m), (6, Vq n)]) ?_ ?_)))))
 ·refine Jz (n0 := 18) (qs 0 15 (.alt (.e 15 [0, 1, 2, 3, 4, 5, 6, 7, 8, 9, 10, 11, 12] (.q 16 (.e 17 [0, 1, 2, 3, 4, 5, 6, 7, 8, 9, 10, 11, 12, 16] .done))) (.e 17 [0, 1, 2, 3, 4, 5, 6, 7, 8, 9, 10, 11, 12, 13, 14] (.e 15 [0, 1, 2, 3, 4, 5, 6, 7, 8, 9, 10, 11, 12] (.q 16 .done))))) J2 (by kernel_rfl) (by kernel_rfl) ?_
  have aS := bZ.drew
  refine G ?_
  refine KO ?_ ?_
  ·refine G ?_
   refine Tc Z Z Z Z (QF bd aS rq).r ?_
   rintro ay fJ ⟨fg, _, eC, aT, rfl⟩
   refine ⟨YD, ?_⟩
   refine G ?_
   refine Exec.build Z (Qc (c := [O (IntKind.i64.wrap (b.States * a.States))]) (Qe Z Z) (Qc (c := [O (IntKind.i64.wrap ((IntKind.i64.wrap (b.Init * a.States)) + a.Init))]) (Qe Z Z) (Qc (c := [ay]) (Qe Z (Ql aT.arr_one)) Qh))) (v := Value.agg #[O (IntKind.i64.wrap (b.States * a.States)), O (IntKind.i64.wrap ((IntKind.i64.wrap (b.Init * a.States)) + a.Init)), ay, Vn, Vn]) (fun _ => by kernel_rfl) ⟨Z, ?_⟩
   refine G ?_
   refine Exec.alloc (cs := [O 0, O 0, Vn, Vn, Vn]) aT Z38 Z Z ?_
   intro d1 fK ah
   refine ⟨(Qa (Qi Z Z (Zp F38_0.h Z Z Z ⟨Z, Z⟩)) (Qa (Qi Z Z (Zn (ah.f2) A3.h Z Z Z ⟨Z, Z⟩)) (Qa (Qi Z Z (Zp F38_0.h Z Z Z ⟨Z, Z⟩)) (Qa (Qi Z Z (Zn (ah.f3) A3.h Z Z Z ⟨Z, Z⟩)) (Qa (Qi Z Z (Exec.mul Z Z Z ⟨Z, Z⟩)) (Qa (Qi Z Z (Zp F38_1.h Z Z Z ⟨Z, Z⟩)) (Qa (Qi Z Z (Zn (ah.f2) A3.h Z Z Z ⟨Z, Z⟩)) (Qa (Qi Z Z (Zp F38_0.h Z Z Z ⟨Z, Z⟩)) (Qa (Qi Z Z (Zn (ah.f3) A3.h Z Z Z ⟨Z, Z⟩)) (Qa (Qi Z Z (Exec.mul Z Z Z ⟨Z, Z⟩)) (Qa (Qi Z Z (Zp F38_1.h Z Z Z ⟨Z, Z⟩)) (Qa (Qi Z Z (Zn (ah.f3) A3.h Z Z Z ⟨Z, Z⟩)) (Qa (Qi Z Z (Exec.add Z Z Z ⟨Z, Z⟩)) (Qa (Qi Z Z (Exec.build Z (Qc (c := [O (IntKind.i64.wrap (b.States * a.States))]) (Qe Z Z) (Qc (c := [O (IntKind.i64.wrap ((IntKind.i64.wrap (b.Init * a.States)) + a.Init))]) (Qe Z Z) (Qc (c := [ay]) (Qe Z (Ql (ah.f1).arr_one)) Qh))) (v := Value.agg #[O (IntKind.i64.wrap (b.States * a.States)), O (IntKind.i64.wrap ((IntKind.i64.wrap (b.Init * a.States)) + a.Init)), ay, Vn, Vn]) (fun _ => by kernel_rfl) ⟨Z, Z⟩)) Q1)))))))))))))), ?_⟩
   refine G ?_
   refine JU Z Z Z ?_
   intro fL ev
   refine G ?_
   exact fq
  refine G ?_
  refine Exec.alloc (cs := [O 0, O 0, Vn, Vn, Vn]) aS Z38 Z Z ?_
  intro d2 fM cc
  refine ⟨YD, ?_⟩
  refine G ?_
  refine Tc Z Z Z Z (QF bd cc rq).r ?_
  rintro bu fN ⟨fh, _, eD, cd, rfl⟩
  refine ⟨YD, ?_⟩
  refine G ?_
  refine Exec.build Z (Qc (c := [O (IntKind.i64.wrap (b.States * a.States))]) (Qe Z Z) (Qc (c := [O (IntKind.i64.wrap ((IntKind.i64.wrap (b.Init * a.States)) + a.Init))]) (Qe Z Z) (Qc (c := [bu]) (Qe Z (Ql cd.arr_one)) Qh))) (v := Value.agg #[O (IntKind.i64.wrap (b.States * a.States)), O (IntKind.i64.wrap ((IntKind.i64.wrap (b.Init * a.States)) + a.Init)), bu, Vn, Vn]) (fun _ => by kernel_rfl) ⟨Z, ?_⟩
  refine G ?_
  refine JU Z Z Z ?_
  intro fO ew
  refine G ?_
  exact fq
 intro dP fP bT
 obtain ⟨dl, n, j, an, ce, ⟨dQ, rfl⟩⟩ := bT
 obtain ⟨fv, cK, hm⟩ := V hm
 obtain ⟨ag, bA, hm⟩ := V hm
 refine G ?_
 refine QH (fun k' s' f' w' => (fun (ag : (List Bool)) => ∃ (bi : PHeap) (t : Value), PHeap.le dl bi ∧ St w0 bi (Res.box aa 38 [O (b.States), O (b.Init), ab, ac, ad] :: Res.box l 38 [O (a.States), O (a.Init), x, y, z] :: Res.box m 38 [O 0, O 0, Vn, Vn, Vn] :: Res.box n 38 [O (IntKind.i64.wrap (b.States * a.States)), O (IntKind.i64.wrap ((IntKind.i64.wrap (b.Init * a.States)) + a.Init)), j, Vn, t] :: Res.arr (U .i64) 3 j ae :: Res.arr encBool 4 t ag :: H) w' ∧ Fx f' [(63, O (k' : Int)), (2, Vq aa), (3, Vq l), (4, Vq m), (6, Vq n), (62, O (b.States))]) s') bA ?_ ?_ ?_
 ·have ex := ce.nilArr encBool 4
  exact fq
 ·intro aw ag dm dR fQ c7 bG ai
  obtain ⟨dn, t, ba, cf, ⟨dS, rfl⟩⟩ := bG
  obtain ⟨fw, cL, ai⟩ := V ai
  obtain ⟨aB, bB, ai⟩ := V ai
  refine G ?_
  refine QH (fun k' s' f' w' => (fun (aB : (List Bool)) => ∃ (bj : PHeap) (ap : Value), PHeap.le dn bj ∧ St w0 bj (Res.box aa 38 [O (b.States), O (b.Init), ab, ac, ad] :: Res.box l 38 [O (a.States), O (a.Init), x, y, z] :: Res.box m 38 [O 0, O 0, Vn, Vn, Vn] :: Res.box n 38 [O (IntKind.i64.wrap (b.States * a.States)), O (IntKind.i64.wrap ((IntKind.i64.wrap (b.Init * a.States)) + a.Init)), j, Vn, ap] :: Res.arr (U .i64) 3 j ae :: Res.arr encBool 4 ap aB :: H) w' ∧ Fx f' [(68, O (k' : Int)), (2, Vq aa), (3, Vq l), (4, Vq m), (6, Vq n), (7, O ((aw : Int))), (62, O (b.States)), (63, O ((aw : Int))), (67, O (a.States))]) s') bB ?_ ?_ ?_
  ·have ey := cf.f5
   exact fq
  ·intro cB aB dp dT fR c8 bH aA
   obtain ⟨aJ, ap, aC, cg, ⟨dU, rfl⟩⟩ := bH
   obtain ⟨ax, p, aA⟩ := V aA
   refine Zc (Zd (g ?_))
   refine Zc (QaO (Zx (decide_eq_true (by omega))) (J3 (Ze (Zc (Qae (Zc (Zd (g ?_))))))))
   refine Qo (M := fun f' w' => (fun (ax : (List Bool)) => ∃ (bk : PHeap) (az : Value), PHeap.le aJ bk ∧ St w0 bk (Res.box aa 38 [O (b.States), O (b.Init), ab, ac, ad] :: Res.box l 38 [O (a.States), O (a.Init), x, y, z] :: Res.box m 38 [O 0, O 0, Vn, Vn, Vn] :: Res.box n 38 [O (IntKind.i64.wrap (b.States * a.States)), O (IntKind.i64.wrap ((IntKind.i64.wrap (b.Init * a.States)) + a.Init)), j, Vn, az] :: Res.arr (U .i64) 3 j ae :: Res.arr encBool 4 az ax :: H) w' ∧ Fx f' [(2, Vq aa), (3, Vq l), (4, Vq m), (6, Vq n), (7, O ((aw : Int))), (62, O (b.States)), (63, O ((aw : Int))), (67, O (a.States)), (68, O ((cB : Int)))]) ax) ?_ ?_
   ·refine Jz (n0 := 16) (qs 0 14 (.e 14 [0, 1] (.e 15 [] .done))) J2 (by kernel_rfl) (by kernel_rfl) ?_
    have av := cg.drew
    obtain ⟨gx, cM, p⟩ := V p
    refine G ?_
    refine Qm S36.h Z Z Z (aP.mono (Zt (Zt (Zt am an) ba) aC)) cM ?_
    intro d3 eQ b2 dF
    refine ⟨Z, ?_⟩
    refine G ?_
    refine Zw (E := encBool) av A4.h Z Z Z b2 ?_
    intro fx cN
    obtain rfl := QC.1 cN
    refine ⟨Z, ?_⟩
    refine G ?_
    rcases Qp p with ⟨c5, p⟩ | ⟨c5, p⟩
    ·obtain ⟨a3, cO, p⟩ := V p
     refine G ?_
     refine Qm S36.h Z Z Z (aQ.mono (Zt (Zt (Zt am an) ba) aC)) cO ?_
     intro d4 eR b3 dG
     refine ⟨Z, ?_⟩
     refine G ?_
     refine Zw (E := encBool) av A4.h Z Z Z b3 ?_
     intro fy cP
     obtain rfl := QC.1 cP
     refine ⟨Z, ?_⟩
     refine G ?_
     refine Exec.buildSlice (Te := 4) (cs := [Vb a3]) av Z (Qc (c := [Vb a3]) (Qe Z Z) Qh) (fun _ => by kernel_rfl) ?_
     intro d5 fS ch
     refine ⟨YD, ?_⟩
     obtain ⟨eE, cQ, p⟩ := V p
     refine G ?_
     refine Qt (E := encBool) (ys := [a3]) ch.f6 S36.h Z4 Z (by decide) Z Z Z Z ⟨[Vb a3], [], Z, Z, Z⟩ Z cQ ?_
     intro aK fT a5
     refine ⟨YD, ?_⟩
     refine G ?_
     refine Qq (ds := [aK]) (es := [O (IntKind.i64.wrap (b.States * a.States)), O (IntKind.i64.wrap ((IntKind.i64.wrap (b.Init * a.States)) + a.Init)), j, Vn, aK]) a5.f4 A36.h Z Z Z (Ql ((a5.f4).f1).arr_one) (Zj ((a5.f4).f1).arr_one Ja) (Nat.le_of_ble_eq_true Z) Z ?_
     intro fU ci
     cases p
     refine G ?_
     exact ⟨aJ, aK, (Zv _), (((((ci.f1).f5).f2).f5).f5).f5, (Fx.mk)⟩
    refine G ?_
    refine Exec.buildSlice (Te := 4) (cs := [Vb false]) av Z (Qc (c := [Vb false]) (Qe Z Z) Qh) (fun _ => by kernel_rfl) ?_
    intro d6 fV cj
    refine ⟨YD, ?_⟩
    obtain ⟨eF, cR, p⟩ := V p
    refine G ?_
    refine Qt (E := encBool) (ys := [false]) cj.f6 S36.h Z4 Z (by decide) Z Z Z Z ⟨[Vb false], [], Z, Z, Z⟩ Z cR ?_
    intro aL fW a6
    refine ⟨Q1, ?_⟩
    refine G ?_
    refine Qq (ds := [aL]) (es := [O (IntKind.i64.wrap (b.States * a.States)), O (IntKind.i64.wrap ((IntKind.i64.wrap (b.Init * a.States)) + a.Init)), j, Vn, aL]) a6.f4 A36.h Z Z Z (Ql ((a6.f4).f1).arr_one) (Zj ((a6.f4).f1).arr_one Ja) (Nat.le_of_ble_eq_true Z) Z ?_
    intro fX ck
    have dH := Zu p
    subst ax
    refine G ?_
    exact ⟨aJ, aL, (Zv _), (((((ck.f1).f5).f2).f5).f5).f5, (Fx.mk)⟩
   intro dV fY bU
   obtain ⟨dq, az, cD, cl, ⟨dW, rfl⟩⟩ := bU
   have dI := Zu aA
   subst dp
   refine G ?_
   exact ⟨dq, az, (Zt aC cD), (((((cl.f5).f5).f5).f5).f5).f5, (Fx.mk (FxL.cons (QD c8 (by have h := Qr cL; simp at h; simp only [maxLen]; omega)) fxl))⟩
  intro dX fZ bI
  obtain ⟨dr, ap, eG, cm, ⟨dY, rfl⟩⟩ := bI
  have dJ := Zu ai
  subst dm
  refine G ?_
  exact ⟨dr, ap, lq, (((((cm.f5).f5).f5).f5).f5).f5, (Fx.mk (FxL.cons (QD c7 (by have h := Qr cK; simp at h; simp only [maxLen]; omega)) fxl))⟩
 intro dZ ga bJ
 obtain ⟨fi, t, aD, a7, ⟨ea, rfl⟩⟩ := bJ
 refine G ?_
 refine Jz (n0 := 5) (.q 0 (.q 2 (.e 1 [2] (.e 3 [] (.q 4 .done))))) J2 (by kernel_rfl) (by kernel_rfl) (G ?_)
 refine Q4 (ds := [O (b.States), O (b.Init), ab, ac, ad]) (a7.drew) A38.h Z Z Z ⟨Z, ?_⟩
 refine G ?_
 refine Q4 (ds := [O (a.States), O (a.Init), x, y, z]) ((a7.drew).f1) A38.h Z Z Z ⟨Z, ?_⟩
 obtain ⟨a4, cS, hm⟩ := V hm
 refine G ?_
 refine Tc Z Z Z Z (Qbq cS a7.drew rq rq rq).r ?_
 rintro a0 gb ⟨fj, _, aE, cn, rfl, di⟩
 refine ⟨YD, ?_⟩
 obtain ⟨g3, cT, hm⟩ := V hm
 refine G ?_
 refine Tc Z Z Z (Zi Z QT) (Qbq cT cn (b0.mono (Zt (Zt (Zt am an) aD) aE)) (b1.mono (Zt (Zt (Zt am an) aD) aE)) (aQ.mono (Zt (Zt (Zt am an) aD) aE))).r ?_
 rintro a1 gc ⟨dt, _, cE, co, rfl, be⟩
 refine ⟨Q1, ?_⟩
 obtain ⟨aI, bC, hm⟩ := V hm
 refine G ?_
 refine QH (fun k' s' f' w' => (fun (aI : Int) => ∃ (bl : PHeap) , PHeap.le dt bl ∧ St w0 bl (Res.box l 38 [O (a.States), O (a.Init), x, y, z] :: Res.box m 38 [O 0, O 0, Vn, Vn, Vn] :: Res.box n 38 [O (IntKind.i64.wrap (b.States * a.States)), O (IntKind.i64.wrap ((IntKind.i64.wrap (b.Init * a.States)) + a.Init)), j, Vn, t] :: Res.arr (U .i64) 3 j ae :: Res.arr encBool 4 t ag :: H) w' ∧ Fx f' [(96, O (k' : Int)), (3, Vq l), (4, Vq m), (6, Vq n), (9, a0), (10, a1), (11, O aI), (95, O ((a4.length : Int)))]) s') bC ?_ ?_ ?_
 ·have ez := co.drop
  exact fq
 ·intro e7 aI fk eb gd c9 bK aj
  obtain ⟨du, aF, a8, ⟨ec, rfl⟩⟩ := bK
  refine G ?_
  refine Jz (n0 := 13) (qs 0 13 .done) J2 (by kernel_rfl) (by kernel_rfl) ?_
  obtain ⟨gy, cU, aj⟩ := V aj
  refine G ?_
  refine Qm S119.h Z Z Z (di.mono (Zt cE aF)) cU ?_
  intro d7 eS b4 dK
  refine ⟨Z, ?_⟩
  refine G ?_
  refine Zw (E := (Qu encEdge)) a8.drew A35.h Z Z Z b4 ?_
  intro fz cV
  have eY := Jb.1 cV
  refine ⟨Z, ?_⟩
  obtain ⟨gz, cW, aj⟩ := V aj
  refine G ?_
  refine Qm S119.h Z Z Z (be.mono aF) cW ?_
  intro d8 eT b5 dL
  refine ⟨Z, ?_⟩
  refine G ?_
  refine Zw (E := (Qu encEdge)) a8.drew A35.h Z Z Z b5 ?_
  intro f0 cX
  have eZ := Jb.1 cX
  refine ⟨Z, ?_⟩
  cases aj
  refine G ?_
  exact ⟨du, aF, (((((a8.drew).f4).f4).f4).f4).f4, (Fx.mk (FxL.cons (QD c9 (SliceRep.le rq)) fxl))⟩
 intro ed gf bL
 obtain ⟨dv, cF, cp, ⟨ee, rfl⟩⟩ := bL
 refine G ?_
 rcases Qp hm with ⟨c6, hm⟩ | ⟨c6, hm⟩
 ·refine G ?_
  refine Exec.build Z Qh (v := Value.agg #[O 0, O 0, Vn, Vn, Vn]) (fun _ => by kernel_rfl) (G ?_)
  refine Exec.makeInterface C57 Z Z (G ?_)
  refine JU Z Z Z ?_
  intro gg cq
  cases hm
  refine G ?_
  refine ⟨_, Yg Z ⟨_, _, Z, Je (cq) A38.h⟩ Z, ?_⟩
  exact fq
 obtain ⟨aO, bD, hm⟩ := V hm
 refine G ?_
 refine QH (fun k' s' f' w' => (fun (aO : (List Edge)) => ∃ (bm : PHeap) (aq : Value), PHeap.le dv bm ∧ St w0 bm (Res.box l 38 [O (a.States), O (a.Init), x, y, z] :: Res.box m 38 [O 0, O 0, Vn, Vn, Vn] :: Res.box n 38 [O (IntKind.i64.wrap (b.States * a.States)), O (IntKind.i64.wrap ((IntKind.i64.wrap (b.Init * a.States)) + a.Init)), j, aq, t] :: Res.arr (U .i64) 3 j ae :: Res.arr encEdge 73 aq aO :: Res.arr encBool 4 t ag :: H) w' ∧ Fx f' [(119, O (k' : Int)), (3, Vq l), (4, Vq m), (6, Vq n), (9, a0), (10, a1), (118, O ((a4.length : Int)))]) s') bD ?_ ?_ ?_
 ·have e0 := cp.nilArr encEdge 73
  exact fq
 ·intro u aO fl ef gh e5 bM ak
  obtain ⟨bn, aq, cG, aU, ⟨eg, rfl⟩⟩ := bM
  obtain ⟨bw, cY, ak⟩ := V ak
  refine G ?_
  refine Jt Z Z Z cY ?_
  intro d9 eU b6
  refine G ?_
  refine Zw (E := (Qu encEdge)) aU A35.h Z Z Z b6 ?_
  intro bv cZ
  have dj := Jb.1 cZ
  obtain ⟨aG, bE, ak⟩ := V ak
  refine G ?_
  refine QH (fun k' s' f' w' => (fun (aG : (List Edge)) => ∃ (bo : PHeap) (ar : Value), PHeap.le bn bo ∧ St w0 bo (Res.box l 38 [O (a.States), O (a.Init), x, y, z] :: Res.box m 38 [O 0, O 0, Vn, Vn, Vn] :: Res.box n 38 [O (IntKind.i64.wrap (b.States * a.States)), O (IntKind.i64.wrap ((IntKind.i64.wrap (b.Init * a.States)) + a.Init)), j, ar, t] :: Res.arr (U .i64) 3 j ae :: Res.arr encEdge 73 ar aG :: Res.arr encBool 4 t ag :: H) w' ∧ Fx f' [(127, O (k' : Int)), (3, Vq l), (4, Vq m), (6, Vq n), (9, a0), (10, a1), (13, O ((u : Int))), (118, O ((a4.length : Int))), (119, O ((u : Int))), (125, bv), (126, O ((bw.length : Int)))]) s') bE ?_ ?_ ?_
  ·have cr := aU.f5
   exact ⟨bn, aq, (Zv _), ((((cr.f5).f5).f5).f5).f5, (Fx.mk)⟩
  ·intro cC aG fm eh gi e6 bN af
   obtain ⟨bp, ar, bb, aV, ⟨ei, rfl⟩⟩ := bN
   obtain ⟨d, da, af⟩ := V af
   refine G ?_
   refine YB S35.h Z Z Z (dj.mono bb) da ?_
   intro dA eV b7
   refine G ?_
   refine Zw (E := encEdge) aV A73.h Z Z Z b7 ?_
   intro f8 db
   obtain rfl := QK.1 db
   refine G ?_
   refine Exec.alloc (cs := [O 0, O 0, O 0]) aV Z73 Z Z ?_
   intro aR gj ct
   refine G ?_
   refine Qq (ds := [O (d.From), O (d.Label), O (d.To)]) (es := [O (d.From), O (d.Label), O (d.To)]) ct A73.h Z Z Z Z (Zj Z (Zj Z (Zj Z Ja))) (Nat.le_of_ble_eq_true Z) Z ?_
   intro gk aW
   obtain ⟨dz, dc, af⟩ := V af
   refine G ?_
   refine YB S119.h Z Z Z (be.mono (Zt (Zt cF cG) bb)) dc ?_
   intro dB eW b8
   refine G ?_
   refine Zw (E := (Qu encEdge)) aW A35.h Z Z Z b8 ?_
   intro dy dd
   have bf := Jb.1 dd
   obtain ⟨aH, bF, af⟩ := V af
   refine G ?_
   refine QH (fun k' s' f' w' => (fun (aH : (List Edge)) => ∃ (bq : PHeap) (a2 : Value), PHeap.le bp bq ∧ St w0 bq (Res.box l 38 [O (a.States), O (a.Init), x, y, z] :: Res.box m 38 [O 0, O 0, Vn, Vn, Vn] :: Res.box n 38 [O (IntKind.i64.wrap (b.States * a.States)), O (IntKind.i64.wrap ((IntKind.i64.wrap (b.Init * a.States)) + a.Init)), j, a2, t] :: Res.box aR 73 [O (d.From), O (d.Label), O (d.To)] :: Res.arr (U .i64) 3 j ae :: Res.arr encEdge 73 a2 aH :: Res.arr encBool 4 t ag :: H) w' ∧ Fx f' [(136, O (k' : Int)), (3, Vq l), (4, Vq m), (6, Vq n), (9, a0), (10, a1), (13, O ((u : Int))), (15, Vq aR), (118, O ((a4.length : Int))), (119, O ((u : Int))), (125, bv), (126, O ((bw.length : Int))), (127, O ((cC : Int))), (134, dy), (135, O ((dz.length : Int)))]) s') bF ?_ ?_ ?_
   ·have cu := aW.f6
    exact ⟨bp, ar, (Zv _), (((((cu.f6).f6).f3).f6).f6).f6, (Fx.mk)⟩
   ·intro e8 aH dw ej gl cA bO al
    obtain ⟨dx, a2, bc, aX, ⟨ek, rfl⟩⟩ := bO
    obtain ⟨i, de, al⟩ := V al
    refine G ?_
    refine YB S35.h Z Z Z (bf.mono bc) de ?_
    intro dC eX b9
    refine G ?_
    refine Zw (E := encEdge) aX A73.h Z Z Z b9 ?_
    intro f9 df
    obtain rfl := QK.1 df
    refine G ?_
    refine Exec.alloc (cs := [O 0, O 0, O 0]) aX Z73 Z Z ?_
    intro dD gm cv
    refine G ?_
    refine Qq (ds := [O (i.From), O (i.Label), O (i.To)]) (es := [O (i.From), O (i.Label), O (i.To)]) cv A73.h Z Z Z Z (Zj Z (Zj Z (Zj Z Ja))) (Nat.le_of_ble_eq_true Z) Z ?_
    intro gn cw
    refine G ?_
    refine Exec.build Z (Qc (c := [O (IntKind.i64.wrap ((IntKind.i64.wrap (d.From * a.States)) + i.From))]) (Qe Z Z) (Qc (c := [O ((u : Int))]) (Qe Z Z) (Qc (c := [O (IntKind.i64.wrap ((IntKind.i64.wrap (d.To * a.States)) + i.To))]) (Qe Z Z) Qh))) (v := Value.agg #[O (IntKind.i64.wrap ((IntKind.i64.wrap (d.From * a.States)) + i.From)), O ((u : Int)), O (IntKind.i64.wrap ((IntKind.i64.wrap (d.To * a.States)) + i.To))]) (fun _ => by kernel_rfl) (G ?_)
    refine Exec.buildSlice (Te := 73) (cs := [O (IntKind.i64.wrap ((IntKind.i64.wrap (d.From * a.States)) + i.From)), O ((u : Int)), O (IntKind.i64.wrap ((IntKind.i64.wrap (d.To * a.States)) + i.To))]) cw Z (Qc (c := [O (IntKind.i64.wrap ((IntKind.i64.wrap (d.From * a.States)) + i.From)), O ((u : Int)), O (IntKind.i64.wrap ((IntKind.i64.wrap (d.To * a.States)) + i.To))]) (Qe Z Z) Qh) (fun _ => by kernel_rfl) ?_
    intro dE go cx
    obtain ⟨eH, dg, al⟩ := V al
    refine G ?_
    refine Qt (E := encEdge) (ys := [(⟨IntKind.i64.wrap ((IntKind.i64.wrap (d.From * a.States)) + i.From), (u : Int), IntKind.i64.wrap ((IntKind.i64.wrap (d.To * a.States)) + i.To)⟩ : Edge)]) cx.f7 S35.h Z73 Z (by decide) Z Z Z Z ⟨[O (IntKind.i64.wrap ((IntKind.i64.wrap (d.From * a.States)) + i.From)), O ((u : Int)), O (IntKind.i64.wrap ((IntKind.i64.wrap (d.To * a.States)) + i.To))], [], Z, ⟨[O (IntKind.i64.wrap ((IntKind.i64.wrap (d.From * a.States)) + i.From))], [O ((u : Int)), O (IntKind.i64.wrap ((IntKind.i64.wrap (d.To * a.States)) + i.To))], Z, Z, ⟨[O ((u : Int))], [O (IntKind.i64.wrap ((IntKind.i64.wrap (d.To * a.States)) + i.To))], Z, Z, Z⟩⟩, Z⟩ Z dg ?_
    intro aM gp a9
    refine G ?_
    refine Qq (ds := [aM]) (es := [O (IntKind.i64.wrap (b.States * a.States)), O (IntKind.i64.wrap ((IntKind.i64.wrap (b.Init * a.States)) + a.Init)), j, aM, t]) a9.f4 A35.h Z Z Z (Ql ((a9.f4).f1).arr_one) (Zj ((a9.f4).f1).arr_one Ja) (Nat.le_of_ble_eq_true Z) Z ?_
    intro gq cy
    have dM := Zu al
    subst dw
    refine G ?_
    exact ⟨dx, aM, bc, ((((((((cy.f2).drop).f6).f2).f6).f6).f4).f6).f6, (Fx.mk (FxL.cons (QD cA (SliceRep.le bf)) fxl))⟩
   intro el gr bP
   obtain ⟨fn, a2, eI, e1, ⟨em, rfl⟩⟩ := bP
   cases af
   refine G ?_
   exact fq
  intro en gs bQ
  obtain ⟨fo, ar, eJ, e2, ⟨eo, rfl⟩⟩ := bQ
  cases ak
  refine G ?_
  exact fq
 intro ep gu bR
 obtain ⟨fp, aq, eK, cz, ⟨er, rfl⟩⟩ := bR
 obtain ⟨eL, dh, hm⟩ := V hm
 refine G ?_
 refine Tc Z Z Z Z (Qit dh cz.f4).r ?_
 rintro _ gv ⟨fr, eM, e3, rfl⟩
 refine G ?_
 refine JU Z Z Z ?_
 intro gw aY
 cases hm
 refine G ?_
 refine ⟨_, Yg Z ⟨_, _, Z, Je (aY) A38.h⟩ Z, ?_⟩
 obtain ⟨fs, eN, c0, fa⟩ := aY.f4.freezeArr
 obtain ⟨ft, eO, c1, fb⟩ := c0.f1.freezeArr
 obtain ⟨fu, eP, e4, fc⟩ := c1.f3.freezeArr
 exact fq
theorem YP {w0 w : World} {s : PHeap} {H : List Res} {u : mergeshrink_Abstraction} {az : Task} {ac : (List Int)} {ab : Int} {i : Nat} {d : Value} {ad : Value} {ae : Value} {af : Value} {ag : Value} {ah : Value} {r : (Option Int) × System × (List mergeshrink_stage) × Bool} (hm : QB u az ac ab = some r) (hS : St w0 s (Res.box i 61 [d, Value.slice none 0 0, Value.slice none 0 0, Value.bool (u.exact)] :: Res.arr (U .i64) 3 d u.vars :: H) w) (b1 : SliceRep (U .i64) s ad az.Vars) (b2 : SliceRep (U .i64) s ae az.Init) (b3 : SliceRep encFact s af az.Goal) (b4 : SliceRep encOp s ag az.Ops) (dk : SliceRep (U .i64) s ah ac) :
  Calls Tryz.prog 23 #[Value.pointer (some ⟨i, 0, none⟩), Value.agg #[ad, ae, af, ag], ah, O ab] w fun e w' => ∃ v, e = .returned v ∧ ((un4 fun (dc : (Option Int)) (a0 : System) (dg : (List mergeshrink_stage)) (dh : Bool) => ∃ (aw : PHeap) (bp : Value) (bq : Value) (br : Value) (bs : Value), PHeap.le s aw ∧ St w0 aw (Res.box i 61 [d, bs, Value.slice none 0 0, Value.bool (dh)] :: Res.arr (U .i64) 3 d u.vars :: Res.arr encmergeshrink_stage 75 bs dg :: H) w' ∧ v = Value.tuple #[Value.agg #[O (a0.States), O (a0.Init), bp, bq, br], Qaw 57 (dc)] ∧ SliceRep (U .i64) aw bp a0.Costs ∧ SliceRep encEdge aw bq a0.Edges ∧ SliceRep encBool aw br a0.Goals) r) := by
 unfold QB at hm
 refine Qj Tryz.func23 Z Z (G ?_)
 refine JY Z Z ?_
 intro m ex bE
 refine G ?_
 refine Exec.alloc (cs := [O 0, O 0, Vn, Vn, Vn]) bE Z38 Z Z ?_
 intro n ey aO
 refine G ?_
 rcases Qp hm with ⟨cb, hm⟩ | ⟨cb, hm⟩
 ·obtain ⟨cN, cx, hm⟩ := V hm
  obtain ⟨fd, fe⟩ := cN
  replace hm := Q6 hm
  refine G ?_
  refine Tc Z Z Z Z (Qb3 cx aO b1 b2 b3 b4 (SliceRep.nil _ _)).r ?_
  rintro _ ez ⟨ea, el, em, en, dL, d4, rfl, dU, dV, dW⟩
  refine G ?_
  refine JU Z Z Z ?_
  intro e0 aP
  cases hm
  refine G ?_
  refine ⟨_, Yg Z ⟨_, _, Z, Je (aP) A38.h⟩ Z, ?_⟩
  have d5 := aP.nilArr encmergeshrink_stage 75
  exact fq
 obtain ⟨a1, cy, hm⟩ := V hm
 refine G ?_
 refine Tc Z Z Z Z (Qdr cy aO).r ?_
 rintro _ e1 ⟨bh, cq, bF, rfl⟩
 refine G ?_
 refine Exec.alloc (cs := [O 0, O 0, Vn, Vn, Vn]) bF Z38 Z Z ?_
 intro o e2 bG
 obtain ⟨aN, b7, au, cj, ca⟩ := Qs hm
 refine g ?_
 refine Zc (Zc (Zd (g ?_)))
 refine Qo (M := fun f' w' => ∃ s', (aN = .next s' ∨ aN = .brk s') ∧ (un7 fun (bt : (List mergeshrink_stage)) (bu : Bool) (bv : Int) (bw : Int) (bx : (List Int)) (bz : (List Edge)) (b0 : (List Bool)) => ∃ (ax : PHeap) (aC : Value) (aD : Value) (aE : Value) (aF : Value), PHeap.le bh ax ∧ St w0 ax (Res.box i 61 [d, aF, Vn, Vb bu] :: Res.arr (U .i64) 3 d u.vars :: Res.box m 26 [ad, ae, af, ag] :: Res.box n 38 [O 0, O 0, Vn, Vn, Vn] :: Res.box o 38 [O bv, O bw, aC, aD, aE] :: Res.arr encmergeshrink_stage 75 aF bt :: H) w' ∧ Fx f' [(0, Vq i), (3, O ab), (5, Vq m), (8, Vq n), (10, O a1), (11, Vq o), (28, ah), (29, O ((ac.length : Int)))] ∧ SliceRep (U .i64) ax aC bx ∧ SliceRep encEdge ax aD bz ∧ SliceRep encBool ax aE b0) s') ?_ ?_
 ·refine G ?_
  refine QP (fun k' s' f' w' => (un7 fun (ao : (List mergeshrink_stage)) (ap : Bool) (aq : Int) (ar : Int) (aK : (List Int)) (aL : (List Edge)) (aM : (List Bool)) => ∃ (ay : PHeap) (ai : Value) (aj : Value) (ak : Value) (p : Value), PHeap.le bh ay ∧ St w0 ay (Res.box i 61 [d, p, Vn, Vb ap] :: Res.arr (U .i64) 3 d u.vars :: Res.box m 26 [ad, ae, af, ag] :: Res.box n 38 [O 0, O 0, Vn, Vn, Vn] :: Res.box o 38 [O aq, O ar, ai, aj, ak] :: Res.arr encmergeshrink_stage 75 p ao :: H) w' ∧ Fx f' [(30, O (k' : Int)), (0, Vq i), (3, O ab), (5, Vq m), (8, Vq n), (10, O a1), (11, Vq o), (28, ah), (29, O ((ac.length : Int)))] ∧ SliceRep (U .i64) ay ai aK ∧ SliceRep encEdge ay aj aL ∧ SliceRep encBool ay ak aM) s') b7 ?_ ?_ ?_
  ·have d6 := bG.nilArr encmergeshrink_stage 75
   exact fq
  ·intro a7 cO b6 dr e3 aW b8 a av
   obtain ⟨ao, ap, aq, ar, aK, aL, aM⟩ := cO
   replace a := QhW a
   obtain ⟨eb, ai, aj, ak, p, cr, aQ, ⟨dt, rfl⟩, aX, aY, aZ⟩ := b8
   obtain ⟨b, cz, a⟩ := V a
   refine G ?_
   refine Jt Z Z Z cz ?_
   intro dl dT b5
   refine G ?_
   refine Zw (E := (U .i64)) aQ A3.h Z Z Z b5 ?_
   intro eo c0
   obtain rfl := Qf.1 c0
   obtain ⟨cP, c1, a⟩ := V a
   obtain ⟨ff, an⟩ := cP
   replace a := Q6 a
   refine G ?_
   refine Tc Z Z Z Z (Qem c1 aQ rq rq rq rq).r ?_
   rintro _ e4 ⟨aB, aG, aH, aI, ct, bH, rfl, cA, cB, cC⟩
   refine G ?_
   refine Exec.alloc (cs := [O 0, O 0, Vn, Vn, Vn]) bH Z38 Z Z ?_
   intro al e5 d7
   refine G ?_
   refine JU Z Z Z ?_
   intro e6 bI
   refine G ?_
   refine QL (T := 57) Tryz.underlying32 Z Z Z (G ?_)
   rcases Qp a with ⟨cc, a⟩ | ⟨cc, a⟩
   ·refine G ?_
    refine Exec.build Z Qh (v := Value.agg #[O 0, O 0, Vn, Vn, Vn]) (fun _ => by kernel_rfl) (G ?_)
    refine JU Z Z Z ?_
    intro e7 bJ
    cases a
    have ck := au _ (av (by intro _ h; cases h))
    cases ck
    refine G ?_
    refine ⟨_, Yg Z ⟨_, _, Z, Je (bJ) A38.h⟩ Z, ?_⟩
    exact fq
   refine G ?_
   refine Exec.build Z (Qc (c := [O b]) (Qe Z Z) Qh) (v := Value.agg #[O b, Vn, Vn, O 0]) (fun _ => by kernel_rfl) (G ?_)
   refine Exec.alloc (cs := [O 0, Vn, Vn, O 0]) bI Z75 Z Z ?_
   intro am e8 d8
   refine G ?_
   refine JU Z Z Z ?_
   intro e9 aR
   refine G ?_
   rcases Qp a with ⟨cd, a⟩ | ⟨cd, a⟩
   ·obtain ⟨cQ, c2, a⟩ := V a
    obtain ⟨dd, fg, q, di⟩ := cQ
    replace a := QhX a
    refine G ?_
    refine Tc Z Z Z Z (JL c2 aR.f2 cA cB cC).r ?_
    rintro _ eA ⟨cM, y, cW, cX, cY, dM, d9, rfl, a8, cD, cE, cF⟩
    refine G ?_
    refine JU Z Z Z ?_
    intro eB bK
    refine G ?_
    refine Qq (ds := [y]) (es := [O b, y, Vn, O 0]) bK.f2 A22.h Z Z Z (Ql a8.one) (Zj a8.one Ja) (Nat.le_of_ble_eq_true Z) Z ?_
    intro eC bL
    refine G ?_
    refine QL (T := 57) Tryz.underlying32 Z Z Z (G ?_)
    rcases Qp a with ⟨ce, a⟩ | ⟨ce, a⟩
    ·refine G ?_
     refine Exec.build Z Qh (v := Value.agg #[O 0, O 0, Vn, Vn, Vn]) (fun _ => by kernel_rfl) (G ?_)
     refine JU Z Z Z ?_
     intro eD bM
     cases a
     have cl := au _ (av (by intro _ h; cases h))
     cases cl
     refine G ?_
     refine ⟨_, Yg Z ⟨_, _, Z, Je (bM) A38.h⟩ Z, ?_⟩
     exact fq
    refine G ?_
    refine Qq (ds := [O (q.States)]) (es := [O b, y, Vn, O (q.States)]) bL A3.h Z Z Z Z (Zj Z Ja) (Nat.le_of_ble_eq_true Z) Z ?_
    intro eE a3
    refine G ?_
    refine Jz (n0 := 8) (qs 0 6 (.e 6 [0, 1, 2, 3, 4] (.e 7 [0] .done))) J2 (by kernel_rfl) (by kernel_rfl) (G ?_)
    refine Zn ((a3.drew).f2) A59.h Z Z Z ⟨Z, ?_⟩
    refine G ?_
    refine Q4 (ds := [O b, y, Vn, O (q.States)]) (a3.drew) A75.h Z Z Z ⟨Z, ?_⟩
    refine G ?_
    refine Exec.buildSlice (Te := 75) (cs := [O b, y, Vn, O (q.States)]) a3.drew Z (Qc (c := [O b, y, Vn, O (q.States)]) (Qe Z Z) Qh) (fun _ => by kernel_rfl) ?_
    intro dm eF bN
    refine ⟨YD, ?_⟩
    obtain ⟨dN, c3, a⟩ := V a
    refine G ?_
    refine Qt (E := encmergeshrink_stage) (ys := [(⟨b, dd, [], q.States⟩ : mergeshrink_stage)]) bN.f8 S59.h Z75 Z (by decide) Z Z Z Z ⟨[O b, y, Vn, O (q.States)], [], Z, ⟨[O b], [y, Vn, O (q.States)], Z, Z, ⟨[y], [Vn, O (q.States)], Z, ⟨_, Z, a8⟩, ⟨[Vn], [O (q.States)], Z, ⟨_, Z, (SliceRep.nil _ _)⟩, Z⟩⟩⟩, Z⟩ Z c3 ?_
    intro aJ eG a4
    refine ⟨YD, ?_⟩
    refine G ?_
    refine Qq (ds := [aJ]) (es := [d, aJ, Vn, Vb di]) a4.f3 A59.h Z Z Z (Ql ((a4.f3).f1).arr_one) (Zj ((a4.f3).f1).arr_one Ja) (Nat.le_of_ble_eq_true Z) Z ?_
    intro eH bO
    cases a
    refine G ?_
    refine ⟨_, Z, ?_⟩; exact ⟨cM, cW, cX, cY, aJ, lq, (((((((((bO.f2).drop).f3).drop).f1).f2).f5).f5).f5).f5, (Fx.mk (FxL.cons (QD aW (SliceRep.le rq)) fxl)), cD, cE, cF⟩
   refine G ?_
   refine Jz (n0 := 5) (qs 0 5 .done) J2 (by kernel_rfl) (by kernel_rfl) ?_
   have dA := aR.drew
   obtain ⟨bm, x, a⟩ := V a
   refine g ?_
   refine Zc (Zc (Zd (g ?_)))
   refine Qo (M := fun f' w' => (QM fun (bb : Int) (be : Int) => ∃ (bi : PHeap) , PHeap.le aB bi ∧ St w0 bi (Res.box i 61 [d, p, Vn, Vb ap] :: Res.arr (U .i64) 3 d u.vars :: Res.box m 26 [ad, ae, af, ag] :: Res.box n 38 [O 0, O 0, Vn, Vn, Vn] :: Res.box o 38 [O aq, O ar, ai, aj, ak] :: Res.box al 38 [O (an.States), O (an.Init), aG, aH, aI] :: Res.box am 75 [O b, Vn, Vn, O 0] :: Res.arr encmergeshrink_stage 75 p ao :: H) w' ∧ Fx f' [(0, Vq i), (3, O ab), (5, Vq m), (8, Vq n), (10, O a1), (11, Vq o), (14, Vq al), (16, Vq am), (17, O bb), (18, O be), (28, ah), (29, O ((ac.length : Int))), (30, O ((a7 : Int)))]) bm) ?_ ?_
   ·rcases Qp x with ⟨aT, x⟩ | ⟨aT, x⟩
    ·obtain ⟨bn, j, x⟩ := V x
     refine W_c Z aT (QlG (Qae (Zc (Zd (g ?_)))))
     refine Qo (M := fun f' w' => (QM fun (bc : Int) (bf : Int) => ∃ (bj : PHeap) , PHeap.le aB bj ∧ St w0 bj (Res.box i 61 [d, p, Vn, Vb ap] :: Res.arr (U .i64) 3 d u.vars :: Res.box m 26 [ad, ae, af, ag] :: Res.box n 38 [O 0, O 0, Vn, Vn, Vn] :: Res.box o 38 [O aq, O ar, ai, aj, ak] :: Res.box al 38 [O (an.States), O (an.Init), aG, aH, aI] :: Res.box am 75 [O b, Vn, Vn, O 0] :: Res.arr encmergeshrink_stage 75 p ao :: H) w' ∧ Fx f' [(0, Vq i), (3, O ab), (5, Vq m), (8, Vq n), (10, O a1), (11, Vq o), (14, Vq al), (16, Vq am), (17, O bc), (18, O bf), (28, ah), (29, O ((ac.length : Int))), (30, O ((a7 : Int)))]) bn) ?_ ?_
     ·rcases Qp j with ⟨aU, j⟩ | ⟨aU, j⟩
      ·obtain ⟨ej, c4, j⟩ := V j
       refine G ?_
       refine Exec.quo Z Z Z (by simpa using Qr c4) ?_
       cases j
       refine G ?_
       exact fq
      obtain ⟨bo, aa, j⟩ := V j
      refine W_c Z aU (QaN (Zc (Zd (g ?_))))
      refine Qo (M := fun f' w' => (QM fun (bd : Int) (bg : Int) => ∃ (bk : PHeap) , PHeap.le aB bk ∧ St w0 bk (Res.box i 61 [d, p, Vn, Vb ap] :: Res.arr (U .i64) 3 d u.vars :: Res.box m 26 [ad, ae, af, ag] :: Res.box n 38 [O 0, O 0, Vn, Vn, Vn] :: Res.box o 38 [O aq, O ar, ai, aj, ak] :: Res.box al 38 [O (an.States), O (an.Init), aG, aH, aI] :: Res.box am 75 [O b, Vn, Vn, O 0] :: Res.arr encmergeshrink_stage 75 p ao :: H) w' ∧ Fx f' [(0, Vq i), (3, O ab), (5, Vq m), (8, Vq n), (10, O a1), (11, Vq o), (14, Vq al), (16, Vq am), (17, O bd), (18, O bg), (28, ah), (29, O ((ac.length : Int))), (30, O ((a7 : Int)))]) bo) ?_ ?_
      ·rcases Qp aa with ⟨cf, aa⟩ | ⟨cf, aa⟩
       ·obtain ⟨ek, c5, aa⟩ := V aa
        refine G ?_
        refine Exec.quo Z Z Z (by simpa using Qr c5) ?_
        cases aa
        refine G ?_
        exact fq
       cases aa
       refine G ?_
       exact fq
      intro du eI bA
      obtain ⟨bd, bg⟩ := bo
      replace j := Q6 j
      obtain ⟨ec, dO, dB, ⟨dv, rfl⟩⟩ := bA
      cases j
      refine G ?_
      exact fq
     intro dw eJ bB
     obtain ⟨bc, bf⟩ := bn
     replace x := Q6 x
     obtain ⟨ed, dP, dC, ⟨dx, rfl⟩⟩ := bB
     cases x
     refine G ?_
     exact fq
    cases x
    refine G ?_
    exact fq
   intro dy eK bC
   obtain ⟨bb, be⟩ := bm
   replace a := Q6 a
   obtain ⟨ee, cu, bP, ⟨dz, rfl⟩⟩ := bC
   obtain ⟨cR, c6, a⟩ := V a
   obtain ⟨de, fh, fi, fm⟩ := cR
   replace a := QhX a
   refine G ?_
   refine Tc Z Z Z (Zi Z (Zi Z (Zi Z QT))) (JL c6 bP (aX.mono lq) (aY.mono lq) (aZ.mono lq)).r ?_
   rintro _ eL ⟨ef, l, ep, er, et, cv, dD, rfl, a9, dX, dY, dZ⟩
   refine G ?_
   refine JU Z Z Z ?_
   intro eM bQ
   refine G ?_
   refine Qq (ds := [l]) (es := [O b, Vn, l, O 0]) bQ.f6 A22.h Z Z Z (Ql a9.one) (Zj a9.one Ja) (Nat.le_of_ble_eq_true Z) Z ?_
   intro eN bR
   refine G ?_
   refine QL (T := 57) Tryz.underlying32 Z Z Z (G ?_)
   rcases Qp a with ⟨cg, a⟩ | ⟨cg, a⟩
   ·refine G ?_
    refine Exec.build Z Qh (v := Value.agg #[O 0, O 0, Vn, Vn, Vn]) (fun _ => by kernel_rfl) (G ?_)
    refine JU Z Z Z ?_
    intro eO bS
    cases a
    have cm := au _ (av (by intro _ h; cases h))
    cases cm
    refine G ?_
    refine ⟨_, Yg Z ⟨_, _, Z, Je (bS) A38.h⟩ Z, ?_⟩
    exact fq
   obtain ⟨cS, c7, a⟩ := V a
   obtain ⟨df, fj, t, dj⟩ := cS
   replace a := QhX a
   refine G ?_
   refine Tc Z Z Z (Zi Z (Zi Z (Zi Z QT))) (JL c7 bR.f2 rq rq rq).r ?_
   rintro _ eP ⟨eg, z, eu, ev, ew, ba, dE, rfl, aA, cG, cH, cI⟩
   refine G ?_
   refine JU Z Z Z ?_
   intro eQ bT
   refine G ?_
   refine Qq (ds := [z]) (es := [O b, z, l, O 0]) bT.f2 A22.h Z Z Z (Ql aA.one) (Zj aA.one Ja) (Nat.le_of_ble_eq_true Z) Z ?_
   intro eR bU
   refine G ?_
   refine QL (T := 57) Tryz.underlying32 Z Z Z (G ?_)
   rcases Qp a with ⟨ch, a⟩ | ⟨ch, a⟩
   ·refine G ?_
    refine Exec.build Z Qh (v := Value.agg #[O 0, O 0, Vn, Vn, Vn]) (fun _ => by kernel_rfl) (G ?_)
    refine JU Z Z Z ?_
    intro eS bV
    cases a
    have cn := au _ (av (by intro _ h; cases h))
    have dp := Zu cn
    subst r
    refine G ?_
    refine ⟨_, Yg Z ⟨_, _, Z, Je (bV) A38.h⟩ Z, ?_⟩
    exact fq
   refine G ?_
   refine Qq (ds := [O (t.States)]) (es := [O b, z, l, O (t.States)]) bU A3.h Z Z Z Z (Zj Z Ja) (Nat.le_of_ble_eq_true Z) Z ?_
   intro eT a5
   refine G ?_
   refine Jz (n0 := 8) (qs 0 6 (.e 6 [0, 1, 2, 3, 4] (.e 7 [0] .done))) J2 (by kernel_rfl) (by kernel_rfl) (G ?_)
   refine Zn ((a5.drew).f2) A59.h Z Z Z ⟨Z, ?_⟩
   refine G ?_
   refine Q4 (ds := [O b, z, l, O (t.States)]) (a5.drew) A75.h Z Z Z ⟨Z, ?_⟩
   refine G ?_
   refine Exec.buildSlice (Te := 75) (cs := [O b, z, l, O (t.States)]) a5.drew Z (Qc (c := [O b, z, l, O (t.States)]) (Qe Z Z) Qh) (fun _ => by kernel_rfl) ?_
   intro dn eU bW
   refine ⟨YD, ?_⟩
   obtain ⟨dQ, c8, a⟩ := V a
   refine G ?_
   refine Qt (E := encmergeshrink_stage) (ys := [(⟨b, df, de, t.States⟩ : mergeshrink_stage)]) bW.f8 S59.h Z75 Z (by decide) Z Z Z Z ⟨[O b, z, l, O (t.States)], [], Z, ⟨[O b], [z, l, O (t.States)], Z, Z, ⟨[z], [l, O (t.States)], Z, ⟨_, Z, aA⟩, ⟨[l], [O (t.States)], Z, ⟨_, Z, (a9.mono ba)⟩, Z⟩⟩⟩, Z⟩ Z c8 ?_
   intro a2 eV a6
   refine ⟨YD, ?_⟩
   refine G ?_
   refine Qq (ds := [a2]) (es := [d, a2, Vn, Vb dj]) a6.f3 A59.h Z Z Z (Ql ((a6.f3).f1).arr_one) (Zj ((a6.f3).f1).arr_one Ja) (Nat.le_of_ble_eq_true Z) Z ?_
   intro eW bX
   obtain ⟨cT, c9, a⟩ := V a
   obtain ⟨fk, fl⟩ := cT
   replace a := Q6 a
   refine G ?_
   refine Tc Z Z Z Z (QdE c9 bX rq rq rq cG cH cI).r ?_
   rintro _ eX ⟨bl, cZ, da, db, cw, dF, rfl, cJ, cK, cL⟩
   refine G ?_
   refine JU Z Z Z ?_
   intro eY bY
   refine G ?_
   refine QL (T := 57) Tryz.underlying32 Z Z Z (G ?_)
   rcases Qp a with ⟨ci, a⟩ | ⟨ci, a⟩
   ·refine G ?_
    refine Exec.build Z Qh (v := Value.agg #[O 0, O 0, Vn, Vn, Vn]) (fun _ => by kernel_rfl) (G ?_)
    refine JU Z Z Z ?_
    intro eZ aS
    have dq := Zu a
    subst b6
    have co := au _ (av (by intro _ h; cases h))
    cases co
    refine G ?_
    refine ⟨_, Yg Z ⟨_, _, Z, Je (aS) A38.h⟩ Z, ?_⟩
    exact ⟨bl, Vn, Vn, Vn, a2, (Zt (Zt (Zt (Zt (Zt (Zt cq cr) ct) cu) cv) ba) cw), ((((((((((aS.drop).drop).f2).drop).f2).drop).f3).drop).f1).f2).f2, (QjB Z Z), (SliceRep.nil _ _), (SliceRep.nil _ _), (SliceRep.nil _ _)⟩
   cases a
   refine G ?_
   refine ⟨_, Z, ?_⟩; exact ⟨bl, cZ, da, db, a2, lq, (((((((((bY.f3).drop).f3).drop).f2).f1).f5).f5).f5).f5, (Fx.mk (FxL.cons (QD aW (SliceRep.le rq)) fxl)), cJ, cK, cL⟩
  intro cU d0 fa b9 cp
  obtain ⟨ao, ap, aq, ar, aK, aL, aM⟩ := cU
  obtain ⟨eh, ai, aj, ak, p, dR, dG, ⟨d1, rfl⟩, aX, aY, aZ⟩ := b9
  refine G ?_
  exact ⟨_, .inl cp, fq⟩
 rintro d2 fb ⟨cV, aV, bD⟩
 have hm := aV.elim (cj _) (ca _)
 clear aV
 obtain ⟨bt, bu, bv, bw, bx, bz, b0⟩ := cV
 replace hm := QhW hm
 obtain ⟨ei, aC, aD, aE, aF, dS, dH, ⟨d3, rfl⟩, dI, dJ, dK⟩ := bD
 refine G ?_
 refine JU Z Z Z ?_
 intro fc bZ
 cases hm
 refine G ?_
 refine ⟨_, Yg Z ⟨_, _, Z, Je (bZ) A38.h⟩ Z, ?_⟩
 exact fq
theorem QeK {w0 w : World} {s : PHeap} {H : List Res} {a : System} {x : Value} {y : Value} {j : Value} {r : (List Int)} (hm : Yh a = some r) (hS : St w0 s (H) w) (ao : SliceRep (U .i64) s x a.Costs) (ap : SliceRep encEdge s y a.Edges) (aq : SliceRep encBool s j a.Goals) :
  Calls Tryz.prog 45 #[Value.agg #[O (a.States), O (a.Init), x, y, j]] w fun e w' => ∃ v, e = .returned v ∧ ((fun (an : (List Int)) => ∃ (o : PHeap) (z : Value), PHeap.le s o ∧ St w0 o (H) w' ∧ v = z ∧ SliceRep (U .i64) o z an) r) := by
 unfold Yh at hm
 refine Qj Tryz.func45 Z Z (G ?_)
 refine JY Z Z ?_
 intro ar aK af
 obtain ⟨n, ab, hm⟩ := V hm
 refine G ?_
 refine QH (fun k' s' f' w' => (fun (n : (List Int)) => ∃ (t : PHeap) (l : Value), PHeap.le s t ∧ St w0 t (Res.arr (U .i64) 3 l n :: H) w' ∧ Fx f' [(9, O (k' : Int)), (3, l), (7, j), (8, O ((a.Goals.length : Int)))]) s') ab ?_ ?_ ?_
 ·have a2 := af.nilArr (U .i64) 3
  exact fq
 ·intro i n aE aw aL a6 ac d
  obtain ⟨am, l, a7, q, ⟨ax, rfl⟩⟩ := ac
  obtain ⟨aQ, aj, d⟩ := V d
  refine G ?_
  refine Jt Z Z Z aj ?_
  intro au aC aa
  refine G ?_
  refine Zw (E := encBool) q A4.h Z Z Z aa ?_
  intro aI ak
  obtain rfl := QC.1 ak
  obtain ⟨m, b, d⟩ := V d
  refine g ?_
  refine Zc (Zd (g ?_))
  refine Qo (M := fun f' w' => (fun (m : (List Int)) => ∃ (u : PHeap) (p : Value), PHeap.le am u ∧ St w0 u (Res.arr (U .i64) 3 p m :: H) w' ∧ Fx f' [(3, p), (7, j), (8, O ((a.Goals.length : Int))), (9, O ((i : Int)))]) m) ?_ ?_
  ·rcases Qp b with ⟨ai, b⟩ | ⟨ai, b⟩
   ·refine G ?_
    refine Exec.buildSlice (Te := 3) (cs := [O ((i : Int))]) q Z (Qc (c := [O ((i : Int))]) (Qe Z Z) Qh) (fun _ => by kernel_rfl) ?_
    intro av aM ag
    obtain ⟨a8, al, b⟩ := V b
    refine G ?_
    refine Qt (E := (U .i64)) (ys := [(i : Int)]) ag.f1 S22.h Z3 Z (by decide) Z Z Z Z ⟨[O ((i : Int))], [], Z, Z, Z⟩ Z al ?_
    intro aJ aN a3
    cases b
    refine G ?_
    exact fq
   cases b
   refine G ?_
   exact fq
  intro ay aO ae
  obtain ⟨aF, p, a9, a4, ⟨az, rfl⟩⟩ := ae
  cases d
  refine G ?_
  exact fq
 intro a0 aP ad
 obtain ⟨aG, l, aA, ah, ⟨a1, rfl⟩⟩ := ad
 cases hm
 refine G ?_
 refine ⟨_, Yc Z, ?_⟩
 obtain ⟨aH, aB, a5, aD⟩ := ah.freezeArr
 exact fq
instance S123 : STy Tryz.prog 123 126 1 24 := ⟨by kernel_rfl⟩
theorem QoY : Jp Tryz.prog 126 = some (Value.slice none 0 0) := by kernel_rfl
theorem QnW : Jp Tryz.prog 125 = some (Value.agg #[O 0, O 0, O 0]) := by kernel_rfl
instance A125 : ATy Tryz.prog 125 true 3 := ⟨by kernel_rfl⟩
instance F125_1 : FTy Tryz.prog 125 1 1 := ⟨by kernel_rfl⟩
instance F125_0 : FTy Tryz.prog 125 0 0 := ⟨by kernel_rfl⟩
instance A126 : ATy Tryz.prog 126 false 1 := ⟨by kernel_rfl⟩
instance S126 : STy Tryz.prog 126 125 3 24 := ⟨by kernel_rfl⟩
instance F125_2 : FTy Tryz.prog 125 2 2 := ⟨by kernel_rfl⟩
theorem Qdm {w0 w : World} {s : PHeap} {H : List Res} {l : System} {a2 : (List Int)} {ar : Bool} {ao : Value} {ae : Value} {ap : Value} {ai : Value} {r : (List Int)} (hm : K7 l a2 ar = some r) (hS : St w0 s (H) w) (bC : SliceRep (U .i64) s ao l.Costs) (dm : SliceRep encEdge s ae l.Edges) (dn : SliceRep encBool s ap l.Goals) (dp : SliceRep (U .i64) s ai a2) :
  Calls Tryz.prog 44 #[Value.agg #[O (l.States), O (l.Init), ao, ae, ap], ai, Value.bool (ar)] w fun e w' => ∃ v, e = .returned v ∧ ((fun (dk : (List Int)) => ∃ (aH : PHeap) (b9 : Value), PHeap.le s aH ∧ St w0 aH (H) w' ∧ v = b9 ∧ SliceRep (U .i64) aH b9 dk) r) := by
 unfold K7 at hm
 refine Qj Tryz.func44 Z Z (G ?_)
 refine JY Z Z ?_
 intro ag f0 bY
 obtain ⟨eC, c4, hm⟩ := V hm
 refine G ?_
 refine QbP (F := encArc) (T2 := 125) bY S123.h QoY Z Z Z c4 ?_
 intro i e8 f7 bZ
 obtain ⟨t, bH, hm⟩ := V hm
 refine G ?_
 refine QH (fun k' s' f' w' => (fun (t : (List (List Arc))) => ∃ (bw : PHeap) (d : List Value), PHeap.le s bw ∧ St w0 bw (Res.box ag 38 [O (l.States), O (l.Init), ao, ae, ap] :: Res.arr encRaw 126 i d :: Res.rows encArc 125 d t :: H) w' ∧ Fx f' [(26, O (k' : Int)), (1, ai), (2, Vb ar), (3, Vq ag), (7, i), (24, ae), (25, O ((l.Edges.length : Int)))]) s') bH ?_ ?_ ?_
 ·have ep := bZ.f2
  exact fq
 ·intro cx t fd dD f8 e5 bM j
  obtain ⟨cV, d, cz, bb, ⟨dE, rfl⟩⟩ := bM
  obtain ⟨aa, c5, j⟩ := V j
  refine G ?_
  refine Jt Z Z Z c5 ?_
  intro dq eX bD
  refine G ?_
  refine Zw (E := encEdge) bb A73.h Z Z Z bD ?_
  intro fo c6
  obtain rfl := QK.1 c6
  refine G ?_
  refine Exec.alloc (cs := [O 0, O 0, O 0]) bb Z73 Z Z ?_
  intro dr f9 er
  refine G ?_
  refine JU Z Z Z ?_
  intro fA ca
  refine G ?_
  refine Jz (n0 := 12) (qs 0 11 (.e 11 [0, 1, 2, 3, 4, 5, 6, 7, 8, 9, 10] .done)) J2 (by kernel_rfl) (by kernel_rfl) ?_
  have bc := ca.drew
  obtain ⟨p, c7, j⟩ := V j
  refine G ?_
  refine Qm S22.h Z Z Z (bC.mono cz) c7 ?_
  intro ds eY aK bG
  refine ⟨Z, ?_⟩
  refine G ?_
  refine Zw (E := (U .i64)) bc A3.h Z Z Z aK ?_
  intro fp c8
  obtain rfl := Qf.1 c8
  refine ⟨Z, ?_⟩
  refine G ?_
  refine Exec.build Z (Qc (c := [O (aa.From)]) (Qe Z Z) (Qc (c := [O (aa.To)]) (Qe Z Z) (Qc (c := [O p]) (Qe Z Z) Qh))) (v := Value.agg #[O (aa.From), O (aa.To), O p]) (fun _ => by kernel_rfl) ⟨Z, ?_⟩
  refine G ?_
  refine Exec.alloc (cs := [O 0, O 0, O 0]) bc QnW Z Z ?_
  intro aL fB aj
  refine ⟨(Qa (Qi Z Z (Zp F73_0.h Z Z Z ⟨Z, Z⟩)) (Qa (Qi Z Z (Zn (aj.f1) A3.h Z Z Z ⟨Z, Z⟩)) (Qa (Qi Z Z (Zp F73_2.h Z Z Z ⟨Z, Z⟩)) (Qa (Qi Z Z (Zn (aj.f1) A3.h Z Z Z ⟨Z, Z⟩)) (Qa (Qi Z Z (Zp F38_2.h Z Z Z ⟨Z, Z⟩)) (Qa (Qi Z Z (Zn (aj.f2) A22.h Z Z Z ⟨Z, Z⟩)) (Qa (Qi Z Z (Zp F73_1.h Z Z Z ⟨Z, Z⟩)) (Qa (Qi Z Z (Zn (aj.f1) A3.h Z Z Z ⟨Z, Z⟩)) (Qa (Qi Z Z (YA Z Z Z bG ⟨Z, Z⟩)) (Qa (Qi Z Z (Zw (E := (U .i64)) aj A3.h Z Z Z aK (fun _ q => ⟨Z, Qf.1 q⟩))) (Qa (Qi Z Z (Exec.build Z (Qc (c := [O (aa.From)]) (Qe Z Z) (Qc (c := [O (aa.To)]) (Qe Z Z) (Qc (c := [O p]) (Qe Z Z) Qh))) (v := Value.agg #[O (aa.From), O (aa.To), O p]) (fun _ => by kernel_rfl) ⟨Z, Z⟩)) Q1))))))))))), ?_⟩
  refine G ?_
  refine JU Z Z Z ?_
  intro fC es
  obtain ⟨b7, an, j⟩ := V j
  refine g ?_
  refine Zc (Zc (Zd (g ?_)))
  refine Qo (M := fun f' w' => (QM fun (af : Int) (ab : Int) => ∃ (bx : PHeap) , PHeap.le cV bx ∧ St w0 bx (Res.box ag 38 [O (l.States), O (l.Init), ao, ae, ap] :: Res.arr encRaw 126 i d :: Res.rows encArc 125 d t :: Res.box aL 125 [O af, O ab, O p] :: H) w' ∧ Fx f' [(1, ai), (2, Vb ar), (3, Vq ag), (7, i), (10, Vq aL), (24, ae), (25, O ((l.Edges.length : Int))), (26, O ((cx : Int)))]) b7) ?_ ?_
  ·rcases Qp an with ⟨cp, an⟩ | ⟨cp, an⟩
   ·refine G ?_
    refine JU Z Z Z ?_
    intro fD et
    refine G ?_
    refine JU Z Z Z ?_
    intro fE eu
    cases an
    refine G ?_
    exact fq
   cases an
   refine G ?_
   exact fq
  intro dF fF bV
  obtain ⟨af, ab⟩ := b7
  replace j := Q6 j
  obtain ⟨fe, eD, cb, ⟨dG, rfl⟩⟩ := bV
  refine G ?_
  refine Jz (n0 := 11) (qs 0 9 (.e 9 [0, 1, 2, 3, 4, 5, 6, 7] (.e 10 [0, 1, 2] .done))) J2 (by kernel_rfl) (by kernel_rfl) ?_
  have av := cb.drew
  obtain ⟨fc, br, j⟩ := V j
  obtain ⟨eo, x, aN, _⟩ := (((av.f2).f2).f1).rows_at br
  obtain ⟨eb, dy, ah⟩ := ((av.f2).f2).arr_at x
  refine G ?_
  refine Qb S123.h Z ah Z (Qd x).1 (Qd x).2.1 ⟨Z, ?_⟩
  refine G ?_
  refine Qg (F := encRaw) ((av.f2).f2) ah A126.h Z Z Z x (Sub.refl _) ?_
  intro dh bs
  replace bs := (Yd.1 bs).1
  subst dh
  refine ⟨Z, ?_⟩
  refine G ?_
  refine Exec.buildSlice (Te := 125) (cs := [O af, O ab, O p]) av Z (Qc (c := [O af, O ab, O p]) (Qe Z Z) Qh) (fun _ => by kernel_rfl) ?_
  intro dt fG aw
  refine ⟨(Qa (Qi Z Z (Zm (v := i) Z Z ⟨Z, Z⟩)) (Qa (Qi Z Z (Zp F125_0.h Z Z Z ⟨Z, Z⟩)) (Qa (Qi Z Z (Zn (aw.f4) A3.h Z Z Z ⟨Z, Z⟩)) (Qa (Qi Z Z (Zm (v := i) Z Z ⟨Z, Z⟩)) (Qa (Qi Z Z (Zp F125_0.h Z Z Z ⟨Z, Z⟩)) (Qa (Qi Z Z (Zn (aw.f4) A3.h Z Z Z ⟨Z, Z⟩)) (Qa (Qi Z Z (Qb S123.h Z ah Z (Qd x).1 (Qd x).2.1 ⟨Z, Z⟩)) (Qa (Qi Z Z (Qg (F := encRaw) ((aw.f3).f3) ah A126.h Z Z Z x (Sub.refl _) (fun _ q => ⟨Z, (Yd.1 q).1⟩))) Q1)))))))), ?_⟩
  have cc := (((aw.f3).f3).f1).rows_split aN (Qd br).2.2
  obtain ⟨eE, c9, j⟩ := V j
  refine G ?_
  refine Qt (E := encArc) (ys := [(⟨af, ab, p⟩ : Arc)]) (cc.f3).f1 S126.h QnW Z (by decide) Z Z Z Z ⟨[O af, O ab, O p], [], Z, ⟨[O af], [O ab, O p], Z, Z, ⟨[O ab], [O p], Z, Z, Z⟩⟩, Z⟩ Z c9 ?_
  intro fr fH cd
  refine ⟨YD, ?_⟩
  refine G ?_
  refine Qb S123.h Z ah Z (Qd x).1 (Qd x).2.1 ?_
  obtain ⟨eF, cA, j⟩ := V j
  refine G ?_
  refine QbO ((cd.f2).f2).f2 aN ah A126.h Z Z Z Z cA ?_
  intro e9 fI ev
  cases j
  refine G ?_
  exact fq
 intro dH fJ bN
 obtain ⟨cW, d, eG, ce, ⟨dI, rfl⟩⟩ := bN
 obtain ⟨c0, cB, hm⟩ := V hm
 refine G ?_
 refine QU (E := (U .i64)) ce S22.h Z3 Z Z Z Z cB ?_
 intro n fK a3
 refine G ?_
 refine Qw (a3) S22.h Z Z ?_
 obtain ⟨a7, bI, hm⟩ := V hm
 refine G ?_
 refine QH (fun k' s' f' w' => (fun (a7 : (List Int)) => ∃ (bz : PHeap) , PHeap.le cW bz ∧ St w0 bz (Res.box ag 38 [O (l.States), O (l.Init), ao, ae, ap] :: Res.arr encRaw 126 i d :: Res.rows encArc 125 d t :: Res.arr (U .i64) 3 n a7 :: H) w' ∧ Fx f' [(66, O (k' : Int)), (1, ai), (3, Vq ag), (7, i), (11, n), (65, O ((c0.length : Int)))]) s') bI ?_ ?_ ?_
 ·have ew := (a3.f3).f3
  exact fq
 ·intro eA a7 ff dJ fL cu bO am
  obtain ⟨cX, c1, bd, ⟨dK, rfl⟩⟩ := bO
  obtain ⟨gh, aD, am⟩ := V am
  obtain ⟨ec, dz, aO⟩ := (bd.f3).arr_at aD
  refine G ?_
  refine Qb S22.h Z aO Z (Qd aD).1 (Qd aD).2.1 ?_
  obtain ⟨eH, cC, am⟩ := V am
  refine G ?_
  refine Qv bd.f3 aO A3.h Z Z Z Z (Qf.2 Z) cC ?_
  intro fM cf
  cases am
  refine G ?_
  exact ⟨cX, c1, ((cf.f3).f3).f3, (Fx.mk (FxL.cons (QD cu a3.arr_le) fxl))⟩
 intro dL fN bP
 obtain ⟨fg, eI, cg, ⟨dM, rfl⟩⟩ := bP
 obtain ⟨eJ, cD, hm⟩ := V hm
 refine G ?_
 refine QU (E := encBool) cg S36.h Z4 Z Z Z Z cD ?_
 intro u fO ch
 obtain ⟨dl, cE, hm⟩ := V hm
 refine G ?_
 refine Tc Z Z Z Z (QF cE ch rq).r ?_
 rintro bA fP ⟨cY, _, eK, ci, rfl⟩
 obtain ⟨db, bJ, hm⟩ := V hm
 refine G ?_
 refine QH (fun k' s' f' w' => (QM fun (a8 : (List Int)) (a9 : (List Bool)) => ∃ (b0 : PHeap) , PHeap.le cY b0 ∧ St w0 b0 (Res.arr encRaw 126 i d :: Res.rows encArc 125 d t :: Res.arr (U .i64) 3 n a8 :: Res.arr encBool 4 u a9 :: Res.que (U .i64) 3 bA dl :: H) w' ∧ Fx f' [(80, O (k' : Int)), (7, i), (11, n), (13, u), (14, bA), (78, ai), (79, O ((a2.length : Int)))]) s') bJ ?_ ?_ ?_
 ·have ex := ((ci.arr_que).f2).drop
  exact fq
 ·intro eB dc fh dN fQ e6 bQ m
  obtain ⟨a8, a9⟩ := dc
  replace m := Q6 m
  obtain ⟨fi, eL, a4, ⟨dO, rfl⟩⟩ := bQ
  obtain ⟨gi, cF, m⟩ := V m
  refine G ?_
  refine Jt Z Z Z cF ?_
  intro du eZ bE
  refine G ?_
  refine Zw (E := (U .i64)) a4 A3.h Z Z Z bE ?_
  intro fs cG
  obtain rfl := Qf.1 cG
  obtain ⟨gj, aE, m⟩ := V m
  obtain ⟨ed, d0, aP⟩ := (a4.f2).arr_at aE
  refine G ?_
  refine Qb S22.h Z aP Z (Qd aE).1 (Qd aE).2.1 ?_
  obtain ⟨eM, cH, m⟩ := V m
  refine G ?_
  refine Qv a4.f2 aP A3.h Z Z Z Z (Qf.2 Z) cH ?_
  intro fR be
  obtain ⟨gk, aF, m⟩ := V m
  obtain ⟨ee, d1, aQ⟩ := (be.f3).arr_at aF
  refine G ?_
  refine Qb S36.h Z aQ Z (Qd aF).1 (Qd aF).2.1 ?_
  obtain ⟨eN, cI, m⟩ := V m
  refine G ?_
  refine Qv be.f3 aQ A4.h Z Z Z Z (QC.2 Z) cI ?_
  intro fS ey
  cases m
  refine G ?_
  exact fq
 intro dP fT bR
 obtain ⟨a8, a9⟩ := db
 replace hm := Q6 hm
 obtain ⟨b1, eO, cj, ⟨dQ, rfl⟩⟩ := bR
 obtain ⟨aM, bK, e7, cv, co⟩ := Qs hm
 refine Zc (Zd (g ?_))
 refine Zc (Qba (Zx (decide_eq_false (by omega))) (Qid (Qcd (Qcd (Qex (Ze (Zc (Qo (M := fun f' w' => ∃ s', (aM = .next s' ∨ aM = .brk s') ∧ (un3 fun (bj : (List Int)) (bk : (List Bool)) (bl : (List Int)) => ∃ (b2 : PHeap) (aI : Value), PHeap.le b1 b2 ∧ St w0 b2 (Res.arr encRaw 126 i d :: Res.rows encArc 125 d t :: Res.arr (U .i64) 3 n bj :: Res.arr encBool 4 u bk :: Res.que (U .i64) 3 aI bl :: H) w' ∧ Fx f' [(7, i), (11, n), (13, u), (14, aI)]) s') ?_ ?_))))))))
 ·refine G ?_
  refine KA (fun s' f' w' => (un3 fun (bm : (List Int)) (bn : (List Bool)) (bo : (List Int)) => ∃ (b3 : PHeap) (aJ : Value), PHeap.le b1 b3 ∧ St w0 b3 (Res.arr encRaw 126 i d :: Res.rows encArc 125 d t :: Res.arr (U .i64) 3 n bm :: Res.arr encBool 4 u bn :: Res.que (U .i64) 3 aJ bo :: H) w' ∧ Fx f' [(7, i), (11, n), (13, u), (14, aJ)]) s') bK ?_ ?_
  ·have ez := cj.f4
   exact fq
  intro dd d2 dR fU bS a cw
  obtain ⟨bm, bn, bo⟩ := dd
  replace a := Qaz a
  obtain ⟨cZ, aJ, eP, a5, ⟨dS, rfl⟩⟩ := bS
  refine G ?_
  refine Qi6 (a5.f4) S22.h Z Z (G ?_)
  rcases Qp a with ⟨cq, a⟩ | ⟨cq, a⟩
  ·obtain ⟨bB, cJ, a⟩ := V a
   refine G ?_
   refine Qhj (a5.f4) S22.h Z Z Z cJ ?_
   intro dv fa bF
   refine G ?_
   refine Qh1 (E := (U .i64)) bF A3.h Z Z ?_
   intro ft cK
   obtain rfl := Qf.1 cK
   obtain ⟨d3, cL, a⟩ := V a
   refine G ?_
   refine Qhh a5.f4 S22.h Z Z Z cL ?_
   intro fu bf
   obtain ⟨gl, aG, a⟩ := V a
   obtain ⟨ef, d4, aR⟩ := (bf.f4).arr_at aG
   refine G ?_
   refine Qb S36.h Z aR Z (Qd aG).1 (Qd aG).2.1 ?_
   obtain ⟨eQ, cM, a⟩ := V a
   refine G ?_
   refine Qv bf.f4 aR A4.h Z Z Z Z (QC.2 Z) cM ?_
   intro fV ak
   obtain ⟨bv, ax, a⟩ := V a
   obtain ⟨ba, au, a1, _⟩ := (((ak.f3).f3).f1).rows_at ax
   obtain ⟨eg, d5, aS⟩ := ((ak.f3).f3).arr_at au
   refine G ?_
   refine Qb S123.h Z aS Z (Qd au).1 (Qd au).2.1 (G ?_)
   refine Qg (F := encRaw) ((ak.f3).f3) aS A126.h Z Z Z au (Sub.refl _) ?_
   intro di bt
   replace bt := (Yd.1 bt).1
   subst di
   refine G ?_
   refine Qw ((((ak.f3).f3).f1).rows_split a1 (Qd ax).2.2) S126.h Z Z ?_
   obtain ⟨fn, bu, a⟩ := V a
   obtain ⟨de, bL, a⟩ := V a
   refine G ?_
   refine QH (fun k' s' f' w' => (un3 fun (aA : (List Int)) (aB : (List Bool)) (aC : (List Int)) => ∃ (b4 : PHeap) (aq : Value), PHeap.le cZ b4 ∧ St w0 b4 (Res.arr encRaw 126 i d :: Res.rows encArc 125 d t :: Res.arr (U .i64) 3 n aA :: Res.arr encBool 4 u aB :: Res.que (U .i64) 3 aq aC :: H) w' ∧ Fx f' [(107, O (k' : Int)), (7, i), (11, n), (13, u), (14, aq), (17, O bB), (105, ba), (106, O ((bv.length : Int)))]) s') bL ?_ ?_ ?_
   ·have e0 := ak.f1
    exact fq
   ·intro cy df fj dT fW bi bT b
    obtain ⟨aA, aB, aC⟩ := df
    replace b := Qaz b
    obtain ⟨b5, aq, c2, a6, ⟨dU, rfl⟩⟩ := bT
    obtain ⟨a0, ay, b⟩ := V b
    obtain ⟨eh, d6, aT⟩ := ((a6.f1).rows_split a1 (Qd ax).2.2).arr_at ay
    refine G ?_
    refine Qb S126.h Z aT Z (Qd ay).1 (Qd ay).2.1 (G ?_)
    refine Qg (F := encArc) ((a6.f1).rows_split a1 (Qd ax).2.2) aT A125.h Z Z Z ay (Sub.refl _) ?_
    intro fv cN
    obtain rfl := Qki.1 cN
    refine G ?_
    refine Exec.alloc (cs := [O 0, O 0, O 0]) a6 QnW Z Z ?_
    intro dw fX e1
    refine G ?_
    refine JU Z Z Z ?_
    intro fY ck
    refine G ?_
    refine Jz (n0 := 13) (qs 0 13 .done) J2 (by kernel_rfl) (by kernel_rfl) ?_
    have o := ck.drew
    obtain ⟨gm, z, b⟩ := V b
    obtain ⟨ei, d7, aU⟩ := (o.f3).arr_at z
    refine G ?_
    refine Qb S22.h Z aU Z (Qd z).1 (Qd z).2.1 ⟨Z, ?_⟩
    refine G ?_
    refine Qg (F := (U .i64)) (o.f3) aU A3.h Z Z Z z (Sub.refl _) ?_
    intro fw cO
    obtain rfl := Qf.1 cO
    refine ⟨Z, ?_⟩
    obtain ⟨gn, ac, b⟩ := V b
    obtain ⟨ej, d8, aV⟩ := (o.f3).arr_at ac
    refine G ?_
    refine Qb S22.h Z aV Z (Qd ac).1 (Qd ac).2.1 ⟨Z, ?_⟩
    refine G ?_
    refine Qg (F := (U .i64)) (o.f3) aV A3.h Z Z Z ac (Sub.refl _) ?_
    intro fx cP
    obtain rfl := Qf.1 cP
    refine ⟨Z, ?_⟩
    refine G ?_
    rcases Qp b with ⟨cr, b⟩ | ⟨cr, b⟩
    ·cases b
     refine G ?_
     exact ⟨b5, aq, c2, (((((o.drop).f4).f4).f4).f4).f4, (Fx.mk (FxL.cons (QD bi (by have h := Qr bu; simpa [maxLen] using h)) fxl))⟩
    refine G ?_
    refine Jz (n0 := 10) (qs 0 10 .done) J2 (by kernel_rfl) (by kernel_rfl) (G ?_)
    refine Zn (o.drew) A3.h Z Z Z ⟨Z, ?_⟩
    obtain ⟨ek, d9, aW⟩ := ((o.drew).f3).arr_at z
    refine G ?_
    refine Qb S22.h Z aW Z (Qd z).1 (Qd z).2.1 ⟨Z, ?_⟩
    refine G ?_
    refine Qg (F := (U .i64)) ((o.drew).f3) aW A3.h Z Z Z z (Sub.refl _) ?_
    intro fy cQ
    obtain rfl := Qf.1 cQ
    refine ⟨Z, ?_⟩
    refine G ?_
    refine Zn (o.drew) A3.h Z Z Z ⟨Z, ?_⟩
    obtain ⟨el, dA, aX⟩ := ((o.drew).f3).arr_at ac
    refine G ?_
    refine Qb S22.h Z aX Z (Qd ac).1 (Qd ac).2.1 ?_
    obtain ⟨c3, cR, b⟩ := V b
    refine G ?_
    refine Qv (o.drew).f3 aX A3.h Z Z Z Z (Qf.2 Z) cR ?_
    intro fZ al
    obtain ⟨go, ad, b⟩ := V b
    obtain ⟨em, dB, aY⟩ := (al.f4).arr_at ad
    refine G ?_
    refine Qb S36.h Z aY Z (Qd ad).1 (Qd ad).2.1 (G ?_)
    refine Qg (F := encBool) (al.f4) aY A4.h Z Z Z ad (Sub.refl _) ?_
    intro fz cS
    obtain rfl := QC.1 cS
    obtain ⟨b8, y, b⟩ := V b
    refine g ?_
    refine Qo (M := fun f' w' => (QM fun (bp : (List Bool)) (bq : (List Int)) => ∃ (b6 : PHeap) (az : Value), PHeap.le b5 b6 ∧ St w0 b6 (Res.arr encRaw 126 i d :: Res.rows encArc 125 d t :: Res.arr (U .i64) 3 n c3 :: Res.arr encBool 4 u bp :: Res.que (U .i64) 3 az bq :: H) w' ∧ Fx f' [(7, i), (11, n), (13, u), (14, az), (17, O bB), (105, ba), (106, O ((bv.length : Int))), (107, O ((cy : Int)))]) b8) ?_ ?_
    ·rcases Qp y with ⟨ct, y⟩ | ⟨ct, y⟩
     ·refine G ?_
      refine Jz (n0 := 9) (qs 0 6 (.e 6 [0, 1, 2, 3] (.e 7 [0, 1, 2] (.e 8 [0, 1, 2] .done)))) J2 (by kernel_rfl) (by kernel_rfl) (G ?_)
      refine Zn ((al.drew).f1) A3.h Z Z Z ⟨Z, ?_⟩
      refine G ?_
      refine Zn ((al.drew).f1) A3.h Z Z Z ⟨Z, ?_⟩
      refine G ?_
      refine Exec.buildSlice (Te := 3) (cs := [O (a0.To)]) al.drew Z (Qc (c := [O (a0.To)]) (Qe Z Z) Qh) (fun _ => by kernel_rfl) ?_
      intro dx ga cl
      refine ⟨YD, ?_⟩
      obtain ⟨eR, cT, y⟩ := V y
      refine G ?_
      refine QfR (E := (U .i64)) (ys := [a0.To]) cl.f6 S22.h Z3 Z (by decide) Z Z Z Z ⟨[O (a0.To)], [], Z, Z, Z⟩ Z cT ?_
      intro dj gb bg
      refine ⟨YD, ?_⟩
      refine G ?_
      refine Zo (v := dj) Z Z (⟨YD, ?_⟩)
      obtain ⟨en, dC, aZ⟩ := (bg.f5).arr_at ad
      refine G ?_
      refine Qb S36.h Z aZ Z (Qd ad).1 (Qd ad).2.1 ?_
      obtain ⟨eS, cU, y⟩ := V y
      refine G ?_
      refine Qv bg.f5 aZ A4.h Z Z Z Z (QC.2 Z) cU ?_
      intro gc e2
      cases y
      refine G ?_
      exact fq
     cases y
     refine G ?_
     exact fq
    intro dV gd bW
    obtain ⟨bp, bq⟩ := b8
    replace b := Q6 b
    obtain ⟨da, az, eT, cm, ⟨dW, rfl⟩⟩ := bW
    cases b
    refine G ?_
    exact ⟨da, az, lq, ((((cm.f4).f4).f4).f4).f4, (Fx.mk (FxL.cons (QD bi (by have h := Qr bu; simpa [maxLen] using h)) fxl))⟩
   intro dX gf bU
   obtain ⟨aA, aB, aC⟩ := de
   replace a := Qaz a
   obtain ⟨fk, aq, eU, e3, ⟨dY, rfl⟩⟩ := bU
   cases a
   refine G ?_
   exact ⟨_, Z, fq⟩
  cases a
  refine G ?_
  exact ⟨_, .inr (cw (by intro _ h; cases h)), fq⟩
 rintro dZ gg ⟨dg, bh, bX⟩
 have hm := bh.elim (cv _) (co _)
 clear bh
 obtain ⟨bj, bk, bl⟩ := dg
 replace hm := Qaz hm
 obtain ⟨fl, aI, eV, cn, ⟨ea, rfl⟩⟩ := bX
 cases hm
 refine G ?_
 refine ⟨_, Yc Z, ?_⟩
 obtain ⟨fm, eW, e4, fb⟩ := cn.f2.freezeArr
 exact fq
theorem QcQ {w0 w : World} {s : PHeap} {H : List Res} {a : System} {b : Value} {c : Value} {d : Value} {r : (List Int) × (Option Int)} (hm : Kq a = some r) (hS : St w0 s (H) w) (j : SliceRep (U .i64) s b a.Costs) (k : SliceRep encEdge s c a.Edges) (l : SliceRep encBool s d a.Goals) :
  Calls Tryz.prog 24 #[Value.agg #[O (a.States), O (a.Init), b, c, d]] w fun e w' => ∃ v, e = .returned v ∧ ((QM fun (y : (List Int)) (z : (Option Int)) => ∃ (g : PHeap) (i : Value), PHeap.le s g ∧ St w0 g (H) w' ∧ v = Value.tuple #[i, Qaw 57 (z)] ∧ SliceRep (U .i64) g i y) r) := by
 unfold Kq at hm
 refine Qj Tryz.func24 Z Z (G ?_)
 refine JY Z Z ?_
 intro aa al m
 obtain ⟨ap, p, hm⟩ := V hm
 refine G ?_
 refine Tc Z Z Z Z (KI p m j k l).r ?_
 rintro _ am ⟨ag, ac, f, rfl⟩
 refine G ?_
 rcases Qp hm with ⟨o, hm⟩ | ⟨o, hm⟩
 ·refine G ?_
  refine Exec.makeInterface C57 Z Z ?_
  cases hm
  refine G ?_
  refine ⟨_, Qb4 Z, ?_⟩
  exact fq
 refine G ?_
 refine Jz (n0 := 4) (.q 0 (.q 1 (.e 2 [0] (.e 3 [] .done)))) J2 (by kernel_rfl) (by kernel_rfl) (G ?_)
 refine Q4 (ds := [O (a.States), O (a.Init), b, c, d]) (f.drew) A38.h Z Z Z ⟨Z, ?_⟩
 refine G ?_
 refine Q4 (ds := [O (a.States), O (a.Init), b, c, d]) (f.drew) A38.h Z Z Z ⟨Z, ?_⟩
 obtain ⟨aq, t, hm⟩ := V hm
 refine G ?_
 refine Tc Z Z Z Z (QeK t f.drew rq rq rq).r ?_
 rintro aj an ⟨ah, _, ad, n, rfl, x⟩
 refine ⟨YD, ?_⟩
 obtain ⟨ar, u, hm⟩ := V hm
 refine G ?_
 refine Tc Z Z Z Z (Qdm u n rq rq rq x).r ?_
 rintro ak ao ⟨ai, _, ae, ab, rfl, af⟩
 refine ⟨YD, ?_⟩
 cases hm
 refine G ?_
 refine ⟨_, Qb4 Z, ?_⟩
 exact fq
instance F61_2 : FTy Tryz.prog 61 2 2 := ⟨by kernel_rfl⟩
theorem KB {w0 w : World} {s : PHeap} {H : List Res} {b : Task} {q : (List Int)} {p : Int} {ac : Value} {ad : Value} {ae : Value} {af : Value} {ag : Value} {r : (Option mergeshrink_Abstraction) × (Option Int)} (hm : QR b q p = some r) (hS : St w0 s (H) w) (ai : SliceRep (U .i64) s ac b.Vars) (aj : SliceRep (U .i64) s ad b.Init) (ak : SliceRep encFact s ae b.Goal) (al : SliceRep encOp s af b.Ops) (aQ : SliceRep (U .i64) s ag q) :
  Calls Tryz.prog 7 #[Value.agg #[ac, ad, ae, af], ag, O p] w fun e w' => ∃ v, e = .returned v ∧ ((QM fun (t : (Option mergeshrink_Abstraction)) (ah : (Option Int)) => (∃ a : mergeshrink_Abstraction, t = some a ∧ ∃ (g : PHeap) (y : Value) (j : Nat) (z : Value) (aa : Value), PHeap.le s g ∧ St w0 g (Res.box j 61 [z, aa, y, Value.bool (a.exact)] :: Res.arr (U .i64) 3 z a.vars :: Res.arr encmergeshrink_stage 75 aa a.stages :: H) w' ∧ v = Value.tuple #[Value.pointer (some ⟨j, 0, none⟩), Qaw 57 (ah)] ∧ SliceRep (U .i64) g y a.distance) ∨ (t = none ∧ ∃ (u : PHeap) , PHeap.le s u ∧ St w0 u (H) w' ∧ v = Value.tuple #[Value.pointer none, Qaw 57 (ah)])) r) := by
 unfold QR at hm
 refine Qj Tryz.func7 Z Z (G ?_)
 refine JY Z Z ?_
 intro aR bf an
 obtain ⟨bs, a8, hm⟩ := V hm
 refine G ?_
 refine Tc Z Z Z Z (Qdi a8 an ai aj ak al).r ?_
 rintro _ bg ⟨aK, o, k, rfl⟩
 refine G ?_
 refine QL (T := 57) Tryz.underlying32 Z Z Z (G ?_)
 rcases Qp hm with ⟨ax, hm⟩ | ⟨ax, hm⟩
 ·cases hm
  refine G ?_
  refine ⟨_, Qb4 Z, ?_⟩
  refine (Or.inr ⟨Z, ?_⟩); exact ⟨aK, o, k.drop, (QjB Z Z)⟩
 refine G ?_
 refine Tc Z Z Z Z (QjU k rq).r ?_
 rintro _ bh ⟨aW, aS, a1, ao, rfl, aF⟩
 obtain ⟨bt, a9, hm⟩ := V hm
 refine G ?_
 refine Tc Z Z Z Z (QbW a9 ao aF).r ?_
 rintro ba bi ⟨aX, _, a2, ap, rfl, aV⟩
 obtain ⟨bu, aA, hm⟩ := V hm
 refine G ?_
 refine Tc Z Z Z Z (Qbr aA ap).r ?_
 rintro bb bj ⟨aY, _, a3, aq, rfl, aG⟩
 obtain ⟨bv, aB, hm⟩ := V hm
 refine G ?_
 refine Tc Z Z Z Z (Y1 aB aq rq aG).r ?_
 rintro _ bk ⟨aL, a4, l, rfl⟩
 refine G ?_
 rcases Qp hm with ⟨ay, hm⟩ | ⟨ay, hm⟩
 ·refine G ?_
  refine Exec.makeInterface C57 Z Z ?_
  cases hm
  refine G ?_
  refine ⟨_, Qb4 Z, ?_⟩
  refine (Or.inr ⟨Z, ?_⟩); exact ⟨aL, lq, l.drop, (QjB Z Z)⟩
 obtain ⟨bw, aC, hm⟩ := V hm
 refine G ?_
 refine Tc Z Z Z Z (QF aC l rq).r ?_
 rintro d bl ⟨aZ, _, a5, ar, rfl⟩
 refine G ?_
 refine Exec.build Z (Qc (c := [d]) (Qe Z (Ql ar.arr_one)) (Qc (c := [Vb true]) (Qe Z Z) Qh)) (v := Value.agg #[d, Vn, Vn, Vb true]) (fun _ => by kernel_rfl) (G ?_)
 refine JY Z Z ?_
 intro am bm au
 refine G ?_
 refine QdC Z Z Z (G ?_)
 refine QaQ Z Z Z ?_
 obtain ⟨aN, aD, hm⟩ := V hm
 obtain ⟨bx, bz, b2, aP⟩ := aN
 replace hm := QhX hm
 refine G ?_
 refine Tc Z Z Z (Zi Z (Zi Z (Zi Z (Zi Z QT)))) (YP aD (au.f1).f1 rq rq rq rq rq).r ?_
 rintro _ bn ⟨aM, bc, bd, be, ab, a6, av, rfl, aH, aI, aJ⟩
 refine G ?_
 refine Exec.alloc (cs := [O 0, O 0, Vn, Vn, Vn]) av Z38 Z Z ?_
 intro aT bo aU
 refine G ?_
 refine JU Z Z Z ?_
 intro bp m
 refine G ?_
 refine QL (T := 57) Tryz.underlying32 Z Z Z (G ?_)
 rcases Qp hm with ⟨az, hm⟩ | ⟨az, hm⟩
 ·cases hm
  refine G ?_
  refine ⟨_, Qb4 Z, ?_⟩
  refine (Or.inr ⟨Z, ?_⟩); exact ⟨aM, lq, ((((m.drop).drop).drop).drop).drop, (QjB Z Z)⟩
 obtain ⟨aO, aE, hm⟩ := V hm
 obtain ⟨b0, b1⟩ := aO
 replace hm := Q6 hm
 refine G ?_
 refine Tc Z Z Z Z (QcQ aE m aH aI aJ).r ?_
 rintro _ bq ⟨x, i, a7, aw, rfl, f⟩
 refine G ?_
 refine Qq (ds := [i]) (es := [d, ab, i, Vb aP]) aw.f1 A22.h Z Z Z (Ql f.one) (Zj f.one Ja) (Nat.le_of_ble_eq_true Z) Z ?_
 intro br n
 refine G ?_
 refine QL (T := 57) Tryz.underlying32 Z Z Z (G ?_)
 rcases Qp hm with ⟨a0, hm⟩ | ⟨a0, hm⟩
 ·cases hm
  refine G ?_
  refine ⟨_, Qb4 Z, ?_⟩
  refine (Or.inr ⟨Z, ?_⟩); exact ⟨x, lq, ((((n.drop).drop).drop).drop).drop, (QjB Z Z)⟩
 cases hm
 refine G ?_
 refine ⟨_, Qb4 Z, ?_⟩
 refine (Or.inl ⟨_, Z, ?_⟩); exact ⟨x, i, am, d, ab, (Zt (Zt (Zt (Zt (Zt (Zt (Zt o a1) a2) a3) a4) a5) a6) a7), ((((((n.f1).drop).f3).drop).f2).f2).f2, (QjB Z Z), f⟩
instance F61_0 : FTy Tryz.prog 61 0 0 := ⟨by kernel_rfl⟩
theorem QeM {w0 w : World} {s : PHeap} {H : List Res} {d : (List Int)} {i : (List Int)} {b : Value} {j : Value} {r : Bool} (hm : Qaf d i = some r) (hS : St w0 s (Res.arr (U .i64) 3 b d :: H) w) (aw : SliceRep (U .i64) s j i) :
  Calls Tryz.prog 29 #[b, j] w fun e w' => ∃ v, e = .returned v ∧ ((fun (av : Bool) => ∃ (u : PHeap) , PHeap.le s u ∧ St w0 u (Res.arr (U .i64) 3 b d :: H) w' ∧ v = Value.bool (av)) r) := by
 unfold Qaf at hm
 refine Qj Tryz.func29 Z Z (G ?_)
 refine Qw (hS) S22.h Z Z (G ?_)
 rcases Qp hm with ⟨q, hm⟩ | ⟨q, hm⟩
 ·cases hm
  refine G ?_
  exact fr
 obtain ⟨o, ab, al, aj, ag⟩ := Qs hm
 refine W_c Z q (QaN (J3 (Ze (Zc (Zc (Zd (g ?_)))))))
 refine Qo (M := fun f' w' => ∃ s', (o = .next s' ∨ o = .brk s') ∧ (fun (_ : Unit) => ∃ (x : PHeap) , PHeap.le s x ∧ St w0 x (Res.arr (U .i64) 3 b d :: H) w' ∧ Fx f' [(0, b), (12, j), (13, O ((i.length : Int)))]) s') ?_ ?_
 ·refine G ?_
  refine QP (fun k' s' f' w' => (fun (_ : Unit) => ∃ (y : PHeap) , PHeap.le s y ∧ St w0 y (Res.arr (U .i64) 3 b d :: H) w' ∧ Fx f' [(14, O (k' : Int)), (0, b), (12, j), (13, O ((i.length : Int)))]) s') ab ?_ ?_ ?_
  ·exact fq
  ·intro ao aL ay a0 aQ aC ac a am
   obtain ⟨au, aD, m, ⟨a1, rfl⟩⟩ := ac
   obtain ⟨aU, ap, a⟩ := V a
   refine G ?_
   refine Jt Z Z Z ap ?_
   intro ax aH aa
   refine G ?_
   refine Zw (E := (U .i64)) m A3.h Z Z Z aa ?_
   intro aO aq
   obtain rfl := Qf.1 aq
   obtain ⟨n, c, a⟩ := V a
   refine g ?_
   refine Zc (Qo (M := fun f' w' => (fun (n : Bool) => ∃ (z : PHeap) , PHeap.le au z ∧ St w0 z (Res.arr (U .i64) 3 b d :: H) w' ∧ Fx f' [(0, b), (12, j), (13, O ((i.length : Int))), (14, O ((ao : Int))), (28, Vb n)]) n) ?_ ?_)
   ·refine G ?_
    rcases Qp c with ⟨ah, c⟩ | ⟨ah, c⟩
    ·cases c
     refine G ?_
     exact fq
    obtain ⟨aV, l, c⟩ := V c
    obtain ⟨a8, az, p⟩ := m.arr_at l
    refine G ?_
    refine Qb S22.h Z p Z (Qd l).1 (Qd l).2.1 (G ?_)
    refine Qg (F := (U .i64)) (m) p A3.h Z Z Z l (Sub.refl _) ?_
    intro aP ar
    obtain rfl := Qf.1 ar
    cases c
    refine G ?_
    exact fq
   intro a2 aR ae
   obtain ⟨aI, aE, a9, ⟨a3, rfl⟩⟩ := ae
   refine G ?_
   rcases Qp a with ⟨ai, a⟩ | ⟨ai, a⟩
   ·cases a
    have ak := al _ (am (by intro _ h; cases h))
    cases ak
    refine G ?_
    exact fr
   cases a
   refine G ?_
   exact ⟨_, Z, fq⟩
  intro aM a4 aS ad an
  obtain ⟨aJ, aF, aA, ⟨a5, rfl⟩⟩ := ad
  refine G ?_
  exact ⟨_, .inl an, fq⟩
 rintro a6 aT ⟨aN, t, af⟩
 have hm := t.elim (aj _) (ag _)
 clear t
 obtain ⟨aK, aG, aB, ⟨a7, rfl⟩⟩ := af
 cases hm
 refine G ?_
 exact fr
instance F75_0 : FTy Tryz.prog 75 0 0 := ⟨by kernel_rfl⟩
theorem JM {w0 w : World} {s : PHeap} {H : List Res} {a : mergeshrink_Abstraction} {al : (List Int)} {i : Nat} {d : Value} {b : Value} {n : Value} {q : Value} {r : Int} (hm : Q0 a al = some r) (hS : St w0 s (Res.box i 61 [d, b, n, Value.bool (a.exact)] :: Res.arr (U .i64) 3 d a.vars :: Res.arr encmergeshrink_stage 75 b a.stages :: H) w) (ao : SliceRep (U .i64) s n a.distance) (ad : SliceRep (U .i64) s q al) :
  Calls Tryz.prog 13 #[Value.pointer (some ⟨i, 0, none⟩), q] w fun e w' => ∃ v, e = .returned v ∧ ((fun (aK : Int) => ∃ (ai : PHeap) , PHeap.le s ai ∧ St w0 ai (Res.box i 61 [d, b, n, Value.bool (a.exact)] :: Res.arr (U .i64) 3 d a.vars :: Res.arr encmergeshrink_stage 75 b a.stages :: H) w' ∧ v = O aK) r) := by
 unfold Q0 at hm
 refine Qj Tryz.func13 Z Z (G ?_)
 refine Qcj Tryz.underlying30 Z Z Z ?_
 obtain ⟨b0, a8, hm⟩ := V hm
 refine G ?_
 refine Tc Z Z Z (Zi Z (Zi Z QT)) (QeM a8 hS.f1 ad).r ?_
 rintro _ bp ⟨ab, aa, o, rfl⟩
 refine G ?_
 rcases KV hm with ⟨y, hm⟩ | ⟨y, hm⟩
 ·have aR := Zu hm
  subst r
  refine G ?_
  refine ⟨_, Yc Z, ?_⟩
  exact ⟨ab, aa, ((o.f2).f1).f2, Z⟩
 replace y := Zk y
 refine G ?_
 refine Qw (o.f2) S59.h Z Z ?_
 obtain ⟨u, av, hm⟩ := V hm
 refine G ?_
 refine QH (fun k' s' f' w' => (fun (u : Int) => ∃ (aj : PHeap) , PHeap.le ab aj ∧ St w0 aj (Res.box i 61 [d, b, n, Vb (a.exact)] :: Res.arr (U .i64) 3 d a.vars :: Res.arr encmergeshrink_stage 75 b a.stages :: H) w' ∧ Fx f' [(25, O (k' : Int)), (0, Vq i), (1, q), (5, O u), (23, b), (24, O ((a.stages.length : Int)))]) s') av ?_ ?_ ?_
 ·have az := o.f2
  exact ⟨ab, (Zv _), (az.f1).f2, (Fx.mk)⟩
 ·intro a5 u aI aY bq a4 aw c
  obtain ⟨ac, af, x, ⟨aZ, rfl⟩⟩ := aw
  obtain ⟨t, p, c⟩ := V c
  obtain ⟨be, aQ, ae⟩ := (x.f2).arr_at p
  refine G ?_
  refine Qb S59.h Z ae Z (Qd p).1 (Qd p).2.1 (G ?_)
  refine Qg (F := encmergeshrink_stage) (x.f2) ae A75.h Z Z Z p (Sub.refl _) ?_
  intro bk a9
  obtain ⟨am, an, rfl, ag, ah⟩ := Qcn.1 a9
  refine G ?_
  refine Exec.alloc (cs := [O 0, Vn, Vn, O 0]) x Z75 Z Z ?_
  intro aL br a0
  refine G ?_
  refine Qq (ds := [O (t.variable_), am, an, O (t.states)]) (es := [O (t.variable_), am, an, O (t.states)]) a0 A75.h Z Z Z Z (Zj Z (Zj ag.one (Zj ah.one (Zj Z Ja)))) (Nat.le_of_ble_eq_true Z) Z ?_
  intro bs a1
  refine G ?_
  refine Jz (n0 := 9) (qs 0 9 .done) J2 (by kernel_rfl) (by kernel_rfl) ?_
  have j := a1.drew
  obtain ⟨bv, aA, c⟩ := V c
  refine G ?_
  refine Qm S22.h Z Z Z (ad.mono (Zt aa af)) aA ?_
  intro aM bf ap aS
  refine ⟨Z, ?_⟩
  refine G ?_
  refine Zw (E := (U .i64)) j A3.h Z Z Z ap ?_
  intro bl aB
  obtain rfl := Qf.1 aB
  refine ⟨Z, ?_⟩
  obtain ⟨bw, aC, c⟩ := V c
  refine G ?_
  refine Qm S22.h Z Z Z ag aC ?_
  intro aN bg aq aT
  refine ⟨Z, ?_⟩
  refine G ?_
  refine Zw (E := (U .i64)) j A3.h Z Z Z aq ?_
  intro bm aD
  obtain rfl := Qf.1 aD
  refine ⟨Z, ?_⟩
  obtain ⟨m, l, c⟩ := V c
  refine g ?_
  refine Zc (Zd (g ?_))
  refine Qo (M := fun f' w' => (fun (m : Int) => ∃ (ak : PHeap) , PHeap.le ac ak ∧ St w0 ak (Res.box i 61 [d, b, n, Vb (a.exact)] :: Res.arr (U .i64) 3 d a.vars :: Res.arr encmergeshrink_stage 75 b a.stages :: H) w' ∧ Fx f' [(0, Vq i), (1, q), (5, O m), (23, b), (24, O ((a.stages.length : Int))), (25, O ((a5 : Int)))]) m) ?_ ?_
  ·rcases KV l with ⟨z, l⟩ | ⟨z, l⟩
   ·have aU := Zu l
    subst m
    refine G ?_
    exact ⟨ac, (Zv _), (((j.drop).f2).f2).f2, (Fx.mk)⟩
   replace z := Zk z
   refine G ?_
   refine Jz (n0 := 10) (qs 0 10 .done) J2 (by kernel_rfl) (by kernel_rfl) (G ?_)
   refine Zn (j.drew) A22.h Z Z Z ⟨Z, ?_⟩
   obtain ⟨bx, aE, l⟩ := V l
   refine G ?_
   refine Qm S22.h Z Z Z ah aE ?_
   intro aO bh ar aV
   refine ⟨Z, ?_⟩
   refine G ?_
   refine Zw (E := (U .i64)) j.drew A3.h Z Z Z ar ?_
   intro bn aF
   obtain rfl := Qf.1 aF
   refine ⟨Z, ?_⟩
   refine G ?_
   refine Zn (j.drew) A3.h Z Z Z ⟨Z, ?_⟩
   have aW := Zu l
   subst m
   refine G ?_
   exact ⟨ac, (Zv _), ((((j.drew).drop).f2).f2).f2, (Fx.mk)⟩
  intro ba bt ay
  obtain ⟨aJ, a6, a2, ⟨bb, rfl⟩⟩ := ay
  have aX := Zu c
  subst aI
  refine G ?_
  exact ⟨aJ, (Zt af a6), ((a2.f2).f2).f2, (Fx.mk (FxL.cons (QD a4 (o.f2).arr_le) fxl))⟩
 intro bc bu ax
 obtain ⟨bj, a7, a3, ⟨bd, rfl⟩⟩ := ax
 obtain ⟨bz, aG, hm⟩ := V hm
 refine G ?_
 refine YB S22.h Z Z Z (ao.mono (Zt aa a7)) aG ?_
 intro aP bi au
 refine G ?_
 refine Zw (E := (U .i64)) a3 A3.h Z Z Z au ?_
 intro bo aH
 obtain rfl := Qf.1 aH
 cases hm
 refine G ?_
 exact fr
theorem JS {w0 w : World} {s : PHeap} {H : List Res} {a : mergeshrink_Abstraction} {d : Nat} {b : Value} {c : Value} {f : Value} {r : Int} (hm : Jj a = some r) (hS : St w0 s (Res.box d 61 [b, c, f, Value.bool (a.exact)] :: Res.arr (U .i64) 3 b a.vars :: Res.arr encmergeshrink_stage 75 c a.stages :: H) w) (i : SliceRep (U .i64) s f a.distance) :
  Calls Tryz.prog 9 #[Value.pointer (some ⟨d, 0, none⟩)] w fun e w' => ∃ v, e = .returned v ∧ ((fun (h : Int) => ∃ (g : PHeap) , PHeap.le s g ∧ St w0 g (Res.box d 61 [b, c, f, Value.bool (a.exact)] :: Res.arr (U .i64) 3 b a.vars :: Res.arr encmergeshrink_stage 75 c a.stages :: H) w' ∧ v = O h) r) := by
 unfold Jj at hm
 refine Qj Tryz.func9 Z Z (G ?_)
 refine Qcj Tryz.underlying30 Z Z Z ?_
 have j := Zu hm
 subst r
 refine G ?_
 refine ⟨_, Yc Z, ?_⟩
 exact ⟨s, (Zv _), ((hS.f2).f2).f2, Z⟩
theorem JN {w0 w : World} {s : PHeap} {H : List Res} {a : mergeshrink_Abstraction} {d : Nat} {b : Value} {c : Value} {f : Value} {r : Bool} (hm : Jg a = some r) (hS : St w0 s (Res.box d 61 [b, c, f, Value.bool (a.exact)] :: Res.arr (U .i64) 3 b a.vars :: Res.arr encmergeshrink_stage 75 c a.stages :: H) w) (i : SliceRep (U .i64) s f a.distance) :
  Calls Tryz.prog 10 #[Value.pointer (some ⟨d, 0, none⟩)] w fun e w' => ∃ v, e = .returned v ∧ ((fun (h : Bool) => ∃ (g : PHeap) , PHeap.le s g ∧ St w0 g (Res.box d 61 [b, c, f, Value.bool (a.exact)] :: Res.arr (U .i64) 3 b a.vars :: Res.arr encmergeshrink_stage 75 c a.stages :: H) w' ∧ v = Value.bool (h)) r) := by
 unfold Jg at hm
 refine Qj Tryz.func10 Z Z (G ?_)
 refine QeV Tryz.underlying30 Z Z Z ?_
 have j := Zu hm
 subst r
 refine G ?_
 refine ⟨_, Yc Z, ?_⟩
 exact ⟨s, (Zv _), ((hS.f2).f2).f2, Z⟩
end Go.Pw
