/- -/
import Derived.Test.YtjbjflndiajoiaaGreatDoorLD
import Derived.Test.YtjbjflndiajoiaaGreatDoorLC
import Derived.Test.YtjbjflndiajoiaaGreatDoorWa7
import Derived.Test.YtjbjflndiajoiaaGreatDoorWaX2
set_option maxRecDepth 100000
set_option maxHeartbeats 4000000
set_option linter.unusedVariables false
namespace Go.Pw
open Go.Proofs
attribute [local irreducible] Exec WL W andThen Qax DL QX
theorem QeG {w0 w : World} {s : PHeap} {H : List Res} {b : System} {a : System} {ab : Value} {ac : Value} {ad : Value} {x : Value} {y : Value} {z : Value} {r : (Option Int) × System} (hm : Yc b a = some r) (hS : St w0 s (H) w) (bx : SliceRep (U .i64) s ab b.Costs) (bz : SliceRep encEdge s ac b.Edges) (aP : SliceRep encBool s ad b.Goals) (b0 : SliceRep (U .i64) s x a.Costs) (b1 : SliceRep encEdge s y a.Edges) (aQ : SliceRep encBool s z a.Goals) :
  Calls Tryz.prog 57 #[Value.agg #[O (b.States), O (b.Init), ab, ac, ad], Value.agg #[O (a.States), O (a.Init), x, y, z]] w fun e w' => ∃ v, e = .returned v ∧ ((QI fun (d0 : (Option Int)) (au : System) => ∃ (ao : PHeap) (br : Value) (bs : Value) (bt : Value), PHeap.le s ao ∧ St w0 ao (H) w' ∧ v = Value.tuple #[Value.agg #[O (au.States), O (au.Init), br, bs, bt], K4 52 (d0)] ∧ SliceRep (U .i64) ao br au.Costs ∧ SliceRep encEdge ao bs au.Edges ∧ SliceRep encBool ao bt au.Goals) r) := by
 unfold Yc at hm
 refine Qd Tryz.func57 Z Z (G ?_)
 refine Kq Z Z ?_
 intro aa fA et
 refine G ?_
 refine Kq Z Z ?_
 intro l fB bV
 refine G ?_
 refine Exec.alloc (cs := [O 0, O 0, Vn, Vn, Vn]) bV Z58 Z Z ?_
 intro m fC bW
 obtain ⟨aN, o, hm⟩ := V hm
 refine g ?_
 refine Zc (Zc (Qp (M := fun f' w' => (fun (aN : Bool) => ∃ (bg : PHeap) , PHeap.le s bg ∧ St w0 bg (Res.box aa 58 [O (b.States), O (b.Init), ab, ac, ad] :: Res.box l 58 [O (a.States), O (a.Init), x, y, z] :: Res.box m 58 [O 0, O 0, Vn, Vn, Vn] :: H) w' ∧ Fx f' [(2, Vq aa), (3, Vq l), (4, Vq m), (33, Vb aN)]) aN) ?_ ?_))
 ·obtain ⟨g0, cH, o⟩ := V o
  refine G ?_
  refine Tc Z Z Z Z (Yb cH bW bx bz aP).r ?_
  rintro _ fD ⟨fd, e9, bX, rfl⟩
  refine G ?_
  rcases Qs o with ⟨c2, o⟩ | ⟨c2, o⟩
  ·cases o
   refine G ?_
   exact fq
  obtain ⟨g1, cI, o⟩ := V o
  refine G ?_
  refine Tc Z Z Z Z (Yb cI bX rq rq rq).r ?_
  rintro _ fE ⟨fe, eA, bY, rfl⟩
  refine G ?_
  rcases Qs o with ⟨c3, o⟩ | ⟨c3, o⟩
  ·cases o
   refine G ?_
   exact fq
  obtain ⟨g2, cJ, o⟩ := V o
  refine G ?_
  refine Tc Z Z Z Z (YZ cJ bY rq rq).r ?_
  rintro _ fF ⟨ff, eB, eu, rfl⟩
  cases o
  refine G ?_
  exact fq
 intro dN fG bS
 obtain ⟨dk, am, bZ, ⟨dO, rfl⟩⟩ := bS
 refine G ?_
 rcases Qs hm with ⟨c4, hm⟩ | ⟨c4, hm⟩
 ·refine G ?_
  refine Exec.build Z Qi (v := Value.agg #[O 0, O 0, Vn, Vn, Vn]) (fun _ => by kernel_rfl) (G ?_)
  refine Exec.makeInterface C52 Z Z (G ?_)
  refine KJ Z Z Z ?_
  intro fH ca
  cases hm
  refine G ?_
  refine ⟨_, QaS Z ⟨_, _, Z, Kb (ca) A58.h⟩ Z, ?_⟩
  exact fq
 refine G ?_
 rcases Qs hm with ⟨aZ, hm⟩ | ⟨aZ, hm⟩
 ·refine G ?_
  refine Exec.build Z Qi (v := Value.agg #[O 0, O 0, Vn, Vn, Vn]) (fun _ => by kernel_rfl) (G ?_)
  refine Exec.makeInterface C52 Z Z (G ?_)
  refine KJ Z Z Z ?_
  intro fI cb
  cases hm
  refine G ?_
  refine ⟨_, QaS Z ⟨_, _, Z, Kb (cb) A58.h⟩ Z, ?_⟩
  exact fq
 obtain ⟨ae, bd, hm⟩ := V hm
 refine W_c Z aZ (Qa4 (Jt (Ze (Zc (Qp (M := fun f' w' => ∃ (bh : PHeap) (n : Nat) (j : Value), PHeap.le dk bh ∧ St w0 bh (Res.box aa 58 [O (b.States), O (b.Init), ab, ac, ad] :: Res.box l 58 [O (a.States), O (a.Init), x, y, z] :: Res.box m 58 [O 0, O 0, Vn, Vn, Vn] :: Res.box n 58 [O (IntKind.i64.wrap (b.States * a.States)), O (IntKind.i64.wrap ((IntKind.i64.wrap (b.Init * a.States)) + a.Init)), j, Vn, Vn] :: Res.arr (U .i64) 3 j ae :: H) w' ∧ Fx f' [(2, Vq aa), (3, Vq l), (4, Vq m), (6, Vq n)]) ?_ ?_)))))
 ·refine JE (n0 := 18) (qs 0 15 (.alt (.e 15 [0, 1, 2, 3, 4, 5, 6, 7, 8, 9, 10, 11, 12] (.q 16 (.e 17 [0, 1, 2, 3, 4, 5, 6, 7, 8, 9, 10, 11, 12, 16] .done))) (.e 17 [0, 1, 2, 3, 4, 5, 6, 7, 8, 9, 10, 11, 12, 13, 14] (.e 15 [0, 1, 2, 3, 4, 5, 6, 7, 8, 9, 10, 11, 12] (.q 16 .done))))) JM (by kernel_rfl) (by kernel_rfl) ?_
  have aS := bZ.drew
  refine G ?_
  refine Qgf ?_ ?_
  ·refine G ?_
   refine Tc Z Z Z Z (Q8 bd aS rq).r ?_
   rintro ay fJ ⟨fg, _, eC, aT, rfl⟩
   refine ⟨agq, ?_⟩
   refine G ?_
   refine Exec.build Z (Qc (c := [O (IntKind.i64.wrap (b.States * a.States))]) (Qe Z Z) (Qc (c := [O (IntKind.i64.wrap ((IntKind.i64.wrap (b.Init * a.States)) + a.Init))]) (Qe Z Z) (Qc (c := [ay]) (Qe Z (Qz aT.arr_one)) Qi))) (v := Value.agg #[O (IntKind.i64.wrap (b.States * a.States)), O (IntKind.i64.wrap ((IntKind.i64.wrap (b.Init * a.States)) + a.Init)), ay, Vn, Vn]) (fun _ => by kernel_rfl) ⟨Z, ?_⟩
   refine G ?_
   refine Exec.alloc (cs := [O 0, O 0, Vn, Vn, Vn]) aT Z58 Z Z ?_
   intro d1 fK ah
   refine ⟨(Qh (Q1 Z Z (Zp F58_0.h Z Z Z ⟨Z, Z⟩)) (Qh (Q1 Z Z (Zn (ah.f2) A3.h Z Z Z ⟨Z, Z⟩)) (Qh (Q1 Z Z (Zp F58_0.h Z Z Z ⟨Z, Z⟩)) (Qh (Q1 Z Z (Zn (ah.f3) A3.h Z Z Z ⟨Z, Z⟩)) (Qh (Q1 Z Z (Exec.mul Z Z Z ⟨Z, Z⟩)) (Qh (Q1 Z Z (Zp F58_1.h Z Z Z ⟨Z, Z⟩)) (Qh (Q1 Z Z (Zn (ah.f2) A3.h Z Z Z ⟨Z, Z⟩)) (Qh (Q1 Z Z (Zp F58_0.h Z Z Z ⟨Z, Z⟩)) (Qh (Q1 Z Z (Zn (ah.f3) A3.h Z Z Z ⟨Z, Z⟩)) (Qh (Q1 Z Z (Exec.mul Z Z Z ⟨Z, Z⟩)) (Qh (Q1 Z Z (Zp F58_1.h Z Z Z ⟨Z, Z⟩)) (Qh (Q1 Z Z (Zn (ah.f3) A3.h Z Z Z ⟨Z, Z⟩)) (Qh (Q1 Z Z (Exec.add Z Z Z ⟨Z, Z⟩)) (Qh (Q1 Z Z (Exec.build Z (Qc (c := [O (IntKind.i64.wrap (b.States * a.States))]) (Qe Z Z) (Qc (c := [O (IntKind.i64.wrap ((IntKind.i64.wrap (b.Init * a.States)) + a.Init))]) (Qe Z Z) (Qc (c := [ay]) (Qe Z (Qz (ah.f1).arr_one)) Qi))) (v := Value.agg #[O (IntKind.i64.wrap (b.States * a.States)), O (IntKind.i64.wrap ((IntKind.i64.wrap (b.Init * a.States)) + a.Init)), ay, Vn, Vn]) (fun _ => by kernel_rfl) ⟨Z, Z⟩)) J5)))))))))))))), ?_⟩
   refine G ?_
   refine KJ Z Z Z ?_
   intro fL ev
   refine G ?_
   exact fq
  refine G ?_
  refine Exec.alloc (cs := [O 0, O 0, Vn, Vn, Vn]) aS Z58 Z Z ?_
  intro d2 fM cc
  refine ⟨agq, ?_⟩
  refine G ?_
  refine Tc Z Z Z Z (Q8 bd cc rq).r ?_
  rintro bu fN ⟨fh, _, eD, cd, rfl⟩
  refine ⟨agq, ?_⟩
  refine G ?_
  refine Exec.build Z (Qc (c := [O (IntKind.i64.wrap (b.States * a.States))]) (Qe Z Z) (Qc (c := [O (IntKind.i64.wrap ((IntKind.i64.wrap (b.Init * a.States)) + a.Init))]) (Qe Z Z) (Qc (c := [bu]) (Qe Z (Qz cd.arr_one)) Qi))) (v := Value.agg #[O (IntKind.i64.wrap (b.States * a.States)), O (IntKind.i64.wrap ((IntKind.i64.wrap (b.Init * a.States)) + a.Init)), bu, Vn, Vn]) (fun _ => by kernel_rfl) ⟨Z, ?_⟩
  refine G ?_
  refine KJ Z Z Z ?_
  intro fO ew
  refine G ?_
  exact fq
 intro dP fP bT
 obtain ⟨dl, n, j, an, ce, ⟨dQ, rfl⟩⟩ := bT
 obtain ⟨fv, cK, hm⟩ := V hm
 obtain ⟨ag, bA, hm⟩ := V hm
 refine G ?_
 refine QO (fun k' s' f' w' => (fun (ag : (List Bool)) => ∃ (bi : PHeap) (t : Value), PHeap.le dl bi ∧ St w0 bi (Res.box aa 58 [O (b.States), O (b.Init), ab, ac, ad] :: Res.box l 58 [O (a.States), O (a.Init), x, y, z] :: Res.box m 58 [O 0, O 0, Vn, Vn, Vn] :: Res.box n 58 [O (IntKind.i64.wrap (b.States * a.States)), O (IntKind.i64.wrap ((IntKind.i64.wrap (b.Init * a.States)) + a.Init)), j, Vn, t] :: Res.arr (U .i64) 3 j ae :: Res.arr encBool 4 t ag :: H) w' ∧ Fx f' [(63, O (k' : Int)), (2, Vq aa), (3, Vq l), (4, Vq m), (6, Vq n), (62, O (b.States))]) s') bA ?_ ?_ ?_
 ·have ex := ce.nilArr encBool 4
  exact fq
 ·intro aw ag dm dR fQ c7 bG ai
  obtain ⟨dn, t, ba, cf, ⟨dS, rfl⟩⟩ := bG
  obtain ⟨fw, cL, ai⟩ := V ai
  obtain ⟨aB, bB, ai⟩ := V ai
  refine G ?_
  refine QO (fun k' s' f' w' => (fun (aB : (List Bool)) => ∃ (bj : PHeap) (ap : Value), PHeap.le dn bj ∧ St w0 bj (Res.box aa 58 [O (b.States), O (b.Init), ab, ac, ad] :: Res.box l 58 [O (a.States), O (a.Init), x, y, z] :: Res.box m 58 [O 0, O 0, Vn, Vn, Vn] :: Res.box n 58 [O (IntKind.i64.wrap (b.States * a.States)), O (IntKind.i64.wrap ((IntKind.i64.wrap (b.Init * a.States)) + a.Init)), j, Vn, ap] :: Res.arr (U .i64) 3 j ae :: Res.arr encBool 4 ap aB :: H) w' ∧ Fx f' [(68, O (k' : Int)), (2, Vq aa), (3, Vq l), (4, Vq m), (6, Vq n), (7, O ((aw : Int))), (62, O (b.States)), (63, O ((aw : Int))), (67, O (a.States))]) s') bB ?_ ?_ ?_
  ·have ey := cf.f5
   exact fq
  ·intro cB aB dp dT fR c8 bH aA
   obtain ⟨aJ, ap, aC, cg, ⟨dU, rfl⟩⟩ := bH
   obtain ⟨ax, p, aA⟩ := V aA
   refine Zc (Zd (g ?_))
   refine Zc (QcA (Zx (decide_eq_true (by omega))) (Jt (Ze (Zc (Qcv (Zc (Zd (g ?_))))))))
   refine Qp (M := fun f' w' => (fun (ax : (List Bool)) => ∃ (bk : PHeap) (az : Value), PHeap.le aJ bk ∧ St w0 bk (Res.box aa 58 [O (b.States), O (b.Init), ab, ac, ad] :: Res.box l 58 [O (a.States), O (a.Init), x, y, z] :: Res.box m 58 [O 0, O 0, Vn, Vn, Vn] :: Res.box n 58 [O (IntKind.i64.wrap (b.States * a.States)), O (IntKind.i64.wrap ((IntKind.i64.wrap (b.Init * a.States)) + a.Init)), j, Vn, az] :: Res.arr (U .i64) 3 j ae :: Res.arr encBool 4 az ax :: H) w' ∧ Fx f' [(2, Vq aa), (3, Vq l), (4, Vq m), (6, Vq n), (7, O ((aw : Int))), (62, O (b.States)), (63, O ((aw : Int))), (67, O (a.States)), (68, O ((cB : Int)))]) ax) ?_ ?_
   ·refine JE (n0 := 16) (qs 0 14 (.e 14 [0, 1] (.e 15 [] .done))) JM (by kernel_rfl) (by kernel_rfl) ?_
    have av := cg.drew
    obtain ⟨gx, cM, p⟩ := V p
    refine G ?_
    refine Qy S56.h Z Z Z (aP.mono (Zt (Zt (Zt am an) ba) aC)) cM ?_
    intro d3 eQ b2 dF
    refine ⟨Z, ?_⟩
    refine G ?_
    refine Zw (E := encBool) av A4.h Z Z Z b2 ?_
    intro fx cN
    obtain rfl := Jc.1 cN
    refine ⟨Z, ?_⟩
    refine G ?_
    rcases Qs p with ⟨c5, p⟩ | ⟨c5, p⟩
    ·obtain ⟨a3, cO, p⟩ := V p
     refine G ?_
     refine Qy S56.h Z Z Z (aQ.mono (Zt (Zt (Zt am an) ba) aC)) cO ?_
     intro d4 eR b3 dG
     refine ⟨Z, ?_⟩
     refine G ?_
     refine Zw (E := encBool) av A4.h Z Z Z b3 ?_
     intro fy cP
     obtain rfl := Jc.1 cP
     refine ⟨Z, ?_⟩
     refine G ?_
     refine Exec.buildSlice (Te := 4) (cs := [Vb a3]) av Z (Qc (c := [Vb a3]) (Qe Z Z) Qi) (fun _ => by kernel_rfl) ?_
     intro d5 fS ch
     refine ⟨agq, ?_⟩
     obtain ⟨eE, cQ, p⟩ := V p
     refine G ?_
     refine Q5 (E := encBool) (ys := [a3]) ch.f6 S56.h Z4 Z (by decide) Z Z Z Z ⟨[Vb a3], [], Z, Z, Z⟩ Z cQ ?_
     intro aK fT a5
     refine ⟨agq, ?_⟩
     refine G ?_
     refine Qq (ds := [aK]) (es := [O (IntKind.i64.wrap (b.States * a.States)), O (IntKind.i64.wrap ((IntKind.i64.wrap (b.Init * a.States)) + a.Init)), j, Vn, aK]) a5.f4 A56.h Z Z Z (Qz ((a5.f4).f1).arr_one) (Zj ((a5.f4).f1).arr_one QU) (Nat.le_of_ble_eq_true Z) Z ?_
     intro fU ci
     cases p
     refine G ?_
     exact ⟨aJ, aK, (Zv _), (((((ci.f1).f5).f2).f5).f5).f5, (Fx.mk)⟩
    refine G ?_
    refine Exec.buildSlice (Te := 4) (cs := [Vb false]) av Z (Qc (c := [Vb false]) (Qe Z Z) Qi) (fun _ => by kernel_rfl) ?_
    intro d6 fV cj
    refine ⟨agq, ?_⟩
    obtain ⟨eF, cR, p⟩ := V p
    refine G ?_
    refine Q5 (E := encBool) (ys := [false]) cj.f6 S56.h Z4 Z (by decide) Z Z Z Z ⟨[Vb false], [], Z, Z, Z⟩ Z cR ?_
    intro aL fW a6
    refine ⟨J5, ?_⟩
    refine G ?_
    refine Qq (ds := [aL]) (es := [O (IntKind.i64.wrap (b.States * a.States)), O (IntKind.i64.wrap ((IntKind.i64.wrap (b.Init * a.States)) + a.Init)), j, Vn, aL]) a6.f4 A56.h Z Z Z (Qz ((a6.f4).f1).arr_one) (Zj ((a6.f4).f1).arr_one QU) (Nat.le_of_ble_eq_true Z) Z ?_
    intro fX ck
    have dH := Zu p
    subst ax
    refine G ?_
    exact ⟨aJ, aL, (Zv _), (((((ck.f1).f5).f2).f5).f5).f5, (Fx.mk)⟩
   intro dV fY bU
   obtain ⟨dq, az, cD, cl, ⟨dW, rfl⟩⟩ := bU
   have dI := Zu aA
   subst dp
   refine G ?_
   exact ⟨dq, az, (Zt aC cD), (((((cl.f5).f5).f5).f5).f5).f5, (Fx.mk (FxL.cons (QM c8 (by have h := Ql cL; simp at h; simp only [maxLen]; omega)) fxl))⟩
  intro dX fZ bI
  obtain ⟨dr, ap, eG, cm, ⟨dY, rfl⟩⟩ := bI
  have dJ := Zu ai
  subst dm
  refine G ?_
  exact ⟨dr, ap, lq, (((((cm.f5).f5).f5).f5).f5).f5, (Fx.mk (FxL.cons (QM c7 (by have h := Ql cK; simp at h; simp only [maxLen]; omega)) fxl))⟩
 intro dZ ga bJ
 obtain ⟨fi, t, aD, a7, ⟨ea, rfl⟩⟩ := bJ
 refine G ?_
 refine JE (n0 := 5) (.q 0 (.q 2 (.e 1 [2] (.e 3 [] (.q 4 .done))))) JM (by kernel_rfl) (by kernel_rfl) (G ?_)
 refine QK (ds := [O (b.States), O (b.Init), ab, ac, ad]) (a7.drew) A58.h Z Z Z ⟨Z, ?_⟩
 refine G ?_
 refine QK (ds := [O (a.States), O (a.Init), x, y, z]) ((a7.drew).f1) A58.h Z Z Z ⟨Z, ?_⟩
 obtain ⟨a4, cS, hm⟩ := V hm
 refine G ?_
 refine Tc Z Z Z Z (Qcd cS a7.drew rq rq rq).r ?_
 rintro a0 gb ⟨fj, _, aE, cn, rfl, di⟩
 refine ⟨agq, ?_⟩
 obtain ⟨g3, cT, hm⟩ := V hm
 refine G ?_
 refine Tc Z Z Z (Zi Z Qw) (Qcd cT cn (b0.mono (Zt (Zt (Zt am an) aD) aE)) (b1.mono (Zt (Zt (Zt am an) aD) aE)) (aQ.mono (Zt (Zt (Zt am an) aD) aE))).r ?_
 rintro a1 gc ⟨dt, _, cE, co, rfl, be⟩
 refine ⟨J5, ?_⟩
 obtain ⟨aI, bC, hm⟩ := V hm
 refine G ?_
 refine QO (fun k' s' f' w' => (fun (aI : Int) => ∃ (bl : PHeap) , PHeap.le dt bl ∧ St w0 bl (Res.box l 58 [O (a.States), O (a.Init), x, y, z] :: Res.box m 58 [O 0, O 0, Vn, Vn, Vn] :: Res.box n 58 [O (IntKind.i64.wrap (b.States * a.States)), O (IntKind.i64.wrap ((IntKind.i64.wrap (b.Init * a.States)) + a.Init)), j, Vn, t] :: Res.arr (U .i64) 3 j ae :: Res.arr encBool 4 t ag :: H) w' ∧ Fx f' [(96, O (k' : Int)), (3, Vq l), (4, Vq m), (6, Vq n), (9, a0), (10, a1), (11, O aI), (95, O ((a4.length : Int)))]) s') bC ?_ ?_ ?_
 ·have ez := co.drop
  exact fq
 ·intro e7 aI fk eb gd c9 bK aj
  obtain ⟨du, aF, a8, ⟨ec, rfl⟩⟩ := bK
  refine G ?_
  refine JE (n0 := 13) (qs 0 13 .done) JM (by kernel_rfl) (by kernel_rfl) ?_
  obtain ⟨gy, cU, aj⟩ := V aj
  refine G ?_
  refine Qy S101.h Z Z Z (di.mono (Zt cE aF)) cU ?_
  intro d7 eS b4 dK
  refine ⟨Z, ?_⟩
  refine G ?_
  refine Zw (E := (Qm encEdge)) a8.drew A55.h Z Z Z b4 ?_
  intro fz cV
  have eY := QH.1 cV
  refine ⟨Z, ?_⟩
  obtain ⟨gz, cW, aj⟩ := V aj
  refine G ?_
  refine Qy S101.h Z Z Z (be.mono aF) cW ?_
  intro d8 eT b5 dL
  refine ⟨Z, ?_⟩
  refine G ?_
  refine Zw (E := (Qm encEdge)) a8.drew A55.h Z Z Z b5 ?_
  intro f0 cX
  have eZ := QH.1 cX
  refine ⟨Z, ?_⟩
  cases aj
  refine G ?_
  exact ⟨du, aF, (((((a8.drew).f4).f4).f4).f4).f4, (Fx.mk (FxL.cons (QM c9 (SliceRep.le rq)) fxl))⟩
 intro ed gf bL
 obtain ⟨dv, cF, cp, ⟨ee, rfl⟩⟩ := bL
 refine G ?_
 rcases Qs hm with ⟨c6, hm⟩ | ⟨c6, hm⟩
 ·refine G ?_
  refine Exec.build Z Qi (v := Value.agg #[O 0, O 0, Vn, Vn, Vn]) (fun _ => by kernel_rfl) (G ?_)
  refine Exec.makeInterface C52 Z Z (G ?_)
  refine KJ Z Z Z ?_
  intro gg cq
  cases hm
  refine G ?_
  refine ⟨_, QaS Z ⟨_, _, Z, Kb (cq) A58.h⟩ Z, ?_⟩
  exact fq
 obtain ⟨aO, bD, hm⟩ := V hm
 refine G ?_
 refine QO (fun k' s' f' w' => (fun (aO : (List Edge)) => ∃ (bm : PHeap) (aq : Value), PHeap.le dv bm ∧ St w0 bm (Res.box l 58 [O (a.States), O (a.Init), x, y, z] :: Res.box m 58 [O 0, O 0, Vn, Vn, Vn] :: Res.box n 58 [O (IntKind.i64.wrap (b.States * a.States)), O (IntKind.i64.wrap ((IntKind.i64.wrap (b.Init * a.States)) + a.Init)), j, aq, t] :: Res.arr (U .i64) 3 j ae :: Res.arr encEdge 100 aq aO :: Res.arr encBool 4 t ag :: H) w' ∧ Fx f' [(119, O (k' : Int)), (3, Vq l), (4, Vq m), (6, Vq n), (9, a0), (10, a1), (118, O ((a4.length : Int)))]) s') bD ?_ ?_ ?_
 ·have e0 := cp.nilArr encEdge 100
  exact fq
 ·intro u aO fl ef gh e5 bM ak
  obtain ⟨bn, aq, cG, aU, ⟨eg, rfl⟩⟩ := bM
  obtain ⟨bw, cY, ak⟩ := V ak
  refine G ?_
  refine Jk Z Z Z cY ?_
  intro d9 eU b6
  refine G ?_
  refine Zw (E := (Qm encEdge)) aU A55.h Z Z Z b6 ?_
  intro bv cZ
  have dj := QH.1 cZ
  obtain ⟨aG, bE, ak⟩ := V ak
  refine G ?_
  refine QO (fun k' s' f' w' => (fun (aG : (List Edge)) => ∃ (bo : PHeap) (ar : Value), PHeap.le bn bo ∧ St w0 bo (Res.box l 58 [O (a.States), O (a.Init), x, y, z] :: Res.box m 58 [O 0, O 0, Vn, Vn, Vn] :: Res.box n 58 [O (IntKind.i64.wrap (b.States * a.States)), O (IntKind.i64.wrap ((IntKind.i64.wrap (b.Init * a.States)) + a.Init)), j, ar, t] :: Res.arr (U .i64) 3 j ae :: Res.arr encEdge 100 ar aG :: Res.arr encBool 4 t ag :: H) w' ∧ Fx f' [(127, O (k' : Int)), (3, Vq l), (4, Vq m), (6, Vq n), (9, a0), (10, a1), (13, O ((u : Int))), (118, O ((a4.length : Int))), (119, O ((u : Int))), (125, bv), (126, O ((bw.length : Int)))]) s') bE ?_ ?_ ?_
  ·have cr := aU.f5
   exact ⟨bn, aq, (Zv _), ((((cr.f5).f5).f5).f5).f5, (Fx.mk)⟩
  ·intro cC aG fm eh gi e6 bN af
   obtain ⟨bp, ar, bb, aV, ⟨ei, rfl⟩⟩ := bN
   obtain ⟨d, da, af⟩ := V af
   refine G ?_
   refine Ju S55.h Z Z Z (dj.mono bb) da ?_
   intro dA eV b7
   refine G ?_
   refine Zw (E := encEdge) aV A100.h Z Z Z b7 ?_
   intro f8 db
   obtain rfl := Jz.1 db
   refine G ?_
   refine Exec.alloc (cs := [O 0, O 0, O 0]) aV QeW Z Z ?_
   intro aR gj ct
   refine G ?_
   refine Qq (ds := [O (d.From), O (d.Label), O (d.To)]) (es := [O (d.From), O (d.Label), O (d.To)]) ct A100.h Z Z Z Z (Zj Z (Zj Z (Zj Z QU))) (Nat.le_of_ble_eq_true Z) Z ?_
   intro gk aW
   obtain ⟨dz, dc, af⟩ := V af
   refine G ?_
   refine Ju S101.h Z Z Z (be.mono (Zt (Zt cF cG) bb)) dc ?_
   intro dB eW b8
   refine G ?_
   refine Zw (E := (Qm encEdge)) aW A55.h Z Z Z b8 ?_
   intro dy dd
   have bf := QH.1 dd
   obtain ⟨aH, bF, af⟩ := V af
   refine G ?_
   refine QO (fun k' s' f' w' => (fun (aH : (List Edge)) => ∃ (bq : PHeap) (a2 : Value), PHeap.le bp bq ∧ St w0 bq (Res.box l 58 [O (a.States), O (a.Init), x, y, z] :: Res.box m 58 [O 0, O 0, Vn, Vn, Vn] :: Res.box n 58 [O (IntKind.i64.wrap (b.States * a.States)), O (IntKind.i64.wrap ((IntKind.i64.wrap (b.Init * a.States)) + a.Init)), j, a2, t] :: Res.box aR 100 [O (d.From), O (d.Label), O (d.To)] :: Res.arr (U .i64) 3 j ae :: Res.arr encEdge 100 a2 aH :: Res.arr encBool 4 t ag :: H) w' ∧ Fx f' [(136, O (k' : Int)), (3, Vq l), (4, Vq m), (6, Vq n), (9, a0), (10, a1), (13, O ((u : Int))), (15, Vq aR), (118, O ((a4.length : Int))), (119, O ((u : Int))), (125, bv), (126, O ((bw.length : Int))), (127, O ((cC : Int))), (134, dy), (135, O ((dz.length : Int)))]) s') bF ?_ ?_ ?_
   ·have cu := aW.f6
    exact ⟨bp, ar, (Zv _), (((((cu.f6).f6).f3).f6).f6).f6, (Fx.mk)⟩
   ·intro e8 aH dw ej gl cA bO al
    obtain ⟨dx, a2, bc, aX, ⟨ek, rfl⟩⟩ := bO
    obtain ⟨i, de, al⟩ := V al
    refine G ?_
    refine Ju S55.h Z Z Z (bf.mono bc) de ?_
    intro dC eX b9
    refine G ?_
    refine Zw (E := encEdge) aX A100.h Z Z Z b9 ?_
    intro f9 df
    obtain rfl := Jz.1 df
    refine G ?_
    refine Exec.alloc (cs := [O 0, O 0, O 0]) aX QeW Z Z ?_
    intro dD gm cv
    refine G ?_
    refine Qq (ds := [O (i.From), O (i.Label), O (i.To)]) (es := [O (i.From), O (i.Label), O (i.To)]) cv A100.h Z Z Z Z (Zj Z (Zj Z (Zj Z QU))) (Nat.le_of_ble_eq_true Z) Z ?_
    intro gn cw
    refine G ?_
    refine Exec.build Z (Qc (c := [O (IntKind.i64.wrap ((IntKind.i64.wrap (d.From * a.States)) + i.From))]) (Qe Z Z) (Qc (c := [O ((u : Int))]) (Qe Z Z) (Qc (c := [O (IntKind.i64.wrap ((IntKind.i64.wrap (d.To * a.States)) + i.To))]) (Qe Z Z) Qi))) (v := Value.agg #[O (IntKind.i64.wrap ((IntKind.i64.wrap (d.From * a.States)) + i.From)), O ((u : Int)), O (IntKind.i64.wrap ((IntKind.i64.wrap (d.To * a.States)) + i.To))]) (fun _ => by kernel_rfl) (G ?_)
    refine Exec.buildSlice (Te := 100) (cs := [O (IntKind.i64.wrap ((IntKind.i64.wrap (d.From * a.States)) + i.From)), O ((u : Int)), O (IntKind.i64.wrap ((IntKind.i64.wrap (d.To * a.States)) + i.To))]) cw Z (Qc (c := [O (IntKind.i64.wrap ((IntKind.i64.wrap (d.From * a.States)) + i.From)), O ((u : Int)), O (IntKind.i64.wrap ((IntKind.i64.wrap (d.To * a.States)) + i.To))]) (Qe Z Z) Qi) (fun _ => by kernel_rfl) ?_
    intro dE go cx
    obtain ⟨eH, dg, al⟩ := V al
    refine G ?_
    refine Q5 (E := encEdge) (ys := [(⟨IntKind.i64.wrap ((IntKind.i64.wrap (d.From * a.States)) + i.From), (u : Int), IntKind.i64.wrap ((IntKind.i64.wrap (d.To * a.States)) + i.To)⟩ : Edge)]) cx.f7 S55.h QeW Z (by decide) Z Z Z Z ⟨[O (IntKind.i64.wrap ((IntKind.i64.wrap (d.From * a.States)) + i.From)), O ((u : Int)), O (IntKind.i64.wrap ((IntKind.i64.wrap (d.To * a.States)) + i.To))], [], Z, ⟨[O (IntKind.i64.wrap ((IntKind.i64.wrap (d.From * a.States)) + i.From))], [O ((u : Int)), O (IntKind.i64.wrap ((IntKind.i64.wrap (d.To * a.States)) + i.To))], Z, Z, ⟨[O ((u : Int))], [O (IntKind.i64.wrap ((IntKind.i64.wrap (d.To * a.States)) + i.To))], Z, Z, Z⟩⟩, Z⟩ Z dg ?_
    intro aM gp a9
    refine G ?_
    refine Qq (ds := [aM]) (es := [O (IntKind.i64.wrap (b.States * a.States)), O (IntKind.i64.wrap ((IntKind.i64.wrap (b.Init * a.States)) + a.Init)), j, aM, t]) a9.f4 A55.h Z Z Z (Qz ((a9.f4).f1).arr_one) (Zj ((a9.f4).f1).arr_one QU) (Nat.le_of_ble_eq_true Z) Z ?_
    intro gq cy
    have dM := Zu al
    subst dw
    refine G ?_
    exact ⟨dx, aM, bc, ((((((((cy.f2).drop).f6).f2).f6).f6).f4).f6).f6, (Fx.mk (FxL.cons (QM cA (SliceRep.le bf)) fxl))⟩
   intro el gr bP
   obtain ⟨fn, a2, eI, e1, ⟨em, rfl⟩⟩ := bP
   cases af
   refine G ?_
   exact fq
  intro en gs bQ
  obtain ⟨fo, ar, eJ, e2, ⟨eo, rfl⟩⟩ := bQ
  cases ak
  refine G ?_
  exact fq
 intro ep gu bR
 obtain ⟨fp, aq, eK, cz, ⟨er, rfl⟩⟩ := bR
 obtain ⟨eL, dh, hm⟩ := V hm
 refine G ?_
 refine Tc Z Z Z Z (Qj8 dh cz.f4).r ?_
 rintro _ gv ⟨fr, eM, e3, rfl⟩
 refine G ?_
 refine KJ Z Z Z ?_
 intro gw aY
 cases hm
 refine G ?_
 refine ⟨_, QaS Z ⟨_, _, Z, Kb (aY) A58.h⟩ Z, ?_⟩
 obtain ⟨fs, eN, c0, fa⟩ := aY.f4.freezeArr
 obtain ⟨ft, eO, c1, fb⟩ := c0.f1.freezeArr
 obtain ⟨fu, eP, e4, fc⟩ := c1.f3.freezeArr
 exact fq
theorem Qaw {w0 w : World} {s : PHeap} {H : List Res} {z : mergeshrink_Abstraction} {a7 : Task} {al : (List Int)} {ak : Int} {d : Nat} {i : Value} {af : Value} {ag : Value} {ah : Value} {ai : Value} {an : Value} {r : (Option Int) × System × (List mergeshrink_stage) × Bool} (hm : QE z a7 al ak = some r) (hS : St w0 s (Res.box d 73 [i, Value.slice none 0 0, Value.slice none 0 0, Value.bool (z.exact)] :: Res.arr (U .i64) 3 i z.vars :: H) w) (bt : SliceRep (U .i64) s af a7.Vars) (bu : SliceRep (U .i64) s ag a7.Init) (bv : SliceRep encFact s ah a7.Goal) (bw : SliceRep encOp s ai a7.Ops) (bx : SliceRep (U .i64) s an al) :
  Calls Tryz.prog 26 #[Value.pointer (some ⟨d, 0, none⟩), Value.agg #[af, ag, ah, ai], an, O ak] w fun e w' => ∃ v, e = .returned v ∧ ((un4 fun (dA : (Option Int)) (aB : System) (dE : (List mergeshrink_stage)) (dF : Bool) => ∃ (a4 : PHeap) (cb : Value) (cc : Value) (cd : Value) (ce : Value), PHeap.le s a4 ∧ St w0 a4 (Res.box d 73 [i, ce, Value.slice none 0 0, Value.bool (dF)] :: Res.arr (U .i64) 3 i z.vars :: Res.arr encmergeshrink_stage 83 ce dE :: H) w' ∧ v = Value.tuple #[Value.agg #[O (aB.States), O (aB.Init), cb, cc, cd], K4 52 (dA)] ∧ SliceRep (U .i64) a4 cb aB.Costs ∧ SliceRep encEdge a4 cc aB.Edges ∧ SliceRep encBool a4 cd aB.Goals) r) := by
 unfold QE at hm
 refine Qd Tryz.func26 Z Z (G ?_)
 refine Exec.box (cs := [af, ag, ah, ai]) hS Z Z Z ?_
 intro p eD c2
 refine G ?_
 refine Exec.alloc (cs := [O 0, O 0, Vn, Vn, Vn]) c2 Z58 Z Z ?_
 intro q eE b0
 refine G ?_
 rcases YC hm with ⟨aP, hm⟩ | ⟨aP, hm⟩
 ·obtain ⟨d1, db, hm⟩ := V hm
  obtain ⟨fu, aI⟩ := d1
  replace hm := Q7 hm
  refine G ?_
  refine Tc Z Z Z (Zi Z (Zi Z Qw)) (Qa0 db b0 bt bu bv bw (SliceRep.nil _ _)).r ?_
  rintro _ eF ⟨dw, bf, bg, bh, cY, c3, rfl, bL, bM, bN⟩
  refine G ?_
  refine Qq (ds := [O (aI.States), O (aI.Init), bf, bg, bh]) (es := [O (aI.States), O (aI.Init), bf, bg, bh]) c3 A58.h Z Z Z Z (Zj Z (Zj Z (Zj bL.one (Zj bM.one (Zj bN.one QU))))) (Nat.le_of_ble_eq_true Z) Z ?_
  intro eG b1
  have dL := Zu hm
  subst r
  refine G ?_
  refine ⟨_, QaS Z ⟨_, _, Z, Kb (b1) A58.h⟩ Z, ?_⟩
  have c4 := b1.nilArr encmergeshrink_stage 83
  exact ⟨dw, bf, bg, bh, Vn, cY, (((((c4.f1).drop).f1).drop).f2).f2, (QeF Z Z), bL, bM, bN⟩
 replace aP := Zk aP
 obtain ⟨aC, dc, hm⟩ := V hm
 refine G ?_
 refine Tc Z Z Z (Zi Z Qw) (Qe1 dc b0).r ?_
 rintro _ eH ⟨be, u, c5, rfl⟩
 refine G ?_
 refine Exec.alloc (cs := [O 0, O 0, Vn, Vn, Vn]) c5 Z58 Z Z ?_
 intro t eI c6
 obtain ⟨bz, cv, a0, cR, cP⟩ := Qr hm
 refine g ?_
 refine Zc (Zc (Zd (g ?_)))
 refine Qp (M := fun f' w' => ∃ s', (bz = .next s' ∨ bz = .brk s') ∧ (un7 fun (cm : (List mergeshrink_stage)) (cn : Bool) (co : Int) (cp : Int) (cq : (List Int)) (cr : (List Edge)) (ct : (List Bool)) => ∃ (a5 : PHeap) (bi : Value) (bj : Value) (bk : Value) (bl : Value), PHeap.le be a5 ∧ St w0 a5 (Res.box d 73 [i, bl, Vn, Vb cn] :: Res.arr (U .i64) 3 i z.vars :: Res.box p 26 [af, ag, ah, ai] :: Res.box q 58 [O 0, O 0, Vn, Vn, Vn] :: Res.box t 58 [O co, O cp, bi, bj, bk] :: Res.arr encmergeshrink_stage 83 bl cm :: H) w' ∧ Fx f' [(0, Vq d), (3, O ak), (5, Vq p), (8, Vq q), (10, O aC), (11, Vq t), (28, an), (29, O ((al.length : Int)))] ∧ SliceRep (U .i64) a5 bi cq ∧ SliceRep encEdge a5 bj cr ∧ SliceRep encBool a5 bk ct) s') ?_ ?_
 ·refine G ?_
  refine QF (fun k' s' f' w' => (un7 fun (av : (List mergeshrink_stage)) (aw : Bool) (ax : Int) (ay : Int) (bq : (List Int)) (br : (List Edge)) (bs : (List Bool)) => ∃ (a6 : PHeap) (ao : Value) (ap : Value) (aq : Value) (j : Value), PHeap.le be a6 ∧ St w0 a6 (Res.box d 73 [i, j, Vn, Vb aw] :: Res.arr (U .i64) 3 i z.vars :: Res.box p 26 [af, ag, ah, ai] :: Res.box q 58 [O 0, O 0, Vn, Vn, Vn] :: Res.box t 58 [O ax, O ay, ao, ap, aq] :: Res.arr encmergeshrink_stage 83 j av :: H) w' ∧ Fx f' [(30, O (k' : Int)), (0, Vq d), (3, O ak), (5, Vq p), (8, Vq q), (10, O aC), (11, Vq t), (28, an), (29, O ((al.length : Int)))] ∧ SliceRep (U .i64) a6 ao bq ∧ SliceRep encEdge a6 ap br ∧ SliceRep encBool a6 aq bs) s') cv ?_ ?_ ?_
  ·have c7 := c6.nilArr encmergeshrink_stage 83
   exact ⟨be, Vn, Vn, Vn, Vn, (Zv _), ((((c7.f1).f2).f3).f5).f5, (Fx.mk), (SliceRep.nil _ _), (SliceRep.nil _ _), (SliceRep.nil _ _)⟩
  ·intro aX d2 az eb eJ cQ cw a a1
   obtain ⟨av, aw, ax, ay, bq, br, bs⟩ := d2
   replace a := Qnj a
   obtain ⟨e2, ao, ap, aq, j, x, b2, ⟨ec, rfl⟩, bE, bF, bG⟩ := cw
   obtain ⟨b, dd, a⟩ := V a
   refine G ?_
   refine Ju S22.h Z Z Z (bx.mono (Zt u x)) dd ?_
   intro dI e1 cu
   refine G ?_
   refine Zw (E := (U .i64)) b2 A3.h Z Z Z cu ?_
   intro e9 de
   obtain rfl := Qg.1 de
   obtain ⟨d3, df, a⟩ := V a
   obtain ⟨fv, y⟩ := d3
   replace a := Q7 a
   refine G ?_
   refine Tc Z Z Z (Zi Z (Zi Z Qw)) (Qfj df b2 (bt.mono (Zt u x)) (bu.mono (Zt u x)) (bv.mono (Zt u x)) (bw.mono (Zt u x))).r ?_
   rintro _ eK ⟨am, a8, a9, aA, ad, c8, rfl, aY, aZ, ba⟩
   refine G ?_
   refine Exec.alloc (cs := [O 0, O 0, Vn, Vn, Vn]) c8 Z58 Z Z ?_
   intro ar eL c9
   refine G ?_
   refine Qq (ds := [O (y.States), O (y.Init), a8, a9, aA]) (es := [O (y.States), O (y.Init), a8, a9, aA]) c9 A58.h Z Z Z Z (Zj Z (Zj Z (Zj aY.one (Zj aZ.one (Zj ba.one QU))))) (Nat.le_of_ble_eq_true Z) Z ?_
   intro eM b3
   refine G ?_
   refine Qv (T := 52) Tryz.underlying39 Z Z Z (G ?_)
   rcases YC a with ⟨aQ, a⟩ | ⟨aQ, a⟩
   ·refine G ?_
    refine Exec.build Z Qi (v := Value.agg #[O 0, O 0, Vn, Vn, Vn]) (fun _ => by kernel_rfl) (G ?_)
    refine Qq (ds := [O 0, O 0, Vn, Vn, Vn]) (es := [O 0, O 0, Vn, Vn, Vn]) b3.f4 A58.h Z Z Z Z (Zj Z (Zj Z (Zj Z (Zj Z (Zj Z QU))))) (Nat.le_of_ble_eq_true Z) Z ?_
    intro eN b4
    have dM := Zu a
    subst az
    have cS := a0 _ (a1 (by intro _ h; cases h))
    have dN := Zu cS
    subst r
    refine G ?_
    refine ⟨_, QaS Z ⟨_, _, Z, Kb (b4) A58.h⟩ Z, ?_⟩
    exact ⟨am, Vn, Vn, Vn, j, (Zt (Zt u x) ad), ((((((((b4.drop).drop).f2).drop).f2).drop).f2).f2).f2, (QeF Z Z), (SliceRep.nil _ _), (SliceRep.nil _ _), (SliceRep.nil _ _)⟩
   replace aQ := Zk aQ
   refine G ?_
   refine Exec.build Z (Qc (c := [O b]) (Qe Z Z) Qi) (v := Value.agg #[O b, Vn, Vn, O 0]) (fun _ => by kernel_rfl) (G ?_)
   refine Exec.alloc (cs := [O 0, Vn, Vn, O 0]) b3 Z83 Z Z ?_
   intro au eO cA
   refine G ?_
   refine Qq (ds := [O b, Vn, Vn, O 0]) (es := [O b, Vn, Vn, O 0]) cA A83.h Z Z Z Z (Zj Z (Zj Z (Zj Z (Zj Z QU)))) (Nat.le_of_ble_eq_true Z) Z ?_
   intro eP b5
   refine G ?_
   rcases YC a with ⟨aR, a⟩ | ⟨aR, a⟩
   ·obtain ⟨d4, dg, a⟩ := V a
    obtain ⟨dB, fw, l, dG⟩ := d4
    replace a := Qjg a
    refine G ?_
    refine Tc Z Z Z (Zi Z (Zi Z (Zi Z Qw))) (Kc dg b5.f2 aY aZ ba).r ?_
    rintro _ eQ ⟨bX, ab, bm, bn, bo, bH, cB, rfl, bb, bO, bP, bQ⟩
    refine G ?_
    refine Qq (ds := [O (l.States), O (l.Init), bm, bn, bo]) (es := [O (l.States), O (l.Init), bm, bn, bo]) cB.f6 A58.h Z Z Z Z (Zj Z (Zj Z (Zj bO.one (Zj bP.one (Zj bQ.one QU))))) (Nat.le_of_ble_eq_true Z) Z ?_
    intro eR cC
    refine G ?_
    refine Qq (ds := [ab]) (es := [O b, ab, Vn, O 0]) cC.f2 A22.h Z Z Z (Qz bb.one) (Zj bb.one QU) (Nat.le_of_ble_eq_true Z) Z ?_
    intro eS b6
    refine G ?_
    refine Qv (T := 52) Tryz.underlying39 Z Z Z (G ?_)
    rcases YC a with ⟨aS, a⟩ | ⟨aS, a⟩
    ·refine G ?_
     refine Exec.build Z Qi (v := Value.agg #[O 0, O 0, Vn, Vn, Vn]) (fun _ => by kernel_rfl) (G ?_)
     refine Qq (ds := [O 0, O 0, Vn, Vn, Vn]) (es := [O 0, O 0, Vn, Vn, Vn]) b6.f6 A58.h Z Z Z Z (Zj Z (Zj Z (Zj Z (Zj Z (Zj Z QU))))) (Nat.le_of_ble_eq_true Z) Z ?_
     intro eT b7
     have dO := Zu a
     subst az
     have cT := a0 _ (a1 (by intro _ h; cases h))
     have dP := Zu cT
     subst r
     refine G ?_
     refine ⟨_, QaS Z ⟨_, _, Z, Kb (b7) A58.h⟩ Z, ?_⟩
     exact ⟨bX, Vn, Vn, Vn, j, (Zt (Zt (Zt u x) ad) bH), (((((((((b7.drop).drop).drop).f1).drop).f2).drop).f2).f2).f2, (QeF Z Z), (SliceRep.nil _ _), (SliceRep.nil _ _), (SliceRep.nil _ _)⟩
    replace aS := Zk aS
    refine G ?_
    refine Qq (ds := [O (l.States)]) (es := [O b, ab, Vn, O (l.States)]) b6 A3.h Z Z Z Z (Zj Z QU) (Nat.le_of_ble_eq_true Z) Z ?_
    intro eU aK
    refine G ?_
    refine JE (n0 := 8) (qs 0 6 (.e 6 [0, 1, 2, 3, 4] (.e 7 [0] .done))) JM (by kernel_rfl) (by kernel_rfl) (G ?_)
    refine Zn ((aK.drew).f2) A71.h Z Z Z ⟨Z, ?_⟩
    refine G ?_
    refine QK (ds := [O b, ab, Vn, O (l.States)]) (aK.drew) A83.h Z Z Z ⟨Z, ?_⟩
    refine G ?_
    refine Exec.buildSlice (Te := 83) (cs := [O b, ab, Vn, O (l.States)]) aK.drew Z (Qc (c := [O b, ab, Vn, O (l.States)]) (Qe Z Z) Qi) (fun _ => by kernel_rfl) ?_
    intro dJ eV b8
    refine ⟨(Qh (Q1 Z Z (Zm (v := Vq d) Z Z ⟨Z, Z⟩)) (Qh (Q1 Z Z (Zm (v := Vq d) Z Z ⟨Z, Z⟩)) (Qh (Q1 Z Z (QV Z Z ⟨Z, Z⟩)) (Qh (Q1 Z Z (Zp F73_1.h Z Z Z ⟨Z, Z⟩)) (Qh (Q1 Z Z (Zn (b8.f3) A71.h Z Z Z ⟨Z, Z⟩)) J5))))), ?_⟩
    obtain ⟨ew, dh, a⟩ := V a
    refine G ?_
    refine Q5 (E := encmergeshrink_stage) (ys := [(⟨b, dB, [], l.States⟩ : mergeshrink_stage)]) b8.f8 S71.h Z83 Z (by decide) Z Z Z Z ⟨[O b, ab, Vn, O (l.States)], [], Z, ⟨[O b], [ab, Vn, O (l.States)], Z, Z, ⟨[ab], [Vn, O (l.States)], Z, ⟨_, Z, bb⟩, ⟨[Vn], [O (l.States)], Z, ⟨_, Z, (SliceRep.nil _ _)⟩, Z⟩⟩⟩, Z⟩ Z dh ?_
    intro bp eW aL
    refine ⟨(Qh (Q1 Z Z (Zm (v := Vq d) Z Z ⟨Z, Z⟩)) J5), ?_⟩
    refine G ?_
    refine Qq (ds := [bp]) (es := [i, bp, Vn, Vb dG]) aL.f3 A71.h Z Z Z (Qz ((aL.f3).f1).arr_one) (Zj ((aL.f3).f1).arr_one QU) (Nat.le_of_ble_eq_true Z) Z ?_
    intro eX cD
    have dQ := Zu a
    subst az
    refine G ?_
    refine ⟨_, Z, ?_⟩; exact ⟨bX, bm, bn, bo, bp, (Zt (Zt x ad) bH), (((((((((cD.f2).drop).f3).drop).f1).f2).f5).f5).f5).f5, (Fx.mk (FxL.cons (QM cQ (SliceRep.le (bx.mono u))) fxl)), bO, bP, bQ⟩
   replace aR := Zk aR
   refine G ?_
   refine JE (n0 := 5) (qs 0 5 .done) JM (by kernel_rfl) (by kernel_rfl) ?_
   have aM := b5.drew
   obtain ⟨aF, aa, a⟩ := V a
   refine g ?_
   refine Zc (Zc (Zd (g ?_)))
   refine Qp (M := fun f' w' => (QI fun (bI : Int) (bU : Int) => ∃ (bY : PHeap) , PHeap.le am bY ∧ St w0 bY (Res.box d 73 [i, j, Vn, Vb aw] :: Res.arr (U .i64) 3 i z.vars :: Res.box p 26 [af, ag, ah, ai] :: Res.box q 58 [O 0, O 0, Vn, Vn, Vn] :: Res.box t 58 [O ax, O ay, ao, ap, aq] :: Res.box ar 58 [O (y.States), O (y.Init), a8, a9, aA] :: Res.box au 83 [O b, Vn, Vn, O 0] :: Res.arr encmergeshrink_stage 83 j av :: H) w' ∧ Fx f' [(0, Vq d), (3, O ak), (5, Vq p), (8, Vq q), (10, O aC), (11, Vq t), (14, Vq ar), (16, Vq au), (17, O bI), (18, O bU), (28, an), (29, O ((al.length : Int))), (30, O ((aX : Int)))]) aF) ?_ ?_
   ·rcases YC aa with ⟨aD, aa⟩ | ⟨aD, aa⟩
    ·obtain ⟨aG, n, aa⟩ := V aa
     refine W_c Z aD (Qo1 (Qcv (Zc (Zd (g ?_)))))
     refine Qp (M := fun f' w' => (QI fun (bJ : Int) (bV : Int) => ∃ (bZ : PHeap) , PHeap.le am bZ ∧ St w0 bZ (Res.box d 73 [i, j, Vn, Vb aw] :: Res.arr (U .i64) 3 i z.vars :: Res.box p 26 [af, ag, ah, ai] :: Res.box q 58 [O 0, O 0, Vn, Vn, Vn] :: Res.box t 58 [O ax, O ay, ao, ap, aq] :: Res.box ar 58 [O (y.States), O (y.Init), a8, a9, aA] :: Res.box au 83 [O b, Vn, Vn, O 0] :: Res.arr encmergeshrink_stage 83 j av :: H) w' ∧ Fx f' [(0, Vq d), (3, O ak), (5, Vq p), (8, Vq q), (10, O aC), (11, Vq t), (14, Vq ar), (16, Vq au), (17, O bJ), (18, O bV), (28, an), (29, O ((al.length : Int))), (30, O ((aX : Int)))]) aG) ?_ ?_
     ·rcases YC n with ⟨aE, n⟩ | ⟨aE, n⟩
      ·obtain ⟨e7, di, n⟩ := V n
       refine G ?_
       refine Exec.quo Z Z Z (by simpa using Ql di) ?_
       have dR := Zu n
       subst aG
       refine G ?_
       exact ⟨am, (Zv _), (((((((aM.f7).f1).f2).f7).f7).f7).f7).f7, (Fx.mk)⟩
      replace aE := Zk aE
      obtain ⟨aH, aj, n⟩ := V n
      refine W_c Z aE (Qa4 (Zc (Zd (g ?_))))
      refine Qp (M := fun f' w' => (QI fun (bK : Int) (bW : Int) => ∃ (ca : PHeap) , PHeap.le am ca ∧ St w0 ca (Res.box d 73 [i, j, Vn, Vb aw] :: Res.arr (U .i64) 3 i z.vars :: Res.box p 26 [af, ag, ah, ai] :: Res.box q 58 [O 0, O 0, Vn, Vn, Vn] :: Res.box t 58 [O ax, O ay, ao, ap, aq] :: Res.box ar 58 [O (y.States), O (y.Init), a8, a9, aA] :: Res.box au 83 [O b, Vn, Vn, O 0] :: Res.arr encmergeshrink_stage 83 j av :: H) w' ∧ Fx f' [(0, Vq d), (3, O ak), (5, Vq p), (8, Vq q), (10, O aC), (11, Vq t), (14, Vq ar), (16, Vq au), (17, O bK), (18, O bW), (28, an), (29, O ((al.length : Int))), (30, O ((aX : Int)))]) aH) ?_ ?_
      ·rcases YC aj with ⟨aT, aj⟩ | ⟨aT, aj⟩
       ·obtain ⟨e8, dj, aj⟩ := V aj
        refine G ?_
        refine Exec.quo Z Z Z (by simpa using Ql dj) ?_
        have dS := Zu aj
        subst aH
        refine G ?_
        exact ⟨am, (Zv _), (((((((aM.f7).f1).f2).f7).f7).f7).f7).f7, (Fx.mk)⟩
       replace aT := Zk aT
       have dT := Zu aj
       subst aH
       refine G ?_
       exact fq
      intro ed eY cy
      obtain ⟨bK, bW⟩ := aH
      replace n := Q7 n
      obtain ⟨dx, cZ, cE, ⟨ee, rfl⟩⟩ := cy
      have dU := Zu n
      subst aG
      refine G ?_
      exact ⟨dx, cZ, (((((((cE.f7).f7).f7).f7).f7).f7).f7).f7, (Fx.mk)⟩
     intro ef eZ cz
     obtain ⟨bJ, bV⟩ := aG
     replace aa := Q7 aa
     obtain ⟨dy, da, cF, ⟨eg, rfl⟩⟩ := cz
     have dV := Zu aa
     subst aF
     refine G ?_
     exact ⟨dy, da, (((((((cF.f7).f7).f7).f7).f7).f7).f7).f7, (Fx.mk)⟩
    replace aD := Zk aD
    have dW := Zu aa
    subst aF
    refine G ?_
    exact ⟨am, (Zv _), (((((((aM.f7).f1).f2).f7).f7).f7).f7).f7, (Fx.mk)⟩
   intro eh fa c0
   obtain ⟨bI, bU⟩ := aF
   replace a := Q7 a
   obtain ⟨e3, ae, cG, ⟨ei, rfl⟩⟩ := c0
   obtain ⟨d5, dk, a⟩ := V a
   obtain ⟨dC, fx, fy, f9⟩ := d5
   replace a := Qjg a
   refine G ?_
   refine Tc Z Z Z (Zi Z (Zi Z (Zi Z Qw))) (Kc dk cG (bE.mono (Zt ad ae)) (bF.mono (Zt ad ae)) (bG.mono (Zt ad ae))).r ?_
   rintro _ fb ⟨dz, o, eA, eB, eC, a2, en, rfl, bc, dp, dq, dr⟩
   refine G ?_
   refine KJ Z Z Z ?_
   intro fc cH
   refine G ?_
   refine Qq (ds := [o]) (es := [O b, Vn, o, O 0]) cH.f6 A22.h Z Z Z (Qz bc.one) (Zj bc.one QU) (Nat.le_of_ble_eq_true Z) Z ?_
   intro fd b9
   refine G ?_
   refine Qv (T := 52) Tryz.underlying39 Z Z Z (G ?_)
   rcases YC a with ⟨aU, a⟩ | ⟨aU, a⟩
   ·refine G ?_
    refine Exec.build Z Qi (v := Value.agg #[O 0, O 0, Vn, Vn, Vn]) (fun _ => by kernel_rfl) (G ?_)
    refine Qq (ds := [O 0, O 0, Vn, Vn, Vn]) (es := [O 0, O 0, Vn, Vn, Vn]) b9.f5 A58.h Z Z Z Z (Zj Z (Zj Z (Zj Z (Zj Z (Zj Z QU))))) (Nat.le_of_ble_eq_true Z) Z ?_
    intro fe bA
    have dX := Zu a
    subst az
    have cU := a0 _ (a1 (by intro _ h; cases h))
    have dY := Zu cU
    subst r
    refine G ?_
    refine ⟨_, QaS Z ⟨_, _, Z, Kb (bA) A58.h⟩ Z, ?_⟩
    exact ⟨dz, Vn, Vn, Vn, j, (Zt (Zt (Zt (Zt u x) ad) ae) a2), (((((((((bA.drop).drop).drop).f2).drop).f2).drop).f2).f2).f2, (QeF Z Z), (SliceRep.nil _ _), (SliceRep.nil _ _), (SliceRep.nil _ _)⟩
   replace aU := Zk aU
   obtain ⟨d6, dl, a⟩ := V a
   obtain ⟨dD, fz, m, dH⟩ := d6
   replace a := Qjg a
   refine G ?_
   refine Tc Z Z Z (Zi Z (Zi Z (Zi Z Qw))) (Kc dl b9.f2 (aY.mono (Zt ae a2)) (aZ.mono (Zt ae a2)) (ba.mono (Zt ae a2))).r ?_
   rintro _ ff ⟨d0, ac, cf, cg, ch, a3, cI, rfl, bd, bR, bS, bT⟩
   refine G ?_
   refine Qq (ds := [O (m.States), O (m.Init), cf, cg, ch]) (es := [O (m.States), O (m.Init), cf, cg, ch]) cI.f6 A58.h Z Z Z Z (Zj Z (Zj Z (Zj bR.one (Zj bS.one (Zj bT.one QU))))) (Nat.le_of_ble_eq_true Z) Z ?_
   intro fg cJ
   refine G ?_
   refine Qq (ds := [ac]) (es := [O b, ac, o, O 0]) cJ.f2 A22.h Z Z Z (Qz bd.one) (Zj bd.one QU) (Nat.le_of_ble_eq_true Z) Z ?_
   intro fh cK
   refine G ?_
   refine Qv (T := 52) Tryz.underlying39 Z Z Z (G ?_)
   rcases YC a with ⟨aV, a⟩ | ⟨aV, a⟩
   ·refine G ?_
    refine Exec.build Z Qi (v := Value.agg #[O 0, O 0, Vn, Vn, Vn]) (fun _ => by kernel_rfl) (G ?_)
    refine KJ Z Z Z ?_
    intro fi bB
    have dZ := Zu a
    subst az
    have cV := a0 _ (a1 (by intro _ h; cases h))
    have ea := Zu cV
    subst r
    refine G ?_
    refine ⟨_, QaS Z ⟨_, _, Z, Kb (bB) A58.h⟩ Z, ?_⟩
    exact ⟨d0, Vn, Vn, Vn, j, (Zt (Zt (Zt (Zt (Zt u x) ad) ae) a2) a3), (((((((((bB.drop).drop).drop).f1).drop).f2).drop).f2).f2).f2, (QeF Z Z), (SliceRep.nil _ _), (SliceRep.nil _ _), (SliceRep.nil _ _)⟩
   replace aV := Zk aV
   refine G ?_
   refine Qq (ds := [O (m.States)]) (es := [O b, ac, o, O (m.States)]) cK A3.h Z Z Z Z (Zj Z QU) (Nat.le_of_ble_eq_true Z) Z ?_
   intro fj aN
   refine G ?_
   refine JE (n0 := 8) (qs 0 6 (.e 6 [0, 1, 2, 3, 4] (.e 7 [0] .done))) JM (by kernel_rfl) (by kernel_rfl) (G ?_)
   refine Zn ((aN.drew).f2) A71.h Z Z Z ⟨Z, ?_⟩
   refine G ?_
   refine QK (ds := [O b, ac, o, O (m.States)]) (aN.drew) A83.h Z Z Z ⟨Z, ?_⟩
   refine G ?_
   refine Exec.buildSlice (Te := 83) (cs := [O b, ac, o, O (m.States)]) aN.drew Z (Qc (c := [O b, ac, o, O (m.States)]) (Qe Z Z) Qi) (fun _ => by kernel_rfl) ?_
   intro dK fk bC
   refine ⟨(Qh (Q1 Z Z (Zm (v := Vq d) Z Z ⟨Z, Z⟩)) (Qh (Q1 Z Z (Zm (v := Vq d) Z Z ⟨Z, Z⟩)) (Qh (Q1 Z Z (QV Z Z ⟨Z, Z⟩)) (Qh (Q1 Z Z (Zp F73_1.h Z Z Z ⟨Z, Z⟩)) (Qh (Q1 Z Z (Zn (bC.f3) A71.h Z Z Z ⟨Z, Z⟩)) J5))))), ?_⟩
   obtain ⟨ex, dm, a⟩ := V a
   refine G ?_
   refine Q5 (E := encmergeshrink_stage) (ys := [(⟨b, dD, dC, m.States⟩ : mergeshrink_stage)]) bC.f8 S71.h Z83 Z (by decide) Z Z Z Z ⟨[O b, ac, o, O (m.States)], [], Z, ⟨[O b], [ac, o, O (m.States)], Z, Z, ⟨[ac], [o, O (m.States)], Z, ⟨_, Z, bd⟩, ⟨[o], [O (m.States)], Z, ⟨_, Z, (bc.mono a3)⟩, Z⟩⟩⟩, Z⟩ Z dm ?_
   intro ci fl aO
   refine ⟨(Qh (Q1 Z Z (Zm (v := Vq d) Z Z ⟨Z, Z⟩)) J5), ?_⟩
   refine G ?_
   refine Qq (ds := [ci]) (es := [i, ci, Vn, Vb dH]) aO.f3 A71.h Z Z Z (Qz ((aO.f3).f1).arr_one) (Zj ((aO.f3).f1).arr_one QU) (Nat.le_of_ble_eq_true Z) Z ?_
   intro fm cL
   obtain ⟨d7, dn, a⟩ := V a
   obtain ⟨f0, aJ⟩ := d7
   replace a := Q7 a
   refine G ?_
   refine Tc Z Z Z (Zi Z (Zi Z Qw)) (QeG dn cL (dp.mono a3) (dq.mono a3) (dr.mono a3) bR bS bT).r ?_
   rintro _ fn ⟨e4, cj, ck, cl, ey, cM, rfl, dt, du, dv⟩
   refine G ?_
   refine Qq (ds := [O (aJ.States), O (aJ.Init), cj, ck, cl]) (es := [O (aJ.States), O (aJ.Init), cj, ck, cl]) cM.f4 A58.h Z Z Z Z (Zj Z (Zj Z (Zj dt.one (Zj du.one (Zj dv.one QU))))) (Nat.le_of_ble_eq_true Z) Z ?_
   intro fo eo
   refine G ?_
   refine Qv (T := 52) Tryz.underlying39 Z Z Z (G ?_)
   rcases YC a with ⟨aW, a⟩ | ⟨aW, a⟩
   ·refine G ?_
    refine Exec.build Z Qi (v := Value.agg #[O 0, O 0, Vn, Vn, Vn]) (fun _ => by kernel_rfl) (G ?_)
    refine KJ Z Z Z ?_
    intro fp cN
    cases a
    have cW := a0 _ (a1 (by intro _ h; cases h))
    cases cW
    refine G ?_
    refine ⟨_, QaS Z ⟨_, _, Z, Kb (cN) A58.h⟩ Z, ?_⟩
    exact fq
   replace aW := Zk aW
   cases a
   refine G ?_
   exact ⟨_, Z, fq⟩
  intro d8 ej fr cx cX
  obtain ⟨av, aw, ax, ay, bq, br, bs⟩ := d8
  obtain ⟨e5, ao, ap, aq, j, ez, ep, ⟨ek, rfl⟩, bE, bF, bG⟩ := cx
  refine G ?_
  exact ⟨_, .inl cX, fq⟩
 rintro el fs ⟨d9, bD, c1⟩
 have hm := bD.elim (cR _) (cP _)
 clear bD
 obtain ⟨cm, cn, co, cp, cq, cr, ct⟩ := d9
 replace hm := Qnj hm
 obtain ⟨e6, bi, bj, bk, bl, e0, er, ⟨em, rfl⟩, et, eu, ev⟩ := c1
 refine G ?_
 refine KJ Z Z Z ?_
 intro ft cO
 cases hm
 refine G ?_
 refine ⟨_, QaS Z ⟨_, _, Z, Kb (cO) A58.h⟩ Z, ?_⟩
 exact fq
theorem QfL {w0 w : World} {s : PHeap} {H : List Res} {a : System} {x : Value} {y : Value} {j : Value} {r : (List Int)} (hm : YD a = some r) (hS : St w0 s (H) w) (ao : SliceRep (U .i64) s x a.Costs) (ap : SliceRep encEdge s y a.Edges) (aq : SliceRep encBool s j a.Goals) :
  Calls Tryz.prog 60 #[Value.agg #[O (a.States), O (a.Init), x, y, j]] w fun e w' => ∃ v, e = .returned v ∧ ((fun (an : (List Int)) => ∃ (o : PHeap) (z : Value), PHeap.le s o ∧ St w0 o (H) w' ∧ v = z ∧ SliceRep (U .i64) o z an) r) := by
 unfold YD at hm
 refine Qd Tryz.func60 Z Z (G ?_)
 refine Kq Z Z ?_
 intro ar aK af
 obtain ⟨n, ab, hm⟩ := V hm
 refine G ?_
 refine QO (fun k' s' f' w' => (fun (n : (List Int)) => ∃ (t : PHeap) (l : Value), PHeap.le s t ∧ St w0 t (Res.arr (U .i64) 3 l n :: H) w' ∧ Fx f' [(9, O (k' : Int)), (3, l), (7, j), (8, O ((a.Goals.length : Int)))]) s') ab ?_ ?_ ?_
 ·have a2 := af.nilArr (U .i64) 3
  exact fq
 ·intro i n aE aw aL a6 ac d
  obtain ⟨am, l, a7, q, ⟨ax, rfl⟩⟩ := ac
  obtain ⟨aQ, aj, d⟩ := V d
  refine G ?_
  refine Jk Z Z Z aj ?_
  intro au aC aa
  refine G ?_
  refine Zw (E := encBool) q A4.h Z Z Z aa ?_
  intro aI ak
  obtain rfl := Jc.1 ak
  obtain ⟨m, b, d⟩ := V d
  refine g ?_
  refine Zc (Zd (g ?_))
  refine Qp (M := fun f' w' => (fun (m : (List Int)) => ∃ (u : PHeap) (p : Value), PHeap.le am u ∧ St w0 u (Res.arr (U .i64) 3 p m :: H) w' ∧ Fx f' [(3, p), (7, j), (8, O ((a.Goals.length : Int))), (9, O ((i : Int)))]) m) ?_ ?_
  ·rcases Qs b with ⟨ai, b⟩ | ⟨ai, b⟩
   ·refine G ?_
    refine Exec.buildSlice (Te := 3) (cs := [O ((i : Int))]) q Z (Qc (c := [O ((i : Int))]) (Qe Z Z) Qi) (fun _ => by kernel_rfl) ?_
    intro av aM ag
    obtain ⟨a8, al, b⟩ := V b
    refine G ?_
    refine Q5 (E := (U .i64)) (ys := [(i : Int)]) ag.f1 S22.h Z3 Z (by decide) Z Z Z Z ⟨[O ((i : Int))], [], Z, Z, Z⟩ Z al ?_
    intro aJ aN a3
    cases b
    refine G ?_
    exact fq
   cases b
   refine G ?_
   exact fq
  intro ay aO ae
  obtain ⟨aF, p, a9, a4, ⟨az, rfl⟩⟩ := ae
  cases d
  refine G ?_
  exact fq
 intro a0 aP ad
 obtain ⟨aG, l, aA, ah, ⟨a1, rfl⟩⟩ := ad
 cases hm
 refine G ?_
 refine ⟨_, KR Z, ?_⟩
 obtain ⟨aH, aB, a5, aD⟩ := ah.freezeArr
 exact fq
instance S153 : STy Tryz.prog 153 156 1 24 := ⟨by kernel_rfl⟩
theorem QqP : Ji Tryz.prog 156 = some (Value.slice none 0 0) := by kernel_rfl
theorem Qp9 : Ji Tryz.prog 155 = some (Value.agg #[O 0, O 0, O 0]) := by kernel_rfl
instance A155 : ATy Tryz.prog 155 true 3 := ⟨by kernel_rfl⟩
instance F155_1 : FTy Tryz.prog 155 1 1 := ⟨by kernel_rfl⟩
instance F155_0 : FTy Tryz.prog 155 0 0 := ⟨by kernel_rfl⟩
instance A156 : ATy Tryz.prog 156 false 1 := ⟨by kernel_rfl⟩
instance S156 : STy Tryz.prog 156 155 3 24 := ⟨by kernel_rfl⟩
instance F155_2 : FTy Tryz.prog 155 2 2 := ⟨by kernel_rfl⟩
theorem Qew {w0 w : World} {s : PHeap} {H : List Res} {l : System} {a2 : (List Int)} {ar : Bool} {ao : Value} {ae : Value} {ap : Value} {ai : Value} {r : (List Int)} (hm : KM l a2 ar = some r) (hS : St w0 s (H) w) (bC : SliceRep (U .i64) s ao l.Costs) (dm : SliceRep encEdge s ae l.Edges) (dn : SliceRep encBool s ap l.Goals) (dp : SliceRep (U .i64) s ai a2) :
  Calls Tryz.prog 59 #[Value.agg #[O (l.States), O (l.Init), ao, ae, ap], ai, Value.bool (ar)] w fun e w' => ∃ v, e = .returned v ∧ ((fun (dk : (List Int)) => ∃ (aH : PHeap) (b9 : Value), PHeap.le s aH ∧ St w0 aH (H) w' ∧ v = b9 ∧ SliceRep (U .i64) aH b9 dk) r) := by
 unfold KM at hm
 refine Qd Tryz.func59 Z Z (G ?_)
 refine Kq Z Z ?_
 intro ag f0 bY
 obtain ⟨eC, c4, hm⟩ := V hm
 refine G ?_
 refine Qbx (F := encArc) (T2 := 155) bY S153.h QqP Z Z Z c4 ?_
 intro i e8 f7 bZ
 obtain ⟨t, bH, hm⟩ := V hm
 refine G ?_
 refine QO (fun k' s' f' w' => (fun (t : (List (List Arc))) => ∃ (bw : PHeap) (d : List Value), PHeap.le s bw ∧ St w0 bw (Res.box ag 58 [O (l.States), O (l.Init), ao, ae, ap] :: Res.arr encRaw 156 i d :: Res.rows encArc 155 d t :: H) w' ∧ Fx f' [(26, O (k' : Int)), (1, ai), (2, Vb ar), (3, Vq ag), (7, i), (24, ae), (25, O ((l.Edges.length : Int)))]) s') bH ?_ ?_ ?_
 ·have ep := bZ.f2
  exact fq
 ·intro cx t fd dD f8 e5 bM j
  obtain ⟨cV, d, cz, bb, ⟨dE, rfl⟩⟩ := bM
  obtain ⟨aa, c5, j⟩ := V j
  refine G ?_
  refine Jk Z Z Z c5 ?_
  intro dq eX bD
  refine G ?_
  refine Zw (E := encEdge) bb A100.h Z Z Z bD ?_
  intro fo c6
  obtain rfl := Jz.1 c6
  refine G ?_
  refine Exec.alloc (cs := [O 0, O 0, O 0]) bb QeW Z Z ?_
  intro dr f9 er
  refine G ?_
  refine KJ Z Z Z ?_
  intro fA ca
  refine G ?_
  refine JE (n0 := 12) (qs 0 11 (.e 11 [0, 1, 2, 3, 4, 5, 6, 7, 8, 9, 10] .done)) JM (by kernel_rfl) (by kernel_rfl) ?_
  have bc := ca.drew
  obtain ⟨p, c7, j⟩ := V j
  refine G ?_
  refine Qy S22.h Z Z Z (bC.mono cz) c7 ?_
  intro ds eY aK bG
  refine ⟨Z, ?_⟩
  refine G ?_
  refine Zw (E := (U .i64)) bc A3.h Z Z Z aK ?_
  intro fp c8
  obtain rfl := Qg.1 c8
  refine ⟨Z, ?_⟩
  refine G ?_
  refine Exec.build Z (Qc (c := [O (aa.From)]) (Qe Z Z) (Qc (c := [O (aa.To)]) (Qe Z Z) (Qc (c := [O p]) (Qe Z Z) Qi))) (v := Value.agg #[O (aa.From), O (aa.To), O p]) (fun _ => by kernel_rfl) ⟨Z, ?_⟩
  refine G ?_
  refine Exec.alloc (cs := [O 0, O 0, O 0]) bc Qp9 Z Z ?_
  intro aL fB aj
  refine ⟨(Qh (Q1 Z Z (Zp F100_0.h Z Z Z ⟨Z, Z⟩)) (Qh (Q1 Z Z (Zn (aj.f1) A3.h Z Z Z ⟨Z, Z⟩)) (Qh (Q1 Z Z (Zp F100_2.h Z Z Z ⟨Z, Z⟩)) (Qh (Q1 Z Z (Zn (aj.f1) A3.h Z Z Z ⟨Z, Z⟩)) (Qh (Q1 Z Z (Zp F58_2.h Z Z Z ⟨Z, Z⟩)) (Qh (Q1 Z Z (Zn (aj.f2) A22.h Z Z Z ⟨Z, Z⟩)) (Qh (Q1 Z Z (Zp F100_1.h Z Z Z ⟨Z, Z⟩)) (Qh (Q1 Z Z (Zn (aj.f1) A3.h Z Z Z ⟨Z, Z⟩)) (Qh (Q1 Z Z (Qin Z Z Z bG ⟨Z, Z⟩)) (Qh (Q1 Z Z (Zw (E := (U .i64)) aj A3.h Z Z Z aK (fun _ q => ⟨Z, Qg.1 q⟩))) (Qh (Q1 Z Z (Exec.build Z (Qc (c := [O (aa.From)]) (Qe Z Z) (Qc (c := [O (aa.To)]) (Qe Z Z) (Qc (c := [O p]) (Qe Z Z) Qi))) (v := Value.agg #[O (aa.From), O (aa.To), O p]) (fun _ => by kernel_rfl) ⟨Z, Z⟩)) J5))))))))))), ?_⟩
  refine G ?_
  refine KJ Z Z Z ?_
  intro fC es
  obtain ⟨b7, an, j⟩ := V j
  refine g ?_
  refine Zc (Zc (Zd (g ?_)))
  refine Qp (M := fun f' w' => (QI fun (af : Int) (ab : Int) => ∃ (bx : PHeap) , PHeap.le cV bx ∧ St w0 bx (Res.box ag 58 [O (l.States), O (l.Init), ao, ae, ap] :: Res.arr encRaw 156 i d :: Res.rows encArc 155 d t :: Res.box aL 155 [O af, O ab, O p] :: H) w' ∧ Fx f' [(1, ai), (2, Vb ar), (3, Vq ag), (7, i), (10, Vq aL), (24, ae), (25, O ((l.Edges.length : Int))), (26, O ((cx : Int)))]) b7) ?_ ?_
  ·rcases Qs an with ⟨cp, an⟩ | ⟨cp, an⟩
   ·refine G ?_
    refine KJ Z Z Z ?_
    intro fD et
    refine G ?_
    refine KJ Z Z Z ?_
    intro fE eu
    cases an
    refine G ?_
    exact fq
   cases an
   refine G ?_
   exact fq
  intro dF fF bV
  obtain ⟨af, ab⟩ := b7
  replace j := Q7 j
  obtain ⟨fe, eD, cb, ⟨dG, rfl⟩⟩ := bV
  refine G ?_
  refine JE (n0 := 11) (qs 0 9 (.e 9 [0, 1, 2, 3, 4, 5, 6, 7] (.e 10 [0, 1, 2] .done))) JM (by kernel_rfl) (by kernel_rfl) ?_
  have av := cb.drew
  obtain ⟨fc, br, j⟩ := V j
  obtain ⟨eo, x, aN, _⟩ := (((av.f2).f2).f1).rows_at br
  obtain ⟨eb, dy, ah⟩ := ((av.f2).f2).arr_at x
  refine G ?_
  refine Qa S153.h Z ah Z (Qb x).1 (Qb x).2.1 ⟨Z, ?_⟩
  refine G ?_
  refine Qf (F := encRaw) ((av.f2).f2) ah A156.h Z Z Z x (Sub.refl _) ?_
  intro dh bs
  replace bs := (K5.1 bs).1
  subst dh
  refine ⟨Z, ?_⟩
  refine G ?_
  refine Exec.buildSlice (Te := 155) (cs := [O af, O ab, O p]) av Z (Qc (c := [O af, O ab, O p]) (Qe Z Z) Qi) (fun _ => by kernel_rfl) ?_
  intro dt fG aw
  refine ⟨(Qh (Q1 Z Z (Zm (v := i) Z Z ⟨Z, Z⟩)) (Qh (Q1 Z Z (Zp F155_0.h Z Z Z ⟨Z, Z⟩)) (Qh (Q1 Z Z (Zn (aw.f4) A3.h Z Z Z ⟨Z, Z⟩)) (Qh (Q1 Z Z (Zm (v := i) Z Z ⟨Z, Z⟩)) (Qh (Q1 Z Z (Zp F155_0.h Z Z Z ⟨Z, Z⟩)) (Qh (Q1 Z Z (Zn (aw.f4) A3.h Z Z Z ⟨Z, Z⟩)) (Qh (Q1 Z Z (Qa S153.h Z ah Z (Qb x).1 (Qb x).2.1 ⟨Z, Z⟩)) (Qh (Q1 Z Z (Qf (F := encRaw) ((aw.f3).f3) ah A156.h Z Z Z x (Sub.refl _) (fun _ q => ⟨Z, (K5.1 q).1⟩))) J5)))))))), ?_⟩
  have cc := (((aw.f3).f3).f1).rows_split aN (Qb br).2.2
  obtain ⟨eE, c9, j⟩ := V j
  refine G ?_
  refine Q5 (E := encArc) (ys := [(⟨af, ab, p⟩ : Arc)]) (cc.f3).f1 S156.h Qp9 Z (by decide) Z Z Z Z ⟨[O af, O ab, O p], [], Z, ⟨[O af], [O ab, O p], Z, Z, ⟨[O ab], [O p], Z, Z, Z⟩⟩, Z⟩ Z c9 ?_
  intro fr fH cd
  refine ⟨agq, ?_⟩
  refine G ?_
  refine Qa S153.h Z ah Z (Qb x).1 (Qb x).2.1 ?_
  obtain ⟨eF, cA, j⟩ := V j
  refine G ?_
  refine Qbw ((cd.f2).f2).f2 aN ah A156.h Z Z Z Z cA ?_
  intro e9 fI ev
  cases j
  refine G ?_
  exact fq
 intro dH fJ bN
 obtain ⟨cW, d, eG, ce, ⟨dI, rfl⟩⟩ := bN
 obtain ⟨c0, cB, hm⟩ := V hm
 refine G ?_
 refine JJ (E := (U .i64)) ce S22.h Z3 Z Z Z Z cB ?_
 intro n fK a3
 refine G ?_
 refine Q0 (a3) S22.h Z Z ?_
 obtain ⟨a7, bI, hm⟩ := V hm
 refine G ?_
 refine QO (fun k' s' f' w' => (fun (a7 : (List Int)) => ∃ (bz : PHeap) , PHeap.le cW bz ∧ St w0 bz (Res.box ag 58 [O (l.States), O (l.Init), ao, ae, ap] :: Res.arr encRaw 156 i d :: Res.rows encArc 155 d t :: Res.arr (U .i64) 3 n a7 :: H) w' ∧ Fx f' [(66, O (k' : Int)), (1, ai), (3, Vq ag), (7, i), (11, n), (65, O ((c0.length : Int)))]) s') bI ?_ ?_ ?_
 ·have ew := (a3.f3).f3
  exact fq
 ·intro eA a7 ff dJ fL cu bO am
  obtain ⟨cX, c1, bd, ⟨dK, rfl⟩⟩ := bO
  obtain ⟨gh, aD, am⟩ := V am
  obtain ⟨ec, dz, aO⟩ := (bd.f3).arr_at aD
  refine G ?_
  refine Qa S22.h Z aO Z (Qb aD).1 (Qb aD).2.1 ?_
  obtain ⟨eH, cC, am⟩ := V am
  refine G ?_
  refine Qx bd.f3 aO A3.h Z Z Z Z (Qg.2 Z) cC ?_
  intro fM cf
  cases am
  refine G ?_
  exact ⟨cX, c1, ((cf.f3).f3).f3, (Fx.mk (FxL.cons (QM cu a3.arr_le) fxl))⟩
 intro dL fN bP
 obtain ⟨fg, eI, cg, ⟨dM, rfl⟩⟩ := bP
 obtain ⟨eJ, cD, hm⟩ := V hm
 refine G ?_
 refine JJ (E := encBool) cg S56.h Z4 Z Z Z Z cD ?_
 intro u fO ch
 obtain ⟨dl, cE, hm⟩ := V hm
 refine G ?_
 refine Tc Z Z Z Z (Q8 cE ch rq).r ?_
 rintro bA fP ⟨cY, _, eK, ci, rfl⟩
 obtain ⟨db, bJ, hm⟩ := V hm
 refine G ?_
 refine QO (fun k' s' f' w' => (QI fun (a8 : (List Int)) (a9 : (List Bool)) => ∃ (b0 : PHeap) , PHeap.le cY b0 ∧ St w0 b0 (Res.arr encRaw 156 i d :: Res.rows encArc 155 d t :: Res.arr (U .i64) 3 n a8 :: Res.arr encBool 4 u a9 :: Res.que (U .i64) 3 bA dl :: H) w' ∧ Fx f' [(80, O (k' : Int)), (7, i), (11, n), (13, u), (14, bA), (78, ai), (79, O ((a2.length : Int)))]) s') bJ ?_ ?_ ?_
 ·have ex := ((ci.arr_que).f2).drop
  exact fq
 ·intro eB dc fh dN fQ e6 bQ m
  obtain ⟨a8, a9⟩ := dc
  replace m := Q7 m
  obtain ⟨fi, eL, a4, ⟨dO, rfl⟩⟩ := bQ
  obtain ⟨gi, cF, m⟩ := V m
  refine G ?_
  refine Jk Z Z Z cF ?_
  intro du eZ bE
  refine G ?_
  refine Zw (E := (U .i64)) a4 A3.h Z Z Z bE ?_
  intro fs cG
  obtain rfl := Qg.1 cG
  obtain ⟨gj, aE, m⟩ := V m
  obtain ⟨ed, d0, aP⟩ := (a4.f2).arr_at aE
  refine G ?_
  refine Qa S22.h Z aP Z (Qb aE).1 (Qb aE).2.1 ?_
  obtain ⟨eM, cH, m⟩ := V m
  refine G ?_
  refine Qx a4.f2 aP A3.h Z Z Z Z (Qg.2 Z) cH ?_
  intro fR be
  obtain ⟨gk, aF, m⟩ := V m
  obtain ⟨ee, d1, aQ⟩ := (be.f3).arr_at aF
  refine G ?_
  refine Qa S56.h Z aQ Z (Qb aF).1 (Qb aF).2.1 ?_
  obtain ⟨eN, cI, m⟩ := V m
  refine G ?_
  refine Qx be.f3 aQ A4.h Z Z Z Z (Jc.2 Z) cI ?_
  intro fS ey
  cases m
  refine G ?_
  exact fq
 intro dP fT bR
 obtain ⟨a8, a9⟩ := db
 replace hm := Q7 hm
 obtain ⟨b1, eO, cj, ⟨dQ, rfl⟩⟩ := bR
 obtain ⟨aM, bK, e7, cv, co⟩ := Qr hm
 refine Zc (Zd (g ?_))
 refine Zc (YW (Zx (decide_eq_false (by omega))) (Qjp (QcY (QcY (Qf0 (Ze (Zc (Qp (M := fun f' w' => ∃ s', (aM = .next s' ∨ aM = .brk s') ∧ (un3 fun (bj : (List Int)) (bk : (List Bool)) (bl : (List Int)) => ∃ (b2 : PHeap) (aI : Value), PHeap.le b1 b2 ∧ St w0 b2 (Res.arr encRaw 156 i d :: Res.rows encArc 155 d t :: Res.arr (U .i64) 3 n bj :: Res.arr encBool 4 u bk :: Res.que (U .i64) 3 aI bl :: H) w' ∧ Fx f' [(7, i), (11, n), (13, u), (14, aI)]) s') ?_ ?_))))))))
 ·refine G ?_
  refine KA (fun s' f' w' => (un3 fun (bm : (List Int)) (bn : (List Bool)) (bo : (List Int)) => ∃ (b3 : PHeap) (aJ : Value), PHeap.le b1 b3 ∧ St w0 b3 (Res.arr encRaw 156 i d :: Res.rows encArc 155 d t :: Res.arr (U .i64) 3 n bm :: Res.arr encBool 4 u bn :: Res.que (U .i64) 3 aJ bo :: H) w' ∧ Fx f' [(7, i), (11, n), (13, u), (14, aJ)]) s') bK ?_ ?_
  ·have ez := cj.f4
   exact fq
  intro dd d2 dR fU bS a cw
  obtain ⟨bm, bn, bo⟩ := dd
  replace a := QaM a
  obtain ⟨cZ, aJ, eP, a5, ⟨dS, rfl⟩⟩ := bS
  refine G ?_
  refine QjL (a5.f4) S22.h Z Z (G ?_)
  rcases Qs a with ⟨cq, a⟩ | ⟨cq, a⟩
  ·obtain ⟨bB, cJ, a⟩ := V a
   refine G ?_
   refine Qio (a5.f4) S22.h Z Z Z cJ ?_
   intro dv fa bF
   refine G ?_
   refine QiA (E := (U .i64)) bF A3.h Z Z ?_
   intro ft cK
   obtain rfl := Qg.1 cK
   obtain ⟨d3, cL, a⟩ := V a
   refine G ?_
   refine Qil a5.f4 S22.h Z Z Z cL ?_
   intro fu bf
   obtain ⟨gl, aG, a⟩ := V a
   obtain ⟨ef, d4, aR⟩ := (bf.f4).arr_at aG
   refine G ?_
   refine Qa S56.h Z aR Z (Qb aG).1 (Qb aG).2.1 ?_
   obtain ⟨eQ, cM, a⟩ := V a
   refine G ?_
   refine Qx bf.f4 aR A4.h Z Z Z Z (Jc.2 Z) cM ?_
   intro fV ak
   obtain ⟨bv, ax, a⟩ := V a
   obtain ⟨ba, au, a1, _⟩ := (((ak.f3).f3).f1).rows_at ax
   obtain ⟨eg, d5, aS⟩ := ((ak.f3).f3).arr_at au
   refine G ?_
   refine Qa S153.h Z aS Z (Qb au).1 (Qb au).2.1 (G ?_)
   refine Qf (F := encRaw) ((ak.f3).f3) aS A156.h Z Z Z au (Sub.refl _) ?_
   intro di bt
   replace bt := (K5.1 bt).1
   subst di
   refine G ?_
   refine Q0 ((((ak.f3).f3).f1).rows_split a1 (Qb ax).2.2) S156.h Z Z ?_
   obtain ⟨fn, bu, a⟩ := V a
   obtain ⟨de, bL, a⟩ := V a
   refine G ?_
   refine QO (fun k' s' f' w' => (un3 fun (aA : (List Int)) (aB : (List Bool)) (aC : (List Int)) => ∃ (b4 : PHeap) (aq : Value), PHeap.le cZ b4 ∧ St w0 b4 (Res.arr encRaw 156 i d :: Res.rows encArc 155 d t :: Res.arr (U .i64) 3 n aA :: Res.arr encBool 4 u aB :: Res.que (U .i64) 3 aq aC :: H) w' ∧ Fx f' [(107, O (k' : Int)), (7, i), (11, n), (13, u), (14, aq), (17, O bB), (105, ba), (106, O ((bv.length : Int)))]) s') bL ?_ ?_ ?_
   ·have e0 := ak.f1
    exact fq
   ·intro cy df fj dT fW bi bT b
    obtain ⟨aA, aB, aC⟩ := df
    replace b := QaM b
    obtain ⟨b5, aq, c2, a6, ⟨dU, rfl⟩⟩ := bT
    obtain ⟨a0, ay, b⟩ := V b
    obtain ⟨eh, d6, aT⟩ := ((a6.f1).rows_split a1 (Qb ax).2.2).arr_at ay
    refine G ?_
    refine Qa S156.h Z aT Z (Qb ay).1 (Qb ay).2.1 (G ?_)
    refine Qf (F := encArc) ((a6.f1).rows_split a1 (Qb ax).2.2) aT A155.h Z Z Z ay (Sub.refl _) ?_
    intro fv cN
    obtain rfl := Qln.1 cN
    refine G ?_
    refine Exec.alloc (cs := [O 0, O 0, O 0]) a6 Qp9 Z Z ?_
    intro dw fX e1
    refine G ?_
    refine KJ Z Z Z ?_
    intro fY ck
    refine G ?_
    refine JE (n0 := 13) (qs 0 13 .done) JM (by kernel_rfl) (by kernel_rfl) ?_
    have o := ck.drew
    obtain ⟨gm, z, b⟩ := V b
    obtain ⟨ei, d7, aU⟩ := (o.f3).arr_at z
    refine G ?_
    refine Qa S22.h Z aU Z (Qb z).1 (Qb z).2.1 ⟨Z, ?_⟩
    refine G ?_
    refine Qf (F := (U .i64)) (o.f3) aU A3.h Z Z Z z (Sub.refl _) ?_
    intro fw cO
    obtain rfl := Qg.1 cO
    refine ⟨Z, ?_⟩
    obtain ⟨gn, ac, b⟩ := V b
    obtain ⟨ej, d8, aV⟩ := (o.f3).arr_at ac
    refine G ?_
    refine Qa S22.h Z aV Z (Qb ac).1 (Qb ac).2.1 ⟨Z, ?_⟩
    refine G ?_
    refine Qf (F := (U .i64)) (o.f3) aV A3.h Z Z Z ac (Sub.refl _) ?_
    intro fx cP
    obtain rfl := Qg.1 cP
    refine ⟨Z, ?_⟩
    refine G ?_
    rcases Qs b with ⟨cr, b⟩ | ⟨cr, b⟩
    ·cases b
     refine G ?_
     exact ⟨b5, aq, c2, (((((o.drop).f4).f4).f4).f4).f4, (Fx.mk (FxL.cons (QM bi (by have h := Ql bu; simpa [maxLen] using h)) fxl))⟩
    refine G ?_
    refine JE (n0 := 10) (qs 0 10 .done) JM (by kernel_rfl) (by kernel_rfl) (G ?_)
    refine Zn (o.drew) A3.h Z Z Z ⟨Z, ?_⟩
    obtain ⟨ek, d9, aW⟩ := ((o.drew).f3).arr_at z
    refine G ?_
    refine Qa S22.h Z aW Z (Qb z).1 (Qb z).2.1 ⟨Z, ?_⟩
    refine G ?_
    refine Qf (F := (U .i64)) ((o.drew).f3) aW A3.h Z Z Z z (Sub.refl _) ?_
    intro fy cQ
    obtain rfl := Qg.1 cQ
    refine ⟨Z, ?_⟩
    refine G ?_
    refine Zn (o.drew) A3.h Z Z Z ⟨Z, ?_⟩
    obtain ⟨el, dA, aX⟩ := ((o.drew).f3).arr_at ac
    refine G ?_
    refine Qa S22.h Z aX Z (Qb ac).1 (Qb ac).2.1 ?_
    obtain ⟨c3, cR, b⟩ := V b
    refine G ?_
    refine Qx (o.drew).f3 aX A3.h Z Z Z Z (Qg.2 Z) cR ?_
    intro fZ al
    obtain ⟨go, ad, b⟩ := V b
    obtain ⟨em, dB, aY⟩ := (al.f4).arr_at ad
    refine G ?_
    refine Qa S56.h Z aY Z (Qb ad).1 (Qb ad).2.1 (G ?_)
    refine Qf (F := encBool) (al.f4) aY A4.h Z Z Z ad (Sub.refl _) ?_
    intro fz cS
    obtain rfl := Jc.1 cS
    obtain ⟨b8, y, b⟩ := V b
    refine g ?_
    refine Qp (M := fun f' w' => (QI fun (bp : (List Bool)) (bq : (List Int)) => ∃ (b6 : PHeap) (az : Value), PHeap.le b5 b6 ∧ St w0 b6 (Res.arr encRaw 156 i d :: Res.rows encArc 155 d t :: Res.arr (U .i64) 3 n c3 :: Res.arr encBool 4 u bp :: Res.que (U .i64) 3 az bq :: H) w' ∧ Fx f' [(7, i), (11, n), (13, u), (14, az), (17, O bB), (105, ba), (106, O ((bv.length : Int))), (107, O ((cy : Int)))]) b8) ?_ ?_
    ·rcases Qs y with ⟨ct, y⟩ | ⟨ct, y⟩
     ·refine G ?_
      refine JE (n0 := 9) (qs 0 6 (.e 6 [0, 1, 2, 3] (.e 7 [0, 1, 2] (.e 8 [0, 1, 2] .done)))) JM (by kernel_rfl) (by kernel_rfl) (G ?_)
      refine Zn ((al.drew).f1) A3.h Z Z Z ⟨Z, ?_⟩
      refine G ?_
      refine Zn ((al.drew).f1) A3.h Z Z Z ⟨Z, ?_⟩
      refine G ?_
      refine Exec.buildSlice (Te := 3) (cs := [O (a0.To)]) al.drew Z (Qc (c := [O (a0.To)]) (Qe Z Z) Qi) (fun _ => by kernel_rfl) ?_
      intro dx ga cl
      refine ⟨agq, ?_⟩
      obtain ⟨eR, cT, y⟩ := V y
      refine G ?_
      refine QgR (E := (U .i64)) (ys := [a0.To]) cl.f6 S22.h Z3 Z (by decide) Z Z Z Z ⟨[O (a0.To)], [], Z, Z, Z⟩ Z cT ?_
      intro dj gb bg
      refine ⟨agq, ?_⟩
      refine G ?_
      refine Zo (v := dj) Z Z (⟨agq, ?_⟩)
      obtain ⟨en, dC, aZ⟩ := (bg.f5).arr_at ad
      refine G ?_
      refine Qa S56.h Z aZ Z (Qb ad).1 (Qb ad).2.1 ?_
      obtain ⟨eS, cU, y⟩ := V y
      refine G ?_
      refine Qx bg.f5 aZ A4.h Z Z Z Z (Jc.2 Z) cU ?_
      intro gc e2
      cases y
      refine G ?_
      exact fq
     cases y
     refine G ?_
     exact fq
    intro dV gd bW
    obtain ⟨bp, bq⟩ := b8
    replace b := Q7 b
    obtain ⟨da, az, eT, cm, ⟨dW, rfl⟩⟩ := bW
    cases b
    refine G ?_
    exact ⟨da, az, lq, ((((cm.f4).f4).f4).f4).f4, (Fx.mk (FxL.cons (QM bi (by have h := Ql bu; simpa [maxLen] using h)) fxl))⟩
   intro dX gf bU
   obtain ⟨aA, aB, aC⟩ := de
   replace a := QaM a
   obtain ⟨fk, aq, eU, e3, ⟨dY, rfl⟩⟩ := bU
   cases a
   refine G ?_
   exact ⟨_, Z, fq⟩
  cases a
  refine G ?_
  exact ⟨_, .inr (cw (by intro _ h; cases h)), fq⟩
 rintro dZ gg ⟨dg, bh, bX⟩
 have hm := bh.elim (cv _) (co _)
 clear bh
 obtain ⟨bj, bk, bl⟩ := dg
 replace hm := QaM hm
 obtain ⟨fl, aI, eV, cn, ⟨ea, rfl⟩⟩ := bX
 cases hm
 refine G ?_
 refine ⟨_, KR Z, ?_⟩
 obtain ⟨fm, eW, e4, fb⟩ := cn.f2.freezeArr
 exact fq
theorem QdY {w0 w : World} {s : PHeap} {H : List Res} {a : System} {b : Value} {c : Value} {d : Value} {r : (List Int) × (Option Int)} (hm : K8 a = some r) (hS : St w0 s (H) w) (j : SliceRep (U .i64) s b a.Costs) (k : SliceRep encEdge s c a.Edges) (l : SliceRep encBool s d a.Goals) :
  Calls Tryz.prog 27 #[Value.agg #[O (a.States), O (a.Init), b, c, d]] w fun e w' => ∃ v, e = .returned v ∧ ((QI fun (y : (List Int)) (z : (Option Int)) => ∃ (g : PHeap) (i : Value), PHeap.le s g ∧ St w0 g (H) w' ∧ v = Value.tuple #[i, K4 52 (z)] ∧ SliceRep (U .i64) g i y) r) := by
 unfold K8 at hm
 refine Qd Tryz.func27 Z Z (G ?_)
 refine Kq Z Z ?_
 intro aa al m
 obtain ⟨ap, p, hm⟩ := V hm
 refine G ?_
 refine Tc Z Z Z Z (Yb p m j k l).r ?_
 rintro _ am ⟨ag, ac, f, rfl⟩
 refine G ?_
 rcases Qs hm with ⟨o, hm⟩ | ⟨o, hm⟩
 ·refine G ?_
  refine Exec.makeInterface C52 Z Z ?_
  cases hm
  refine G ?_
  refine ⟨_, QaL Z, ?_⟩
  exact fq
 refine G ?_
 refine JE (n0 := 4) (.q 0 (.q 1 (.e 2 [0] (.e 3 [] .done)))) JM (by kernel_rfl) (by kernel_rfl) (G ?_)
 refine QK (ds := [O (a.States), O (a.Init), b, c, d]) (f.drew) A58.h Z Z Z ⟨Z, ?_⟩
 refine G ?_
 refine QK (ds := [O (a.States), O (a.Init), b, c, d]) (f.drew) A58.h Z Z Z ⟨Z, ?_⟩
 obtain ⟨aq, t, hm⟩ := V hm
 refine G ?_
 refine Tc Z Z Z Z (QfL t f.drew rq rq rq).r ?_
 rintro aj an ⟨ah, _, ad, n, rfl, x⟩
 refine ⟨agq, ?_⟩
 obtain ⟨ar, u, hm⟩ := V hm
 refine G ?_
 refine Tc Z Z Z Z (Qew u n rq rq rq x).r ?_
 rintro ak ao ⟨ai, _, ae, ab, rfl, af⟩
 refine ⟨agq, ?_⟩
 cases hm
 refine G ?_
 refine ⟨_, QaL Z, ?_⟩
 exact fq
instance F73_2 : FTy Tryz.prog 73 2 2 := ⟨by kernel_rfl⟩
theorem YU {w0 w : World} {s : PHeap} {H : List Res} {b : Task} {q : (List Int)} {p : Int} {y : Value} {z : Value} {aa : Value} {ab : Value} {ac : Value} {r : (Option mergeshrink_Abstraction) × (Option Int)} (hm : JG b q p = some r) (hS : St w0 s (H) w) (ai : SliceRep (U .i64) s y b.Vars) (aj : SliceRep (U .i64) s z b.Init) (ak : SliceRep encFact s aa b.Goal) (al : SliceRep encOp s ab b.Ops) (aQ : SliceRep (U .i64) s ac q) :
  Calls Tryz.prog 7 #[Value.agg #[y, z, aa, ab], ac, O p] w fun e w' => ∃ v, e = .returned v ∧ ((QI fun (t : (Option mergeshrink_Abstraction)) (ah : (Option Int)) => (∃ a : mergeshrink_Abstraction, t = some a ∧ ∃ (g : PHeap) (ad : Value) (j : Nat) (ae : Value) (af : Value), PHeap.le s g ∧ St w0 g (Res.box j 73 [ae, af, ad, Value.bool (a.exact)] :: Res.arr (U .i64) 3 ae a.vars :: Res.arr encmergeshrink_stage 83 af a.stages :: H) w' ∧ v = Value.tuple #[Value.pointer (some ⟨j, 0, none⟩), K4 52 (ah)] ∧ SliceRep (U .i64) g ad a.distance) ∨ (t = none ∧ ∃ (u : PHeap) , PHeap.le s u ∧ St w0 u (H) w' ∧ v = Value.tuple #[Value.pointer none, K4 52 (ah)])) r) := by
 unfold JG at hm
 refine Qd Tryz.func7 Z Z (G ?_)
 refine Kq Z Z ?_
 intro aR bf an
 obtain ⟨bs, a8, hm⟩ := V hm
 refine G ?_
 refine Tc Z Z Z Z (Qae a8 an ai aj ak al).r ?_
 rintro _ bg ⟨aK, o, k, rfl⟩
 refine G ?_
 refine Qv (T := 52) Tryz.underlying39 Z Z Z (G ?_)
 rcases Qs hm with ⟨ax, hm⟩ | ⟨ax, hm⟩
 ·cases hm
  refine G ?_
  refine ⟨_, QaL Z, ?_⟩
  refine (Or.inr ⟨Z, ?_⟩); exact ⟨aK, o, k.drop, (QeF Z Z)⟩
 refine G ?_
 refine Tc Z Z Z Z (Qlb k rq).r ?_
 rintro _ bh ⟨aW, aS, a1, ao, rfl, aF⟩
 obtain ⟨bt, a9, hm⟩ := V hm
 refine G ?_
 refine Tc Z Z Z Z (QcQ a9 ao aF).r ?_
 rintro ba bi ⟨aX, _, a2, ap, rfl, aV⟩
 obtain ⟨bu, aA, hm⟩ := V hm
 refine G ?_
 refine Tc Z Z Z Z (Qce aA ap).r ?_
 rintro bb bj ⟨aY, _, a3, aq, rfl, aG⟩
 obtain ⟨bv, aB, hm⟩ := V hm
 refine G ?_
 refine Tc Z Z Z Z (YZ aB aq rq aG).r ?_
 rintro _ bk ⟨aL, a4, l, rfl⟩
 refine G ?_
 rcases Qs hm with ⟨ay, hm⟩ | ⟨ay, hm⟩
 ·refine G ?_
  refine Exec.makeInterface C52 Z Z ?_
  cases hm
  refine G ?_
  refine ⟨_, QaL Z, ?_⟩
  refine (Or.inr ⟨Z, ?_⟩); exact ⟨aL, lq, l.drop, (QeF Z Z)⟩
 obtain ⟨bw, aC, hm⟩ := V hm
 refine G ?_
 refine Tc Z Z Z Z (Q8 aC l rq).r ?_
 rintro d bl ⟨aZ, _, a5, ar, rfl⟩
 refine G ?_
 refine Exec.build Z (Qc (c := [d]) (Qe Z (Qz ar.arr_one)) (Qc (c := [Vb true]) (Qe Z Z) Qi)) (v := Value.agg #[d, Vn, Vn, Vb true]) (fun _ => by kernel_rfl) (G ?_)
 refine Kq Z Z ?_
 intro am bm au
 refine G ?_
 refine Qd2 Z Z Z (G ?_)
 refine QbE Z Z Z ?_
 obtain ⟨aN, aD, hm⟩ := V hm
 obtain ⟨bx, bz, b2, aP⟩ := aN
 replace hm := Qjg hm
 refine G ?_
 refine Tc Z Z Z (Zi Z (Zi Z (Zi Z (Zi Z Qw)))) (Qaw aD (au.f1).f1 rq rq rq rq rq).r ?_
 rintro _ bn ⟨aM, bc, bd, be, ag, a6, av, rfl, aH, aI, aJ⟩
 refine G ?_
 refine Exec.alloc (cs := [O 0, O 0, Vn, Vn, Vn]) av Z58 Z Z ?_
 intro aT bo aU
 refine G ?_
 refine KJ Z Z Z ?_
 intro bp m
 refine G ?_
 refine Qv (T := 52) Tryz.underlying39 Z Z Z (G ?_)
 rcases Qs hm with ⟨az, hm⟩ | ⟨az, hm⟩
 ·cases hm
  refine G ?_
  refine ⟨_, QaL Z, ?_⟩
  refine (Or.inr ⟨Z, ?_⟩); exact ⟨aM, lq, ((((m.drop).drop).drop).drop).drop, (QeF Z Z)⟩
 obtain ⟨aO, aE, hm⟩ := V hm
 obtain ⟨b0, b1⟩ := aO
 replace hm := Q7 hm
 refine G ?_
 refine Tc Z Z Z Z (QdY aE m aH aI aJ).r ?_
 rintro _ bq ⟨x, i, a7, aw, rfl, f⟩
 refine G ?_
 refine Qq (ds := [i]) (es := [d, ag, i, Vb aP]) aw.f1 A22.h Z Z Z (Qz f.one) (Zj f.one QU) (Nat.le_of_ble_eq_true Z) Z ?_
 intro br n
 refine G ?_
 refine Qv (T := 52) Tryz.underlying39 Z Z Z (G ?_)
 rcases Qs hm with ⟨a0, hm⟩ | ⟨a0, hm⟩
 ·cases hm
  refine G ?_
  refine ⟨_, QaL Z, ?_⟩
  refine (Or.inr ⟨Z, ?_⟩); exact ⟨x, lq, ((((n.drop).drop).drop).drop).drop, (QeF Z Z)⟩
 cases hm
 refine G ?_
 refine ⟨_, QaL Z, ?_⟩
 refine (Or.inl ⟨_, Z, ?_⟩); exact ⟨x, i, am, d, ag, (Zt (Zt (Zt (Zt (Zt (Zt (Zt o a1) a2) a3) a4) a5) a6) a7), ((((((n.f1).drop).f3).drop).f2).f2).f2, (QeF Z Z), f⟩
instance F73_0 : FTy Tryz.prog 73 0 0 := ⟨by kernel_rfl⟩
theorem Qdd {w0 w : World} {s : PHeap} {H : List Res} {d : (List Int)} {i : (List Int)} {b : Value} {j : Value} {r : Bool} (hm : KY d i = some r) (hS : St w0 s (Res.arr (U .i64) 3 b d :: H) w) (aw : SliceRep (U .i64) s j i) :
  Calls Tryz.prog 30 #[b, j] w fun e w' => ∃ v, e = .returned v ∧ ((fun (av : Bool) => ∃ (u : PHeap) , PHeap.le s u ∧ St w0 u (Res.arr (U .i64) 3 b d :: H) w' ∧ v = Value.bool (av)) r) := by
 unfold KY at hm
 refine Qd Tryz.func30 Z Z (G ?_)
 refine Q0 (hS) S22.h Z Z (G ?_)
 rcases Qs hm with ⟨q, hm⟩ | ⟨q, hm⟩
 ·cases hm
  refine G ?_
  exact fr
 obtain ⟨o, ab, al, aj, ag⟩ := Qr hm
 refine W_c Z q (Qa4 (Jt (Ze (Zc (Zc (Zd (g ?_)))))))
 refine Qp (M := fun f' w' => ∃ s', (o = .next s' ∨ o = .brk s') ∧ (fun (_ : Unit) => ∃ (x : PHeap) , PHeap.le s x ∧ St w0 x (Res.arr (U .i64) 3 b d :: H) w' ∧ Fx f' [(0, b), (12, j), (13, O ((i.length : Int)))]) s') ?_ ?_
 ·refine G ?_
  refine QF (fun k' s' f' w' => (fun (_ : Unit) => ∃ (y : PHeap) , PHeap.le s y ∧ St w0 y (Res.arr (U .i64) 3 b d :: H) w' ∧ Fx f' [(14, O (k' : Int)), (0, b), (12, j), (13, O ((i.length : Int)))]) s') ab ?_ ?_ ?_
  ·exact fq
  ·intro ao aL ay a0 aQ aC ac a am
   obtain ⟨au, aD, m, ⟨a1, rfl⟩⟩ := ac
   obtain ⟨aU, ap, a⟩ := V a
   refine G ?_
   refine Jk Z Z Z ap ?_
   intro ax aH aa
   refine G ?_
   refine Zw (E := (U .i64)) m A3.h Z Z Z aa ?_
   intro aO aq
   obtain rfl := Qg.1 aq
   obtain ⟨n, c, a⟩ := V a
   refine g ?_
   refine Zc (Qp (M := fun f' w' => (fun (n : Bool) => ∃ (z : PHeap) , PHeap.le au z ∧ St w0 z (Res.arr (U .i64) 3 b d :: H) w' ∧ Fx f' [(0, b), (12, j), (13, O ((i.length : Int))), (14, O ((ao : Int))), (28, Vb n)]) n) ?_ ?_)
   ·refine G ?_
    rcases Qs c with ⟨ah, c⟩ | ⟨ah, c⟩
    ·cases c
     refine G ?_
     exact fq
    obtain ⟨aV, l, c⟩ := V c
    obtain ⟨a8, az, p⟩ := m.arr_at l
    refine G ?_
    refine Qa S22.h Z p Z (Qb l).1 (Qb l).2.1 (G ?_)
    refine Qf (F := (U .i64)) (m) p A3.h Z Z Z l (Sub.refl _) ?_
    intro aP ar
    obtain rfl := Qg.1 ar
    cases c
    refine G ?_
    exact fq
   intro a2 aR ae
   obtain ⟨aI, aE, a9, ⟨a3, rfl⟩⟩ := ae
   refine G ?_
   rcases Qs a with ⟨ai, a⟩ | ⟨ai, a⟩
   ·cases a
    have ak := al _ (am (by intro _ h; cases h))
    cases ak
    refine G ?_
    exact fr
   cases a
   refine G ?_
   exact ⟨_, Z, fq⟩
  intro aM a4 aS ad an
  obtain ⟨aJ, aF, aA, ⟨a5, rfl⟩⟩ := ad
  refine G ?_
  exact ⟨_, .inl an, fq⟩
 rintro a6 aT ⟨aN, t, af⟩
 have hm := t.elim (aj _) (ag _)
 clear t
 obtain ⟨aK, aG, aB, ⟨a7, rfl⟩⟩ := af
 cases hm
 refine G ?_
 exact fr
instance F83_0 : FTy Tryz.prog 83 0 0 := ⟨by kernel_rfl⟩
theorem Q4 {w0 w : World} {s : PHeap} {H : List Res} {a : mergeshrink_Abstraction} {ad : (List Int)} {i : Nat} {d : Value} {b : Value} {m : Value} {o : Value} {r : Int} (hm : Qk a ad = some r) (hS : St w0 s (Res.box i 73 [d, b, m, Value.bool (a.exact)] :: Res.arr (U .i64) 3 d a.vars :: Res.arr encmergeshrink_stage 83 b a.stages :: H) w) (aC : SliceRep (U .i64) s m a.distance) (x : SliceRep (U .i64) s o ad) :
  Calls Tryz.prog 11 #[Value.pointer (some ⟨i, 0, none⟩), o] w fun e w' => ∃ v, e = .returned v ∧ ((fun (aB : Int) => ∃ (z : PHeap) , PHeap.le s z ∧ St w0 z (Res.box i 73 [d, b, m, Value.bool (a.exact)] :: Res.arr (U .i64) 3 d a.vars :: Res.arr encmergeshrink_stage 83 b a.stages :: H) w' ∧ v = O aB) r) := by
 unfold Qk at hm
 refine Qd Tryz.func11 Z Z (G ?_)
 refine YX Tryz.underlying42 Z Z Z ?_
 obtain ⟨bv, ax, hm⟩ := V hm
 refine G ?_
 refine Tc Z Z Z Z (Qdd ax hS.f1 x).r ?_
 rintro _ bk ⟨a9, av, t, rfl⟩
 refine G ?_
 rcases Qs hm with ⟨ap, hm⟩ | ⟨ap, hm⟩
 ·cases hm
  refine G ?_
  exact fr
 refine G ?_
 refine Q0 (t.f2) S71.h Z Z ?_
 obtain ⟨p, ai, hm⟩ := V hm
 refine G ?_
 refine QO (fun k' s' f' w' => (fun (p : Int) => ∃ (aa : PHeap) , PHeap.le a9 aa ∧ St w0 aa (Res.box i 73 [d, b, m, Vb (a.exact)] :: Res.arr (U .i64) 3 d a.vars :: Res.arr encmergeshrink_stage 83 b a.stages :: H) w' ∧ Fx f' [(25, O (k' : Int)), (0, Vq i), (1, o), (5, O p), (23, b), (24, O ((a.stages.length : Int)))]) s') ai ?_ ?_ ?_
 ·have aT := t.f2
  exact fq
 ·intro au p bb aM bl ar aj c
  obtain ⟨ab, aw, u, ⟨aN, rfl⟩⟩ := aj
  obtain ⟨bq, n, c⟩ := V c
  obtain ⟨aS, aI, y⟩ := (u.f2).arr_at n
  refine G ?_
  refine Qa S71.h Z y Z (Qb n).1 (Qb n).2.1 (G ?_)
  refine Qf (F := encmergeshrink_stage) (u.f2) y A83.h Z Z Z n (Sub.refl _) ?_
  intro bf ay
  obtain ⟨bd, be, rfl, a7, a8⟩ := Qdk.1 ay
  refine G ?_
  refine Exec.alloc (cs := [O 0, Vn, Vn, O 0]) u Z83 Z Z ?_
  intro aD bm aU
  refine G ?_
  refine KJ Z Z Z ?_
  intro bn am
  refine G ?_
  refine JE (n0 := 9) (qs 0 9 .done) JM (by kernel_rfl) (by kernel_rfl) ?_
  have l := am.drew
  obtain ⟨br, az, c⟩ := V c
  refine G ?_
  refine Qy S22.h Z Z Z (x.mono (Zt av aw)) az ?_
  intro aE aX ae aJ
  refine ⟨Z, ?_⟩
  refine G ?_
  refine Zw (E := (U .i64)) l A3.h Z Z Z ae ?_
  intro bg a0
  obtain rfl := Qg.1 a0
  refine ⟨Z, ?_⟩
  obtain ⟨bs, a1, c⟩ := V c
  refine G ?_
  refine Qy S22.h Z Z Z a7 a1 ?_
  intro aF aY af aK
  refine ⟨Z, ?_⟩
  refine G ?_
  refine Zw (E := (U .i64)) l A3.h Z Z Z af ?_
  intro bh a2
  obtain rfl := Qg.1 a2
  refine ⟨Z, ?_⟩
  obtain ⟨q, j, c⟩ := V c
  refine g ?_
  refine Zc (Zd (g ?_))
  refine Qp (M := fun f' w' => (fun (q : Int) => ∃ (ac : PHeap) , PHeap.le ab ac ∧ St w0 ac (Res.box i 73 [d, b, m, Vb (a.exact)] :: Res.arr (U .i64) 3 d a.vars :: Res.arr encmergeshrink_stage 83 b a.stages :: H) w' ∧ Fx f' [(0, Vq i), (1, o), (5, O q), (23, b), (24, O ((a.stages.length : Int))), (25, O ((au : Int)))]) q) ?_ ?_
  ·rcases Qs j with ⟨aq, j⟩ | ⟨aq, j⟩
   ·cases j
    refine G ?_
    exact fq
   refine G ?_
   refine JE (n0 := 10) (qs 0 10 .done) JM (by kernel_rfl) (by kernel_rfl) (G ?_)
   refine Zn (l.drew) A22.h Z Z Z ⟨Z, ?_⟩
   obtain ⟨bt, a3, j⟩ := V j
   refine G ?_
   refine Qy S22.h Z Z Z a8 a3 ?_
   intro aG aZ ag aL
   refine ⟨Z, ?_⟩
   refine G ?_
   refine Zw (E := (U .i64)) l.drew A3.h Z Z Z ag ?_
   intro bi a4
   obtain rfl := Qg.1 a4
   refine ⟨Z, ?_⟩
   refine G ?_
   refine Zn (l.drew) A3.h Z Z Z ⟨Z, ?_⟩
   cases j
   refine G ?_
   exact ⟨ab, (Zv _), ((((l.drew).drop).f2).f2).f2, (Fx.mk)⟩
  intro aO bo al
  obtain ⟨aA, aV, an, ⟨aP, rfl⟩⟩ := al
  cases c
  refine G ?_
  exact ⟨aA, lq, ((an.f2).f2).f2, (Fx.mk (FxL.cons (QM ar (t.f2).arr_le) fxl))⟩
 intro aQ bp ak
 obtain ⟨bc, aW, ao, ⟨aR, rfl⟩⟩ := ak
 obtain ⟨bu, a5, hm⟩ := V hm
 refine G ?_
 refine Jk Z Z Z a5 ?_
 intro aH ba ah
 refine G ?_
 refine Zw (E := (U .i64)) ao A3.h Z Z Z ah ?_
 intro bj a6
 obtain rfl := Qg.1 a6
 cases hm
 refine G ?_
 exact fr
theorem QY {w0 w : World} {s : PHeap} {H : List Res} {a : mergeshrink_Abstraction} {d : Nat} {b : Value} {c : Value} {f : Value} {r : Bool} (hm : Jh a = some r) (hS : St w0 s (Res.box d 73 [b, c, f, Value.bool (a.exact)] :: Res.arr (U .i64) 3 b a.vars :: Res.arr encmergeshrink_stage 83 c a.stages :: H) w) (i : SliceRep (U .i64) s f a.distance) :
  Calls Tryz.prog 12 #[Value.pointer (some ⟨d, 0, none⟩)] w fun e w' => ∃ v, e = .returned v ∧ ((fun (h : Bool) => ∃ (g : PHeap) , PHeap.le s g ∧ St w0 g (Res.box d 73 [b, c, f, Value.bool (a.exact)] :: Res.arr (U .i64) 3 b a.vars :: Res.arr encmergeshrink_stage 83 c a.stages :: H) w' ∧ v = Value.bool (h)) r) := by
 unfold Jh at hm
 refine Qd Tryz.func12 Z Z (G ?_)
 refine QfY Tryz.underlying42 Z Z Z ?_
 cases hm
 refine G ?_
 exact fr
theorem N18 : (Tryz.f18.name == "runtime.NumGoroutine") = false := by kernel_rfl
theorem Qgu {w0 w : World} {s : PHeap} {H : List Res} {a : Int} {r : Bool} (hm : Qbv a = some r) (hS : St w0 s (H) w) :
  Calls Tryz.prog 18 #[O a] w fun e w' => ∃ v, e = .returned v ∧ ((fun (i : Bool) => ∃ (b : PHeap) , PHeap.le s b ∧ St w0 b (H) w' ∧ v = Value.bool (i)) r) := by
 unfold Qbv at hm
 refine Qd Tryz.func18 Z Z (Zc (Zd (g ?_)))
 refine Zc (Qp (M := fun f' w' => ∃ (c : PHeap) , PHeap.le s c ∧ St w0 c (H) w' ∧ Fx f' [(2, Vb (((decide (a < 0)) || decide (1048576 < a))))]) ?_ ?_)
 ·refine G ?_
  rcases tf (decide (a < 0)) with h | h
  ·refine G ?_
   exact fq
  refine G ?_
  exact fq
 intro j o d
 obtain ⟨n, m, l, ⟨k, rfl⟩⟩ := d
 cases hm
 refine G ?_
 exact fr
theorem QaC {w0 w : World} {s : PHeap} {H : List Res} {b : (List Int)} {c : Value} {r : Int} (hm : Jw b = some r) (hS : St w0 s (H) w) (ai : SliceRep (U .i64) s c b) :
  Calls Tryz.prog 40 #[c, Value.func (.func 18) #[] #[]] w fun e w' => ∃ v, e = .returned v ∧ ((fun (ah : Int) => ∃ (l : PHeap) , PHeap.le s l ∧ St w0 l (H) w' ∧ v = O ah) r) := by
 unfold Jw at hm
 refine Qd Tryz.func40 Z Z ?_
 obtain ⟨d, p, ab, z, x⟩ := Qr hm
 refine Zc (Zd (g ?_))
 refine Zc (Zc (Zd (g ?_)))
 refine Qp (M := fun f' w' => ∃ s', (d = .next s' ∨ d = .brk s') ∧ (fun (_ : Unit) => ∃ (m : PHeap) , PHeap.le s m ∧ St w0 m (H) w' ∧ Fx f' [(0, c), (1, Value.func (.func 18) #[] #[]), (7, O ((b.length : Int)))]) s') ?_ ?_
 ·refine G ?_
  refine QF (fun k' s' f' w' => (fun (_ : Unit) => ∃ (n : PHeap) , PHeap.le s n ∧ St w0 n (H) w' ∧ Fx f' [(8, O (k' : Int)), (0, c), (1, Value.func (.func 18) #[] #[]), (7, O ((b.length : Int)))]) s') p ?_ ?_ ?_
  ·exact fq
  ·intro ax a7 ak al aB aw q a ac
   obtain ⟨a3, ay, i, ⟨am, rfl⟩⟩ := q
   obtain ⟨ag, ae, a⟩ := V a
   refine G ?_
   refine Jk Z Z Z ae ?_
   intro aj a2 o
   refine G ?_
   refine Zw (E := (U .i64)) i A3.h Z Z Z o ?_
   intro aA af
   obtain rfl := Qg.1 af
   refine G ?_
   refine Qia Z Z Tryz.func18 Z N18 (Zi Z Qw) ((Qgu (Qgt ag) i).mono ?_)
   rintro _ aC ⟨_, rfl, ⟨a4, az, ar, rfl⟩⟩
   refine ⟨_, Z, ?_⟩
   refine G ?_
   rcases Qs a with ⟨y, a⟩ | ⟨y, a⟩
   ·cases a
    have aa := ab _ (ac (by intro _ h; cases h))
    cases aa
    refine G ?_
    exact fr
   cases a
   refine G ?_
   exact ⟨_, Z, fq⟩
  intro a8 an aD t ad
  obtain ⟨a5, a0, au, ⟨ao, rfl⟩⟩ := t
  refine G ?_
  exact ⟨_, .inl ad, fq⟩
 rintro ap aE ⟨a9, j, u⟩
 have hm := j.elim (z _) (x _)
 clear j
 obtain ⟨a6, a1, av, ⟨aq, rfl⟩⟩ := u
 cases hm
 refine G ?_
 exact fr
theorem Qap {w0 w : World} {s : PHeap} {H : List Res} {b : (List Int)} {c : Value} {r : Bool} (hm : QP b = some r) (hS : St w0 s (H) w) (d : SliceRep (U .i64) s c b) :
  Calls Tryz.prog 17 #[c, Value.func (.func 18) #[] #[]] w fun e w' => ∃ v, e = .returned v ∧ ((fun (g : Bool) => ∃ (a : PHeap) , PHeap.le s a ∧ St w0 a (H) w' ∧ v = Value.bool (g)) r) := by
 unfold QP at hm
 refine Qd Tryz.func17 Z Z ?_
 obtain ⟨l, f, hm⟩ := V hm
 refine G ?_
 refine Tc Z Z Z Z (QaC f hS d).r ?_
 rintro _ k ⟨j, i, h, rfl⟩
 cases hm
 refine G ?_
 exact fr
theorem QpG : Tryz.prog.concrete 102 = true := by kernel_rfl
theorem QmZ : Tryz.prog.concrete 107 = true := by kernel_rfl
theorem Qoz : Ji Tryz.prog 107 = some (Value.agg #[O 0, O 0]) := by kernel_rfl
instance A107 : ATy Tryz.prog 107 true 2 := ⟨by kernel_rfl⟩
instance A104 : ATy Tryz.prog 104 false 1 := ⟨by kernel_rfl⟩
instance S104 : STy Tryz.prog 104 107 2 16 := ⟨by kernel_rfl⟩
theorem QqW : (Tryz.f267.name == "runtime.NumGoroutine") = false := by kernel_rfl
theorem Qfn {w0 w : World} {s : PHeap} {H : List Res} {i : (List pdb_item)} {a : pdb_item} {b : Nat} {k : Value} {r : (List pdb_item)} (hm : Qat i a = some r) (hS : St w0 s (Res.box b 104 [k] :: Res.arr encpdb_item 107 k i :: H) w) :
  Calls Tryz.prog 267 #[Value.pointer (some ⟨b, 0, none⟩), Value.iface 107 (Value.agg #[O (a.dist), O (a.state)])] w fun e w' => ∃ v, e = .returned v ∧ ((fun (o : (List pdb_item)) => ∃ (j : PHeap) (l : Value), PHeap.le s j ∧ St w0 j (Res.box b 104 [l] :: Res.arr encpdb_item 107 l o :: H) w' ∧ v = Value.tuple #[]) r) := by
 unfold Qat at hm
 refine Qd Tryz.func267 Z Z (G ?_)
 refine QcJ QmZ Z Z (G ?_)
 refine Exec.alloc (cs := [O 0, O 0]) hS Qoz Z Z ?_
 intro q y u
 refine G ?_
 refine KJ Z Z Z ?_
 intro z d
 refine G ?_
 refine JE (n0 := 7) (qs 0 5 (.e 5 [0, 1, 2, 3] (.e 6 [0] .done))) JM (by kernel_rfl) (by kernel_rfl) (G ?_)
 refine Zn ((d.drew).f1) A104.h Z Z Z ⟨Z, ?_⟩
 refine G ?_
 refine QK (ds := [O (a.dist), O (a.state)]) (d.drew) A107.h Z Z Z ⟨Z, ?_⟩
 refine G ?_
 refine Exec.buildSlice (Te := 107) (cs := [O (a.dist), O (a.state)]) d.drew Z (Qc (c := [O (a.dist), O (a.state)]) (Qe Z Z) Qi) (fun _ => by kernel_rfl) ?_
 intro t aa m
 refine ⟨agq, ?_⟩
 obtain ⟨x, p, hm⟩ := V hm
 refine G ?_
 refine Q5 (E := encpdb_item) (ys := [a]) m.f3 S104.h Qoz Z (by decide) Z Z Z Z ⟨[O (a.dist), O (a.state)], [], Z, ⟨[O (a.dist)], [O (a.state)], Z, Z, Z⟩, Z⟩ Z p ?_
 intro g ab f
 refine ⟨agq, ?_⟩
 refine G ?_
 refine Qq (ds := [g]) (es := [g]) f.f2 A104.h Z Z Z (Qz ((f.f2).f1).arr_one) (Zj ((f.f2).f1).arr_one QU) (Nat.le_of_ble_eq_true Z) Z ?_
 intro ac n
 cases hm
 refine G ?_
 refine ⟨_, Qhg Z, ?_⟩
 exact ⟨s, g, (Zv _), (((n.f2).drop).f1).f1, Z⟩
theorem Qlv : Yt Tryz.prog 102 "Push" = some (267, true) := by kernel_rfl
theorem N49 : (Tryz.f49.name == "runtime.NumGoroutine") = false := by kernel_rfl
end Go.Pw
