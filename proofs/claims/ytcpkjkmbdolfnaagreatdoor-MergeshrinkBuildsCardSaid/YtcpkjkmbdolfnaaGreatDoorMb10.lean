/- -/
import Derived.Test.YtcpkjkmbdolfnaaGreatDoorLC
import Derived.Test.YtcpkjkmbdolfnaaGreatDoorLD
import Derived.Test.YtcpkjkmbdolfnaaGreatDoorMb9
set_option maxRecDepth 100000
set_option maxHeartbeats 4000000
set_option linter.unusedVariables false
namespace Go.Pw
open Go.Proofs
attribute [local irreducible] Exec WL W andThen Y2 DL QW
theorem Qfs {w0 w : World} {s : PHeap} {H : List Res} {t : Task} {n : Int} {y : Value} {z : Value} {p : Value} {u : Value} {r : System} (hm : KW t n = some r) (hS : St w0 s (H) w) (aV : SliceRep (U .i64) s y t.Vars) (aW : SliceRep (U .i64) s z t.Init) (ct : SliceRep encFact s p t.Goal) (aX : SliceRep encOp s u t.Ops) :
  Calls Tryz.prog 26 #[Value.agg #[y, z, p, u], O n] w fun e w' => ∃ v, e = .returned v ∧ ((fun (aj : System) => ∃ (ai : PHeap) (aP : Value) (aQ : Value) (aR : Value), PHeap.le s ai ∧ St w0 ai (H) w' ∧ v = Value.agg #[O (aj.States), O (aj.Init), aP, aQ, aR] ∧ SliceRep (U .i64) ai aP aj.Costs ∧ SliceRep encEdge ai aQ aj.Edges ∧ SliceRep encBool ai aR aj.Goals) r) := by
 unfold KW at hm
 refine Qj Tryz.func26 Z Z (G ?_)
 refine JY Z Z ?_
 intro i eg bx
 refine G ?_
 refine Exec.alloc (cs := [O 0, O 0, Vn, Vn, Vn]) bx Z38 Z Z ?_
 intro j eh ad
 refine G ?_
 refine Jz (n0 := 12) (qs 0 11 (.e 11 [0, 1, 2, 3, 4, 5, 6, 7, 8, 9, 10] .done)) J2 (by kernel_rfl) (by kernel_rfl) (G ?_)
 refine Zn ((ad.drew).f1) A22.h Z Z Z ⟨Z, ?_⟩
 obtain ⟨b, aK, hm⟩ := V hm
 refine G ?_
 refine Qm S22.h Z Z Z aV aK ?_
 intro cu d5 aA be
 refine ⟨Z, ?_⟩
 refine G ?_
 refine Zw (E := (U .i64)) ad.drew A3.h Z Z Z aA ?_
 intro dY bM
 obtain rfl := Qf.1 bM
 refine ⟨Z, ?_⟩
 refine G ?_
 refine Zn ((ad.drew).f1) A22.h Z Z Z ⟨Z, ?_⟩
 obtain ⟨m, bN, hm⟩ := V hm
 refine G ?_
 refine Qm S22.h Z Z Z aW bN ?_
 intro cv d6 aB bf
 refine ⟨Z, ?_⟩
 refine G ?_
 refine Zw (E := (U .i64)) ad.drew A3.h Z Z Z aB ?_
 intro dZ bO
 obtain rfl := Qf.1 bO
 refine ⟨Z, ?_⟩
 refine G ?_
 refine Exec.build Z (Qc (c := [O b]) (Qe Z Z) (Qc (c := [O m]) (Qe Z Z) Qh)) (v := Value.agg #[O b, O m, Vn, Vn, Vn]) (fun _ => by kernel_rfl) ⟨Z, ?_⟩
 refine G ?_
 refine Exec.alloc (cs := [O 0, O 0, Vn, Vn, Vn]) ad.drew Z38 Z Z ?_
 intro l ei ak
 refine ⟨(Qa (Qi Z Z (Zp F26_0.h Z Z Z ⟨Z, Z⟩)) (Qa (Qi Z Z (Zn (ak.f2) A22.h Z Z Z ⟨Z, Z⟩)) (Qa (Qi Z Z (Zm (v := O n) Z Z ⟨Z, Z⟩)) (Qa (Qi Z Z (YA Z Z Z be ⟨Z, Z⟩)) (Qa (Qi Z Z (Zw (E := (U .i64)) ak A3.h Z Z Z aA (fun _ q => ⟨Z, Qf.1 q⟩))) (Qa (Qi Z Z (Zp F26_1.h Z Z Z ⟨Z, Z⟩)) (Qa (Qi Z Z (Zn (ak.f2) A22.h Z Z Z ⟨Z, Z⟩)) (Qa (Qi Z Z (Zm (v := O n) Z Z ⟨Z, Z⟩)) (Qa (Qi Z Z (YA Z Z Z bf ⟨Z, Z⟩)) (Qa (Qi Z Z (Zw (E := (U .i64)) ak A3.h Z Z Z aB (fun _ q => ⟨Z, Qf.1 q⟩))) (Qa (Qi Z Z (Exec.build Z (Qc (c := [O b]) (Qe Z Z) (Qc (c := [O m]) (Qe Z Z) Qh)) (v := Value.agg #[O b, O m, Vn, Vn, Vn]) (fun _ => by kernel_rfl) ⟨Z, Z⟩)) Q1))))))))))), ?_⟩
 refine G ?_
 refine JU Z Z Z ?_
 intro ej bz
 obtain ⟨aa, bg, hm⟩ := V hm
 refine G ?_
 refine QH (fun k' s' f' w' => (fun (aa : (List Int)) => ∃ (aL : PHeap) (a : Value), PHeap.le s aL ∧ St w0 aL (Res.box i 26 [y, z, p, u] :: Res.box j 38 [O 0, O 0, Vn, Vn, Vn] :: Res.box l 38 [O b, O m, a, Vn, Vn] :: Res.arr (U .i64) 3 a aa :: H) w' ∧ Fx f' [(31, O (k' : Int)), (1, O n), (2, Vq i), (4, Vq j), (5, Vq l), (29, u), (30, O ((t.Ops.length : Int)))]) s') bg ?_ ?_ ?_
 ·have cW := bz.nilArr (U .i64) 3
  exact fq
 ·intro dn aa dI c8 ek bF bl ae
  obtain ⟨ci, a, bJ, aC, ⟨c9, rfl⟩⟩ := bl
  obtain ⟨ao, bP, ae⟩ := V ae
  refine G ?_
  refine Jt Z Z Z bP ?_
  intro cw d7 aY
  refine G ?_
  refine Zw (E := encOp) aC A82.h Z Z Z aY ?_
  intro ea bQ
  obtain ⟨dV, dW, rfl, dD, dE⟩ := Ys.1 bQ
  refine G ?_
  refine Exec.alloc (cs := [Value.string (⟨#[]⟩), O 0, Vn, Vn]) aC Z82 Z Z ?_
  intro cx el cX
  refine G ?_
  refine JU Z Z Z ?_
  intro em b0
  refine G ?_
  refine Exec.buildSlice (Te := 3) (cs := [O (ao.Cost)]) b0 Z (Qc (c := [O (ao.Cost)]) (Qe Z Z) Qh) (fun _ => by kernel_rfl) ?_
  intro cy en b1
  obtain ⟨dp, bR, ae⟩ := V ae
  refine G ?_
  refine Qt (E := (U .i64)) (ys := [ao.Cost]) b1.f5 S22.h Z3 Z (by decide) Z Z Z Z ⟨[O (ao.Cost)], [], Z, Z, Z⟩ Z bR ?_
  intro a0 eo ap
  refine G ?_
  refine Qq (ds := [a0]) (es := [O b, O m, a0, Vn, Vn]) ap.f4 A22.h Z Z Z (Ql ((ap.f4).f1).arr_one) (Zj ((ap.f4).f1).arr_one Ja) (Nat.le_of_ble_eq_true Z) Z ?_
  intro ep b2
  cases ae
  refine G ?_
  exact ⟨ci, a0, bJ, (((((b2.f2).drop).f1).f1).f3).f3, (Fx.mk (FxL.cons (QD bF (SliceRep.le aX)) fxl))⟩
 intro cA er bm
 obtain ⟨cj, a, dq, aD, ⟨cB, rfl⟩⟩ := bm
 refine G ?_
 refine Jt Z Z Z aK ?_
 intro cz d8 aZ
 refine G ?_
 refine Zw (E := (U .i64)) aD A3.h Z Z Z aZ ?_
 intro eb bS
 obtain rfl := Qf.1 bS
 obtain ⟨dX, bT, hm⟩ := V hm
 obtain ⟨ab, bh, hm⟩ := V hm
 refine G ?_
 refine QH (fun k' s' f' w' => (fun (ab : (List Bool)) => ∃ (aM : PHeap) (d : Value), PHeap.le cj aM ∧ St w0 aM (Res.box i 26 [y, z, p, u] :: Res.box j 38 [O 0, O 0, Vn, Vn, Vn] :: Res.box l 38 [O b, O m, a, Vn, d] :: Res.arr (U .i64) 3 a aa :: Res.arr encBool 4 d ab :: H) w' ∧ Fx f' [(48, O (k' : Int)), (1, O n), (2, Vq i), (4, Vq j), (5, Vq l), (47, O b)]) s') bh ?_ ?_ ?_
 ·have cY := aD.nilArr encBool 4
  exact fq
 ·intro ah ab dJ cC et bG bn af
  obtain ⟨ck, d, dr, b3, ⟨cD, rfl⟩⟩ := bn
  obtain ⟨x, bi, af⟩ := V af
  refine G ?_
  refine QH (fun k' s' f' w' => (fun (x : Bool) => ∃ (aN : PHeap) , PHeap.le ck aN ∧ St w0 aN (Res.box i 26 [y, z, p, u] :: Res.box j 38 [O 0, O 0, Vn, Vn, Vn] :: Res.box l 38 [O b, O m, a, Vn, d] :: Res.arr (U .i64) 3 a aa :: Res.arr encBool 4 d ab :: H) w' ∧ Fx f' [(54, O (k' : Int)), (1, O n), (2, Vq i), (4, Vq j), (5, Vq l), (8, O ((ah : Int))), (9, Vb x), (47, O b), (48, O ((ah : Int))), (52, p), (53, O ((t.Goal.length : Int)))]) s') bi ?_ ?_ ?_
  ·have cZ := b3.f4
   exact fq
  ·intro bI x dK cE eu dj bo au
   obtain ⟨cl, dt, aE, ⟨cF, rfl⟩⟩ := bo
   obtain ⟨a5, bU, au⟩ := V au
   refine G ?_
   refine Jt Z Z Z bU ?_
   intro c0 d9 ba
   refine G ?_
   refine Zw (E := encFact) aE A77.h Z Z Z ba ?_
   intro ec bV
   obtain rfl := KH.1 bV
   refine G ?_
   refine Exec.alloc (cs := [O 0, O 0]) aE Z77 Z Z ?_
   intro c1 ev da
   refine G ?_
   refine JU Z Z Z ?_
   intro ew db
   refine g ?_
   refine Qo (M := fun f' w' => ∃ (aO : PHeap) , PHeap.le cl aO ∧ St w0 aO (Res.box i 26 [y, z, p, u] :: Res.box j 38 [O 0, O 0, Vn, Vn, Vn] :: Res.box l 38 [O b, O m, a, Vn, d] :: Res.arr (U .i64) 3 a aa :: Res.arr encBool 4 d ab :: H) w' ∧ Fx f' [(1, O n), (2, Vq i), (4, Vq j), (5, Vq l), (8, O ((ah : Int))), (9, Vb ((x && ((!decide (a5.Var = n)) || decide (a5.Val = (ah : Int)))))), (47, O b), (48, O ((ah : Int))), (52, p), (53, O ((t.Goal.length : Int))), (54, O ((bI : Int)))]) ?_ ?_
   ·refine G ?_
    rcases tf x with bD | bD
    ·refine G ?_
     rcases tf (!decide (a5.Var = n)) with bE | bE
     ·refine G ?_
      exact fq
     refine G ?_
     exact fq
    refine G ?_
    exact fq
   intro cG ex bv
   obtain ⟨dL, du, dc, ⟨cH, rfl⟩⟩ := bv
   cases au
   refine G ?_
   exact fq
  intro cI ey bp
  obtain ⟨cm, dv, b4, ⟨cJ, rfl⟩⟩ := bp
  refine G ?_
  refine Exec.buildSlice (Te := 4) (cs := [Vb x]) b4 Z (Qc (c := [Vb x]) (Qe Z Z) Qh) (fun _ => by kernel_rfl) ?_
  intro c2 ez b5
  obtain ⟨dw, bW, af⟩ := V af
  refine G ?_
  refine Qt (E := encBool) (ys := [x]) b5.f5 S36.h Z4 Z (by decide) Z Z Z Z ⟨[Vb x], [], Z, Z, Z⟩ Z bW ?_
  intro a1 e0 aq
  refine G ?_
  refine Qq (ds := [a1]) (es := [O b, O m, a, Vn, a1]) aq.f3 A36.h Z Z Z (Ql ((aq.f3).f1).arr_one) (Zj ((aq.f3).f1).arr_one Ja) (Nat.le_of_ble_eq_true Z) Z ?_
  intro e1 b6
  cases af
  refine G ?_
  exact ⟨cm, a1, lq, ((((b6.f1).f4).f2).f4).f4, (Fx.mk (FxL.cons (QD bG (by have h := Qr bT; simp at h; simp only [maxLen]; omega)) fxl))⟩
 intro cK e2 bq
 obtain ⟨dM, d, dx, b7, ⟨cL, rfl⟩⟩ := bq
 obtain ⟨a6, bX, hm⟩ := V hm
 refine G ?_
 refine Tc Z Z Z Z (Qbz bX b7 rq).r ?_
 rintro a2 e3 ⟨cn, _, dy, b8, rfl, dF⟩
 obtain ⟨a7, bj, hm⟩ := V hm
 refine G ?_
 refine QH (fun k' s' f' w' => (fun (a7 : (List Edge)) => ∃ (ax : PHeap) (am : Value), PHeap.le cn ax ∧ St w0 ax (Res.box i 26 [y, z, p, u] :: Res.box j 38 [O 0, O 0, Vn, Vn, Vn] :: Res.box l 38 [O b, O m, a, am, d] :: Res.arr (U .i64) 3 a aa :: Res.arr encBool 4 d ab :: H) w' ∧ Fx f' [(83, O (k' : Int)), (1, O n), (2, Vq i), (4, Vq j), (5, Vq l), (81, a2), (82, O ((a6.length : Int)))] ∧ SliceRep encEdge ax am a7) s') bj ?_ ?_ ?_
 ·have dd := b8.f4
  exact fq
 ·intro aI a7 dN cM e4 dk br ag
  obtain ⟨co, am, dz, aF, ⟨cN, rfl⟩, bH⟩ := br
  obtain ⟨eD, bY, ag⟩ := V ag
  refine G ?_
  refine Jt Z Z Z bY ?_
  intro c3 dA bb
  refine G ?_
  refine Zw (E := (Qu (U .i64))) aF A22.h Z Z Z bb ?_
  intro aS bZ
  have cg := Jb.1 bZ
  obtain ⟨a8, bk, ag⟩ := V ag
  refine G ?_
  refine QH (fun k' s' f' w' => (fun (a8 : (List Edge)) => ∃ (ay : PHeap) (an : Value), PHeap.le co ay ∧ St w0 ay (Res.box i 26 [y, z, p, u] :: Res.box j 38 [O 0, O 0, Vn, Vn, Vn] :: Res.box l 38 [O b, O m, a, an, d] :: Res.arr (U .i64) 3 a aa :: Res.arr encBool 4 d ab :: H) w' ∧ Fx f' [(90, O (k' : Int)), (1, O n), (2, Vq i), (4, Vq j), (5, Vq l), (13, aS), (81, a2), (82, O ((a6.length : Int))), (83, O ((aI : Int))), (89, O ((t.Ops.length : Int)))] ∧ SliceRep encEdge ay an a8) s') bk ?_ ?_ ?_
  ·have de := aF.f4
   exact fq
  ·intro av a8 dO cO e5 dl bs ac
   obtain ⟨dP, an, bK, b9, ⟨cP, rfl⟩, aH⟩ := bs
   obtain ⟨cr, ca, ac⟩ := V ac
   obtain ⟨eE, eF⟩ := cr
   replace ac := Q6 ac
   refine G ?_
   refine Tc Z Z Z Z (Qhd ca b9 rq rq rq rq rq).r ?_
   rintro _ e6 ⟨cp, ed, aJ, al, rfl, ch⟩
   obtain ⟨a9, o, ac⟩ := V ac
   refine g ?_
   refine Zc (Zd (g ?_))
   refine Qo (M := fun f' w' => (fun (a9 : (List Edge)) => ∃ (az : PHeap) (a3 : Value), PHeap.le cp az ∧ St w0 az (Res.box i 26 [y, z, p, u] :: Res.box j 38 [O 0, O 0, Vn, Vn, Vn] :: Res.box l 38 [O b, O m, a, a3, d] :: Res.arr (U .i64) 3 a aa :: Res.arr encBool 4 d ab :: H) w' ∧ Fx f' [(1, O n), (2, Vq i), (4, Vq j), (5, Vq l), (13, aS), (81, a2), (82, O ((a6.length : Int))), (83, O ((aI : Int))), (89, O ((t.Ops.length : Int))), (90, O ((av : Int)))] ∧ SliceRep encEdge az a3 a9) a9) ?_ ?_
   ·rcases KV o with ⟨ar, o⟩ | ⟨ar, o⟩
    ·refine G ?_
     refine Jz (n0 := 13) (qs 0 12 (.e 12 [] .done)) J2 (by kernel_rfl) (by kernel_rfl) (G ?_)
     refine Zn ((al.drew).f2) A35.h Z Z Z ⟨Z, ?_⟩
     obtain ⟨aT, cb, o⟩ := V o
     refine G ?_
     refine Qm S22.h Z Z Z (cg.mono (Zt bK aJ)) cb ?_
     intro c4 dB bc c6
     refine ⟨Z, ?_⟩
     refine G ?_
     refine Zw (E := (U .i64)) al.drew A3.h Z Z Z bc ?_
     intro ee cc
     obtain rfl := Qf.1 cc
     refine ⟨Z, ?_⟩
     obtain ⟨aU, cd, o⟩ := V o
     refine G ?_
     refine Qm S22.h Z Z Z ch cd ?_
     intro c5 dC bd c7
     refine ⟨Z, ?_⟩
     refine G ?_
     refine Zw (E := (U .i64)) al.drew A3.h Z Z Z bd ?_
     intro ef ce
     obtain rfl := Qf.1 ce
     refine ⟨Z, ?_⟩
     refine G ?_
     refine Exec.build Z (Qc (c := [O aT]) (Qe Z Z) (Qc (c := [O ((av : Int))]) (Qe Z Z) (Qc (c := [O aU]) (Qe Z Z) Qh))) (v := Value.agg #[O aT, O ((av : Int)), O aU]) (fun _ => by kernel_rfl) ⟨Z, ?_⟩
     obtain ⟨eG, cf, o⟩ := V o
     refine G ?_
     refine Tc Z Z Z Z (QaW cf al.drew (aH.mono aJ)).r ?_
     rintro a4 e7 ⟨cq, _, bL, bA, rfl, aw⟩
     refine ⟨YD, ?_⟩
     refine G ?_
     refine Qq (ds := [a4]) (es := [O b, O m, a, a4, d]) bA.f2 A35.h Z Z Z (Ql aw.one) (Zj aw.one Ja) (Nat.le_of_ble_eq_true Z) Z ?_
     intro e8 bB
     cases o
     refine G ?_
     exact ⟨cq, a4, bL, ((((bB.f4).f4).f2).f4).f4, (Fx.mk), aw⟩
    replace ar := Zk ar
    cases o
    refine G ?_
    exact fq
   intro cQ e9 bw
   obtain ⟨dQ, a3, d0, df, ⟨cR, rfl⟩, dm⟩ := bw
   cases ac
   refine G ?_
   exact fq
  intro cS eA bt
  obtain ⟨dR, an, d1, dg, ⟨cT, rfl⟩, aH⟩ := bt
  cases ag
  refine G ?_
  exact fq
 intro cU eB bu
 obtain ⟨dS, am, d2, dh, ⟨cV, rfl⟩, bH⟩ := bu
 refine G ?_
 refine JU Z Z Z ?_
 intro eC aG
 cases hm
 refine G ?_
 refine ⟨_, QlM Z ⟨_, _, Z, Je (aG) A38.h⟩, ?_⟩
 obtain ⟨dT, d3, bC, dG⟩ := aG.f3.freezeArr
 obtain ⟨dU, d4, di, dH⟩ := bC.f3.freezeArr
 exact fq
instance F40_0 : FTy Tryz.prog 40 0 0 := ⟨by kernel_rfl⟩
theorem Yy {w0 w : World} {s : PHeap} {H : List Res} {d : System} {i : (List Int)} {l : Int} {j : Int} {m : Int} {ad : Value} {n : Value} {ae : Value} {c : Value} {r : Bool} (hm : JV d i l j m = some r) (hS : St w0 s (Res.arr (U .i64) 3 c i :: H) w) (a3 : SliceRep (U .i64) s ad d.Costs) (a4 : SliceRep encEdge s n d.Edges) (a5 : SliceRep encBool s ae d.Goals) :
  Calls Tryz.prog 108 #[Value.agg #[O (d.States), O (d.Init), ad, n, ae], c, O l, O j, O m] w fun e w' => ∃ v, e = .returned v ∧ ((fun (a2 : Bool) => ∃ (z : PHeap) , PHeap.le s z ∧ St w0 z (Res.arr (U .i64) 3 c i :: H) w' ∧ v = Value.bool (a2)) r) := by
 unfold JV at hm
 refine Qj Tryz.func108 Z Z (G ?_)
 refine JY Z Z ?_
 intro a6 bd al
 obtain ⟨q, ag, au, aq, am⟩ := Qs hm
 refine g ?_
 refine Zc (Zc (Zd (g ?_)))
 refine Qo (M := fun f' w' => ∃ s', (q = .next s' ∨ q = .brk s') ∧ (fun (_ : Unit) => ∃ (aa : PHeap) , PHeap.le s aa ∧ St w0 aa (Res.arr (U .i64) 3 c i :: H) w' ∧ Fx f' [(1, c), (2, O l), (3, O j), (4, O m), (14, n), (15, O ((d.Edges.length : Int)))]) s') ?_ ?_
 ·refine G ?_
  refine QP (fun k' s' f' w' => (fun (_ : Unit) => ∃ (ab : PHeap) , PHeap.le s ab ∧ St w0 ab (Res.arr (U .i64) 3 c i :: H) w' ∧ Fx f' [(16, O (k' : Int)), (1, c), (2, O l), (3, O j), (4, O m), (14, n), (15, O ((d.Edges.length : Int)))]) s') ag ?_ ?_ ?_
  ·have aK := al.drop
   exact fq
  ·intro ax aY a9 aB be aP ah b av
   obtain ⟨a1, aQ, u, ⟨aC, rfl⟩⟩ := ah
   obtain ⟨bk, ay, b⟩ := V b
   refine G ?_
   refine Jt Z Z Z ay ?_
   intro a7 aU af
   refine G ?_
   refine Zw (E := encEdge) u A73.h Z Z Z af ?_
   intro bb az
   obtain rfl := QK.1 az
   refine G ?_
   refine Exec.alloc (cs := [O 0, O 0, O 0]) u Z73 Z Z ?_
   intro a8 bf aL
   refine G ?_
   refine JU Z Z Z ?_
   intro bg x
   obtain ⟨p, a, b⟩ := V b
   refine g ?_
   refine Zc (Qo (M := fun f' w' => (fun (p : Bool) => ∃ (ac : PHeap) , PHeap.le a1 ac ∧ St w0 ac (Res.arr (U .i64) 3 c i :: H) w' ∧ Fx f' [(1, c), (2, O l), (3, O j), (4, O m), (14, n), (15, O ((d.Edges.length : Int))), (16, O ((ax : Int))), (38, Vb p)]) p) ?_ ?_)
   ·refine G ?_
    rcases Qp a with ⟨an, a⟩ | ⟨an, a⟩
    ·refine G ?_
     rcases Qp a with ⟨ao, a⟩ | ⟨ao, a⟩
     ·obtain ⟨bl, o, a⟩ := V a
      obtain ⟨aJ, aA, t⟩ := (x.f1).arr_at o
      refine G ?_
      refine Qb S22.h Z t Z (Qd o).1 (Qd o).2.1 (G ?_)
      refine Qg (F := (U .i64)) (x.f1) t A3.h Z Z Z o (Sub.refl _) ?_
      intro bc a0
      obtain rfl := Qf.1 a0
      cases a
      refine G ?_
      exact fq
     cases a
     refine G ?_
     exact fq
    cases a
    refine G ?_
    exact fq
   intro aD bh aj
   obtain ⟨aV, aR, aM, ⟨aE, rfl⟩⟩ := aj
   refine G ?_
   rcases Qp b with ⟨ap, b⟩ | ⟨ap, b⟩
   ·cases b
    have ar := au _ (av (by intro _ h; cases h))
    cases ar
    refine G ?_
    exact fr
   cases b
   refine G ?_
   exact ⟨_, Z, fq⟩
  intro aZ aF bi ai aw
  obtain ⟨aW, aS, aN, ⟨aG, rfl⟩⟩ := ai
  refine G ?_
  exact ⟨_, .inl aw, fq⟩
 rintro aH bj ⟨ba, y, ak⟩
 have hm := y.elim (aq _) (am _)
 clear y
 obtain ⟨aX, aT, aO, ⟨aI, rfl⟩⟩ := ak
 cases hm
 refine G ?_
 exact fr
theorem QeP {w0 w : World} {s : PHeap} {H : List Res} {b : System} {x : (List Int)} {aa : Int} {o : Int} {p : Value} {m : Value} {t : Value} {c : Value} {r : Bool} (hm : Yl b x aa o = some r) (hS : St w0 s (Res.arr (U .i64) 3 c x :: H) w) (aR : SliceRep (U .i64) s p b.Costs) (aS : SliceRep encEdge s m b.Edges) (af : SliceRep encBool s t b.Goals) :
  Calls Tryz.prog 79 #[Value.agg #[O (b.States), O (b.Init), p, m, t], c, O aa, O o] w fun e w' => ∃ v, e = .returned v ∧ ((fun (aQ : Bool) => ∃ (am : PHeap) , PHeap.le s am ∧ St w0 am (Res.arr (U .i64) 3 c x :: H) w' ∧ v = Value.bool (aQ)) r) := by
 unfold Yl at hm
 refine Qj Tryz.func79 Z Z (G ?_)
 refine JY Z Z ?_
 intro u bR a0
 refine G ?_
 refine Jz (n0 := 11) (qs 0 11 .done) J2 (by kernel_rfl) (by kernel_rfl) ?_
 have ad := a0.drew
 obtain ⟨cc, aB, hm⟩ := V hm
 refine G ?_
 refine Qm S36.h Z Z Z af aB ?_
 intro aT b7 aq bc
 refine ⟨Z, ?_⟩
 refine G ?_
 refine Zw (E := encBool) ad A4.h Z Z Z aq ?_
 intro bK aC
 obtain rfl := QC.1 aC
 refine ⟨Z, ?_⟩
 obtain ⟨cd, aD, hm⟩ := V hm
 refine G ?_
 refine Qm S36.h Z Z Z af aD ?_
 intro aU b8 ar bd
 refine ⟨Z, ?_⟩
 refine G ?_
 refine Zw (E := encBool) ad A4.h Z Z Z ar ?_
 intro bL aE
 obtain rfl := QC.1 aE
 refine ⟨Z, ?_⟩
 refine G ?_
 refine Qbe Tryz.underlying4 Z Z Z ⟨Z, ?_⟩
 refine G ?_
 rcases Qp hm with ⟨ak, hm⟩ | ⟨ak, hm⟩
 ·cases hm
  refine G ?_
  exact fr
 obtain ⟨ag, av, a7, a5, a2⟩ := Qs hm
 refine W_c Z ak (QaN (J3 (Ze (Zc (Zc (Zd (g ?_)))))))
 refine Qo (M := fun f' w' => ∃ s', (ag = .next s' ∨ ag = .brk s') ∧ (fun (_ : Unit) => ∃ (an : PHeap) , PHeap.le s an ∧ St w0 an (Res.arr (U .i64) 3 c x :: Res.box u 38 [O (b.States), O (b.Init), p, m, t] :: H) w' ∧ Fx f' [(1, c), (2, O aa), (3, O o), (4, Vq u), (23, m), (24, O ((b.Edges.length : Int)))]) s') ?_ ?_
 ·refine G ?_
  refine QP (fun k' s' f' w' => (fun (_ : Unit) => ∃ (ao : PHeap) , PHeap.le s ao ∧ St w0 ao (Res.arr (U .i64) 3 c x :: Res.box u 38 [O (b.States), O (b.Init), p, m, t] :: H) w' ∧ Fx f' [(25, O (k' : Int)), (1, c), (2, O aa), (3, O o), (4, Vq u), (23, m), (24, O ((b.Edges.length : Int)))]) s') av ?_ ?_ ?_
  ·have bq := ad.f1
   exact fq
  ·intro aA bH aX be bS bx aw n a8
   obtain ⟨aP, bz, aj, ⟨bf, rfl⟩⟩ := aw
   obtain ⟨ce, aF, n⟩ := V n
   refine G ?_
   refine Jt Z Z Z aF ?_
   intro aV b9 au
   refine G ?_
   refine Zw (E := encEdge) aj A73.h Z Z Z au ?_
   intro bM aG
   obtain rfl := QK.1 aG
   refine G ?_
   refine Exec.alloc (cs := [O 0, O 0, O 0]) aj Z73 Z Z ?_
   intro aW bT br
   refine G ?_
   refine JU Z Z Z ?_
   intro bU a1
   obtain ⟨ae, a, n⟩ := V n
   refine g ?_
   refine Zc (Qo (M := fun f' w' => (fun (ae : Bool) => ∃ (ap : PHeap) , PHeap.le aP ap ∧ St w0 ap (Res.arr (U .i64) 3 c x :: Res.box u 38 [O (b.States), O (b.Init), p, m, t] :: H) w' ∧ Fx f' [(1, c), (2, O aa), (3, O o), (4, Vq u), (23, m), (24, O ((b.Edges.length : Int))), (25, O ((aA : Int))), (63, Vb ae)]) ae) ?_ ?_)
   ·refine Jz (n0 := 35) (qs 0 21 (qs 22 10 (.e 21 [22, 23, 24, 25, 26, 27, 28, 29, 30, 31] (.e 32 [] (.q 33 (.q 34 .done)))))) J2 (by kernel_rfl) (by kernel_rfl) ?_
    have l := a1.drew
    refine G ?_
    rcases Qp a with ⟨a3, a⟩ | ⟨a3, a⟩
    ·obtain ⟨cf, i, a⟩ := V a
     obtain ⟨bm, aY, ah⟩ := (l.f1).arr_at i
     refine G ?_
     refine Qb S22.h Z ah Z (Qd i).1 (Qd i).2.1 ⟨Z, ?_⟩
     refine G ?_
     refine Qg (F := (U .i64)) (l.f1) ah A3.h Z Z Z i (Sub.refl _) ?_
     intro bN aH
     obtain rfl := Qf.1 aH
     refine ⟨Z, ?_⟩
     obtain ⟨bn, aZ, ab⟩ := (l.f1).arr_at i
     refine G ?_
     refine Qb S22.h Z ab Z (Qd i).1 (Qd i).2.1 ⟨Z, ?_⟩
     refine G ?_
     refine Qg (F := (U .i64)) (l.f1) ab A3.h Z Z Z i (Sub.refl _) ?_
     intro bO aI
     obtain rfl := Qf.1 aI
     refine ⟨Z, ?_⟩
     obtain ⟨ch, aJ, a⟩ := V a
     refine G ?_
     refine Tc Z Z Z Z (Yy aJ l.f1 rq rq rq).r ?_
     rintro _ bV ⟨bA, b0, y, rfl⟩
     refine ⟨(Qa (Qb6 Z Z (Zf Z Z) (Q4 (ds := [O (b.States), O (b.Init), p, m, t]) (y.f2) A38.h Z Z Z ⟨Z, Z⟩)) (Qa (Qb6 Z Z (Zf Z Z) (Zm (v := c) Z Z ⟨Z, Z⟩)) (Qa (Qb6 Z Z (Zf Z Z) (Zm (v := O o) Z Z ⟨Z, Z⟩)) (Qa (Qb6 Z Z (Zf Z Z) (Zp F73_1.h Z Z Z ⟨Z, Z⟩)) (Qa (Qb6 Z Z (Zf Z Z) (Zn (y.f1) A3.h Z Z Z ⟨Z, Z⟩)) (Qa (Qb6 Z Z (Zf Z Z) (Zm (v := c) Z Z ⟨Z, Z⟩)) (Qa (Qb6 Z Z (Zf Z Z) (Zp F73_2.h Z Z Z ⟨Z, Z⟩)) (Qa (Qb6 Z Z (Zf Z Z) (Zn (y.f1) A3.h Z Z Z ⟨Z, Z⟩)) (Qa (Qb6 Z Z (Zf Z Z) (Qb S22.h Z ab Z (Qd i).1 (Qd i).2.1 ⟨Z, Z⟩)) (Qa (Qb6 Z Z (Zf Z Z) (Qg (F := (U .i64)) (y) ab A3.h Z Z Z i (Sub.refl _) (fun _ q => ⟨Z, Qf.1 q⟩))) Q1)))))))))), ?_⟩
     obtain ⟨ci, aK, a⟩ := V a
     refine G ?_
     refine Tc Z Z Z Z (Yy aK y rq rq rq).r ?_
     rintro _ bW ⟨bB, b1, bs, rfl⟩
     refine ⟨YD, ?_⟩
     refine G ?_
     refine Qbe Tryz.underlying4 Z Z Z ⟨Z, ?_⟩
     cases a
     refine G ?_
     exact fq
    refine G ?_
    rcases Qp a with ⟨d, a⟩ | ⟨d, a⟩
    ·obtain ⟨cg, j, a⟩ := V a
     obtain ⟨bo, ba, ai⟩ := (l.f1).arr_at j
     refine G ?_
     refine Qb S22.h Z ai Z (Qd j).1 (Qd j).2.1 ⟨Z, ?_⟩
     refine G ?_
     refine Qg (F := (U .i64)) (l.f1) ai A3.h Z Z Z j (Sub.refl _) ?_
     intro bP aL
     obtain rfl := Qf.1 aL
     refine ⟨Z, ?_⟩
     obtain ⟨bp, bb, ac⟩ := (l.f1).arr_at j
     refine G ?_
     refine Qb S22.h Z ac Z (Qd j).1 (Qd j).2.1 ⟨Z, ?_⟩
     refine G ?_
     refine Qg (F := (U .i64)) (l.f1) ac A3.h Z Z Z j (Sub.refl _) ?_
     intro bQ aM
     obtain rfl := Qf.1 aM
     refine ⟨Z, ?_⟩
     obtain ⟨cj, aN, a⟩ := V a
     refine G ?_
     refine Tc Z Z Z Z (Yy aN l.f1 rq rq rq).r ?_
     rintro _ bX ⟨bC, b2, z, rfl⟩
     refine ⟨(Qa (Qb6 Z Z (Zf Z (Zx d)) (Q4 (ds := [O (b.States), O (b.Init), p, m, t]) (z.f2) A38.h Z Z Z ⟨Z, Z⟩)) (Qa (Qb6 Z Z (Zf Z (Zx d)) (Zm (v := c) Z Z ⟨Z, Z⟩)) (Qa (Qb6 Z Z (Zf Z (Zx d)) (Zm (v := O o) Z Z ⟨Z, Z⟩)) (Qa (Qb6 Z Z (Zf Z (Zx d)) (Zp F73_1.h Z Z Z ⟨Z, Z⟩)) (Qa (Qb6 Z Z (Zf Z (Zx d)) (Zn (z.f1) A3.h Z Z Z ⟨Z, Z⟩)) (Qa (Qb6 Z Z (Zf Z (Zx d)) (Zm (v := c) Z Z ⟨Z, Z⟩)) (Qa (Qb6 Z Z (Zf Z (Zx d)) (Zp F73_2.h Z Z Z ⟨Z, Z⟩)) (Qa (Qb6 Z Z (Zf Z (Zx d)) (Zn (z.f1) A3.h Z Z Z ⟨Z, Z⟩)) (Qa (Qb6 Z Z (Zf Z (Zx d)) (Qb S22.h Z ac Z (Qd j).1 (Qd j).2.1 ⟨Z, Z⟩)) (Qa (Qb6 Z Z (Zf Z (Zx d)) (Qg (F := (U .i64)) (z) ac A3.h Z Z Z j (Sub.refl _) (fun _ q => ⟨Z, Qf.1 q⟩))) Q1)))))))))), ?_⟩
     obtain ⟨ck, aO, a⟩ := V a
     refine G ?_
     refine Tc Z Z Z Z (Yy aO z rq rq rq).r ?_
     rintro _ bY ⟨bD, b3, bt, rfl⟩
     refine ⟨YD, ?_⟩
     refine G ?_
     refine Qbe Tryz.underlying4 Z Z Z ⟨Z, ?_⟩
     cases a
     refine G ?_
     exact fq
    cases a
    refine G ?_
    exact fq
   intro bg bZ ay
   obtain ⟨bE, b4, bu, ⟨bh, rfl⟩⟩ := ay
   refine G ?_
   rcases Qp n with ⟨a4, n⟩ | ⟨a4, n⟩
   ·cases n
    have a6 := a7 _ (a8 (by intro _ h; cases h))
    cases a6
    refine G ?_
    exact fr
   cases n
   refine G ?_
   exact ⟨_, Z, fq⟩
  intro bI bi ca ax a9
  obtain ⟨bF, b5, bv, ⟨bj, rfl⟩⟩ := ax
  refine G ?_
  exact ⟨_, .inl a9, fq⟩
 rintro bk cb ⟨bJ, al, az⟩
 have hm := al.elim (a5 _) (a2 _)
 clear al
 obtain ⟨bG, b6, bw, ⟨bl, rfl⟩⟩ := az
 cases hm
 refine G ?_
 exact fr
theorem QeT {w0 w : World} {s : PHeap} {H : List Res} {b : (List Int)} {i : (List Int)} {c : Value} {d : Value} {r : Bool} (hm : Qaj b i = some r) (hS : St w0 s (Res.arr (U .i64) 3 c b :: Res.arr (U .i64) 3 d i :: H) w) :
  Calls Tryz.prog 53 #[c, d] w fun e w' => ∃ v, e = .returned v ∧ ((fun (aq : Bool) => ∃ (t : PHeap) , PHeap.le s t ∧ St w0 t (Res.arr (U .i64) 3 c b :: Res.arr (U .i64) 3 d i :: H) w' ∧ v = Value.bool (aq)) r) := by
 unfold Qaj at hm
 refine Qj Tryz.func53 Z Z (G ?_)
 refine Qw (hS) S22.h Z Z (G ?_)
 refine Qw (hS.f1) S22.h Z Z (G ?_)
 rcases Qp hm with ⟨ae, hm⟩ | ⟨ae, hm⟩
 ·cases hm
  refine G ?_
  exact fr
 refine G ?_
 refine Qw (hS) S22.h Z Z ?_
 obtain ⟨n, y, aj, ah, ad⟩ := Qs hm
 refine g ?_
 refine Qo (M := fun f' w' => ∃ s', (n = .next s' ∨ n = .brk s') ∧ (fun (_ : Unit) => ∃ (u : PHeap) , PHeap.le s u ∧ St w0 u (Res.arr (U .i64) 3 c b :: Res.arr (U .i64) 3 d i :: H) w' ∧ Fx f' [(0, c), (1, d), (12, O ((b.length : Int)))]) s') ?_ ?_
 ·refine G ?_
  refine QP (fun k' s' f' w' => (fun (_ : Unit) => ∃ (x : PHeap) , PHeap.le s x ∧ St w0 x (Res.arr (U .i64) 3 c b :: Res.arr (U .i64) 3 d i :: H) w' ∧ Fx f' [(13, O (k' : Int)), (0, c), (1, d), (12, O ((b.length : Int)))]) s') y ?_ ?_ ?_
  ·have a4 := hS.f1
   exact fq
  ·intro a7 aC ar aw aH ag z a ak
   obtain ⟨ap, am, ac, ⟨ax, rfl⟩⟩ := z
   refine G ?_
   refine Jz (n0 := 9) (qs 0 9 .done) J2 (by kernel_rfl) (by kernel_rfl) ?_
   have j := ac.drew
   obtain ⟨aK, l, a⟩ := V a
   obtain ⟨a2, au, o⟩ := j.arr_at l
   refine G ?_
   refine Qb S22.h Z o Z (Qd l).1 (Qd l).2.1 ⟨Z, ?_⟩
   refine G ?_
   refine Qg (F := (U .i64)) (j) o A3.h Z Z Z l (Sub.refl _) ?_
   intro aF an
   obtain rfl := Qf.1 an
   refine ⟨Z, ?_⟩
   obtain ⟨aL, m, a⟩ := V a
   obtain ⟨a3, av, p⟩ := (j.f1).arr_at m
   refine G ?_
   refine Qb S22.h Z p Z (Qd m).1 (Qd m).2.1 ⟨Z, ?_⟩
   refine G ?_
   refine Qg (F := (U .i64)) (j.f1) p A3.h Z Z Z m (Sub.refl _) ?_
   intro aG ao
   obtain rfl := Qf.1 ao
   refine ⟨Z, ?_⟩
   refine G ?_
   rcases Qp a with ⟨af, a⟩ | ⟨af, a⟩
   ·cases a
    have ai := aj _ (ak (by intro _ h; cases h))
    cases ai
    refine G ?_
    exact fr
   cases a
   refine G ?_
   refine ⟨_, Z, ?_⟩; exact ⟨ap, am, (j.f1).f1, (Fx.mk (FxL.cons (QD ag hS.arr_le) fxl))⟩
  intro aD ay aI aa al
  obtain ⟨aA, a8, a5, ⟨az, rfl⟩⟩ := aa
  refine G ?_
  exact ⟨_, .inl al, fq⟩
 rintro a0 aJ ⟨aE, q, ab⟩
 have hm := q.elim (ah _) (ad _)
 clear q
 obtain ⟨aB, a9, a6, ⟨a1, rfl⟩⟩ := ab
 cases hm
 refine G ?_
 exact fr
theorem QaH {w0 w : World} {s : PHeap} {H : List Res} {a : System} {o : Value} {p : Value} {t : Value} {r : (List Int)} (hm : JK a = some r) (hS : St w0 s (H) w) (bG : SliceRep (U .i64) s o a.Costs) (bH : SliceRep encEdge s p a.Edges) (bI : SliceRep encBool s t a.Goals) :
  Calls Tryz.prog 51 #[Value.agg #[O (a.States), O (a.Init), o, p, t]] w fun e w' => ∃ v, e = .returned v ∧ ((fun (bF : (List Int)) => ∃ (a8 : PHeap) (aH : Value), PHeap.le s a8 ∧ St w0 a8 (Res.arr (U .i64) 3 aH bF :: H) w' ∧ v = aH) r) := by
 unfold JK at hm
 refine Qj Tryz.func51 Z Z (G ?_)
 refine JY Z Z ?_
 intro d cP aU
 obtain ⟨c1, br, hm⟩ := V hm
 refine G ?_
 refine QU (E := (U .i64)) aU S22.h Z3 Z Z Z Z br ?_
 intro cJ cQ aV
 obtain ⟨au, aI, bm, bk, bc⟩ := Qs hm
 refine g ?_
 refine Qo (M := fun f' w' => ∃ s', (au = .next s' ∨ au = .brk s') ∧ (fun (av : (List Int)) => ∃ (a9 : PHeap) (aq : Value), PHeap.le s a9 ∧ St w0 a9 (Res.box d 38 [O (a.States), O (a.Init), o, p, t] :: Res.arr (U .i64) 3 aq av :: H) w' ∧ Fx f' [(1, Vq d), (3, aq)]) s') ?_ ?_
 ·refine G ?_
  refine KA (fun s' f' w' => (fun (u : (List Int)) => ∃ (aA : PHeap) (j : Value), PHeap.le s aA ∧ St w0 aA (Res.box d 38 [O (a.States), O (a.Init), o, p, t] :: Res.arr (U .i64) 3 j u :: H) w' ∧ Fx f' [(1, Vq d), (3, j)]) s') aI ?_ ?_
  ·have ct := aV.f1
   exact fq
  intro u bJ bT cR aL i bn
  obtain ⟨b5, j, c2, aW, ⟨bU, rfl⟩⟩ := aL
  obtain ⟨ac, bs, i⟩ := V i
  refine G ?_
  refine QU (E := (U .i64)) aW S22.h Z3 Z Z Z Z bs ?_
  intro n cS ak
  refine G ?_
  refine Qw (ak) S22.h Z Z ?_
  obtain ⟨bD, aJ, i⟩ := V i
  refine G ?_
  refine QH (fun k' s' f' w' => (QM fun (aa : Int) (am : (List Int)) => ∃ (aB : PHeap) , PHeap.le b5 aB ∧ St w0 aB (Res.box d 38 [O (a.States), O (a.Init), o, p, t] :: Res.arr (U .i64) 3 j u :: Res.arr (U .i64) 3 n am :: H) w' ∧ Fx f' [(16, O (k' : Int)), (1, Vq d), (3, j), (4, n), (5, O aa), (15, O ((ac.length : Int)))]) s') aJ ?_ ?_ ?_
  ·have cu := ak.f2
   exact fq
  ·intro m bE b6 bV cT bi aM b
   obtain ⟨aa, am⟩ := bE
   replace b := Q6 b
   obtain ⟨b7, bo, a4, ⟨bW, rfl⟩⟩ := aM
   obtain ⟨dg, ao, b⟩ := V b
   obtain ⟨cl, bK, aw⟩ := (a4.f2).arr_at ao
   refine G ?_
   refine Qb S22.h Z aw Z (Qd ao).1 (Qd ao).2.1 ?_
   obtain ⟨c3, bt, b⟩ := V b
   refine G ?_
   refine Qv a4.f2 aw A3.h Z Z Z Z (Qf.2 Z) bt ?_
   intro cU aX
   obtain ⟨cI, bu, b⟩ := V b
   obtain ⟨af, aK, b⟩ := V b
   refine G ?_
   refine QH (fun k' s' f' w' => (fun (af : (List Int)) => ∃ (aC : PHeap) , PHeap.le b7 aC ∧ St w0 aC (Res.box d 38 [O (a.States), O (a.Init), o, p, t] :: Res.arr (U .i64) 3 j u :: Res.arr (U .i64) 3 n af :: H) w' ∧ Fx f' [(23, O (k' : Int)), (1, Vq d), (3, j), (4, n), (5, O aa), (6, O ((m : Int))), (15, O ((ac.length : Int))), (16, O ((m : Int))), (22, O ((m : Int)))]) s') aK ?_ ?_ ?_
   ·have cv := aX.f2
    exact fq
   ·intro al af cD bX cV bj aN ab
    obtain ⟨b8, c4, aY, ⟨bY, rfl⟩⟩ := aN
    obtain ⟨ar, c, ab⟩ := V ab
    refine Zc (Zd (g ?_))
    refine Zc (QaO (Zx (decide_eq_true (by omega))) (J3 (Ze (Zc (Qae (Zc (Zd (g ?_))))))))
    refine Zc (Qo (M := fun f' w' => (fun (ar : Bool) => ∃ (aD : PHeap) , PHeap.le b8 aD ∧ St w0 aD (Res.box d 38 [O (a.States), O (a.Init), o, p, t] :: Res.arr (U .i64) 3 j u :: Res.arr (U .i64) 3 n af :: H) w' ∧ Fx f' [(1, Vq d), (3, j), (4, n), (5, O aa), (6, O ((m : Int))), (7, O ((al : Int))), (15, O ((ac.length : Int))), (16, O ((m : Int))), (22, O ((m : Int))), (23, O ((al : Int))), (48, Vb ar)]) ar) ?_ ?_)
    ·refine Jz (n0 := 23) (qs 0 21 (.e 21 [] (.q 22 .done))) J2 (by kernel_rfl) (by kernel_rfl) ?_
     have x := aY.drew
     obtain ⟨dh, ag, c⟩ := V c
     obtain ⟨cm, bL, ax⟩ := (x.f2).arr_at ag
     refine G ?_
     refine Qb S22.h Z ax Z (Qd ag).1 (Qd ag).2.1 ⟨Z, ?_⟩
     refine G ?_
     refine Qg (F := (U .i64)) (x.f2) ax A3.h Z Z Z ag (Sub.refl _) ?_
     intro cK bv
     obtain rfl := Qf.1 bv
     refine ⟨Z, ?_⟩
     refine G ?_
     rcases Qp c with ⟨bd, c⟩ | ⟨bd, c⟩
     ·obtain ⟨di, ah, c⟩ := V c
      obtain ⟨cn, bM, ay⟩ := (x.f1).arr_at ah
      refine G ?_
      refine Qb S22.h Z ay Z (Qd ah).1 (Qd ah).2.1 ⟨Z, ?_⟩
      refine G ?_
      refine Qg (F := (U .i64)) (x.f1) ay A3.h Z Z Z ah (Sub.refl _) ?_
      intro cL bw
      obtain rfl := Qf.1 bw
      refine ⟨Z, ?_⟩
      obtain ⟨dj, ai, c⟩ := V c
      obtain ⟨co, bN, az⟩ := (x.f1).arr_at ai
      refine G ?_
      refine Qb S22.h Z az Z (Qd ai).1 (Qd ai).2.1 ⟨Z, ?_⟩
      refine G ?_
      refine Qg (F := (U .i64)) (x.f1) az A3.h Z Z Z ai (Sub.refl _) ?_
      intro cM bx
      obtain rfl := Qf.1 bx
      refine ⟨Z, ?_⟩
      refine G ?_
      rcases Qp c with ⟨be, c⟩ | ⟨be, c⟩
      ·obtain ⟨dn, bz, c⟩ := V c
       refine G ?_
       refine Tc Z Z Z Z (QeP bz x.f1 rq rq rq).r ?_
       rintro _ cW ⟨cE, c5, cw, rfl⟩
       refine ⟨YD, ?_⟩
       cases c
       refine G ?_
       exact fq
      cases c
      refine G ?_
      exact fq
     cases c
     refine G ?_
     exact fq
    intro bZ cX aQ
    obtain ⟨b9, c6, ad, ⟨ca, rfl⟩⟩ := aQ
    obtain ⟨an, l, ab⟩ := V ab
    refine g ?_
    refine Qo (M := fun f' w' => (fun (an : (List Int)) => ∃ (aE : PHeap) , PHeap.le b9 aE ∧ St w0 aE (Res.box d 38 [O (a.States), O (a.Init), o, p, t] :: Res.arr (U .i64) 3 j u :: Res.arr (U .i64) 3 n an :: H) w' ∧ Fx f' [(1, Vq d), (3, j), (4, n), (5, O aa), (6, O ((m : Int))), (15, O ((ac.length : Int))), (16, O ((m : Int))), (22, O ((m : Int))), (23, O ((al : Int)))]) an) ?_ ?_
    ·rcases Qp l with ⟨bf, l⟩ | ⟨bf, l⟩
     ·obtain ⟨dk, aj, l⟩ := V l
      obtain ⟨cp, bO, a0⟩ := (ad.f2).arr_at aj
      refine G ?_
      refine Qb S22.h Z a0 Z (Qd aj).1 (Qd aj).2.1 (G ?_)
      refine Qg (F := (U .i64)) (ad.f2) a0 A3.h Z Z Z aj (Sub.refl _) ?_
      intro cN b0
      obtain rfl := Qf.1 b0
      obtain ⟨dl, ap, l⟩ := V l
      obtain ⟨cq, bP, a1⟩ := (ad.f2).arr_at ap
      refine G ?_
      refine Qb S22.h Z a1 Z (Qd ap).1 (Qd ap).2.1 ?_
      obtain ⟨c7, b1, l⟩ := V l
      refine G ?_
      refine Qv ad.f2 a1 A3.h Z Z Z Z (Qf.2 Z) b1 ?_
      intro cY cx
      cases l
      refine G ?_
      exact fq
     cases l
     refine G ?_
     exact fq
    intro cb cZ aR
    obtain ⟨bA, c8, aZ, ⟨cc, rfl⟩⟩ := aR
    cases ab
    refine G ?_
    exact ⟨bA, lq, ((aZ.f2).f2).f2, (Fx.mk (FxL.cons (QD bj (by have h := Qr bu; simp at h; simp only [maxLen]; omega)) fxl))⟩
   intro cd da aO
   obtain ⟨bB, bp, ae, ⟨ce, rfl⟩⟩ := aO
   obtain ⟨dm, z, b⟩ := V b
   obtain ⟨cr, bQ, a2⟩ := (ae.f2).arr_at z
   refine G ?_
   refine Qb S22.h Z a2 Z (Qd z).1 (Qd z).2.1 (G ?_)
   refine Qg (F := (U .i64)) (ae.f2) a2 A3.h Z Z Z z (Sub.refl _) ?_
   intro cO b2
   obtain rfl := Qf.1 b2
   obtain ⟨aG, y, b⟩ := V b
   refine g ?_
   refine Qo (M := fun f' w' => (QM fun (a6 : Int) (a7 : (List Int)) => ∃ (aF : PHeap) , PHeap.le bB aF ∧ St w0 aF (Res.box d 38 [O (a.States), O (a.Init), o, p, t] :: Res.arr (U .i64) 3 j u :: Res.arr (U .i64) 3 n a7 :: H) w' ∧ Fx f' [(1, Vq d), (3, j), (4, n), (5, O a6), (15, O ((ac.length : Int))), (16, O ((m : Int)))]) aG) ?_ ?_
   ·rcases Qp y with ⟨bg, y⟩ | ⟨bg, y⟩
    ·obtain ⟨cs, bR, a3⟩ := (ae.f2).arr_at z
     refine G ?_
     refine Qb S22.h Z a3 Z (Qd z).1 (Qd z).2.1 ?_
     obtain ⟨c9, b3, y⟩ := V y
     refine G ?_
     refine Qv ae.f2 a3 A3.h Z Z Z Z (Qf.2 Z) b3 ?_
     intro db cy
     cases y
     refine G ?_
     exact fq
    cases y
    refine G ?_
    exact fq
   intro cf dc aS
   obtain ⟨a6, a7⟩ := aG
   replace b := Q6 b
   obtain ⟨bC, bq, ba, ⟨cg, rfl⟩⟩ := aS
   have bS := Zu b
   subst b6
   refine G ?_
   exact ⟨bC, (Zt (Zt bo bp) bq), ((ba.f2).f2).f2, (Fx.mk (FxL.cons (QD bi ak.arr_le) fxl))⟩
  intro ch dd aP
  obtain ⟨aa, am⟩ := bD
  replace i := Q6 i
  obtain ⟨cF, cA, bb, ⟨ci, rfl⟩⟩ := aP
  obtain ⟨dp, b4, i⟩ := V i
  refine G ?_
  refine Tc Z Z Z (Zi Z (Zi Z QT)) (QeT b4 (bb.f1).f2).r ?_
  rintro _ de ⟨cG, cB, cz, rfl⟩
  refine G ?_
  rcases Qp i with ⟨bh, i⟩ | ⟨bh, i⟩
  ·cases i
   have bl := bm _ (bn (by intro _ h; cases h))
   cases bl
   refine G ?_
   exact fr
  cases i
  refine G ?_
  exact ⟨_, Z, fq⟩
 rintro cj df ⟨av, a5, aT⟩
 have hm := a5.elim (bk _) (bc _)
 clear a5
 obtain ⟨cH, aq, cC, c0, ⟨ck, rfl⟩⟩ := aT
 refine ?_
 cases hm
theorem QaV {w0 w : World} {s : PHeap} {H : List Res} {b : (List Int)} {n : Int} {a : Value} {r : Int} (hm : JR b n = some r) (hS : St w0 s (Res.arr (U .i64) 3 a b :: H) w) :
  Calls Tryz.prog 50 #[a, O n] w fun e w' => ∃ v, e = .returned v ∧ ((fun (bH : Int) => ∃ (az : PHeap) , PHeap.le s az ∧ St w0 az (Res.arr (U .i64) 3 a b :: H) w' ∧ v = O bH) r) := by
 unfold JR at hm
 refine Qj Tryz.func50 Z Z (G ?_)
 refine Qw (hS) S22.h Z Z (G ?_)
 rcases Qp hm with ⟨bf, hm⟩ | ⟨bf, hm⟩
 ·cases hm
  refine G ?_
  exact fr
 refine G ?_
 refine Qw (hS) S22.h Z Z ?_
 obtain ⟨ae, aH, bw, bn, bb⟩ := Qs hm
 refine g ?_
 refine Qo (M := fun f' w' => ∃ s', (ae = .next s' ∨ ae = .brk s') ∧ (fun (c : Int) => ∃ (a0 : PHeap) , PHeap.le s a0 ∧ St w0 a0 (Res.arr (U .i64) 3 a b :: H) w' ∧ Fx f' [(0, a), (1, O n), (5, O c), (18, a), (19, O ((b.length : Int)))]) s') ?_ ?_
 ·refine G ?_
  refine QP (fun k' s' f' w' => (fun (q : Int) => ∃ (a1 : PHeap) , PHeap.le s a1 ∧ St w0 a1 (Res.arr (U .i64) 3 a b :: H) w' ∧ Fx f' [(20, O (k' : Int)), (0, a), (1, O n), (5, O q), (18, a), (19, O ((b.length : Int)))]) s') aH ?_ ?_ ?_
  ·exact fq
  ·intro b7 q bI bQ cU bj aL d b0
   obtain ⟨a2, c2, z, ⟨bR, rfl⟩⟩ := aL
   obtain ⟨y, t, d⟩ := V d
   obtain ⟨cs, bJ, aj⟩ := z.arr_at t
   refine G ?_
   refine Qb S22.h Z aj Z (Qd t).1 (Qd t).2.1 (G ?_)
   refine Qg (F := (U .i64)) (z) aj A3.h Z Z Z t (Sub.refl _) ?_
   intro cR bA
   obtain rfl := Qf.1 bA
   refine g ?_
   refine Zc (Zc (Qo (M := fun f' w' => ∃ (a3 : PHeap) , PHeap.le a2 a3 ∧ St w0 a3 (Res.arr (U .i64) 3 a b :: H) w' ∧ Fx f' [(0, a), (1, O n), (5, O q), (7, O y), (18, a), (19, O ((b.length : Int))), (20, O ((b7 : Int))), (30, Vb (((decide (y < 0)) || decide (n ≤ y))))]) ?_ ?_))
   ·refine G ?_
    rcases tf (decide (y < 0)) with ap | ap
    ·refine G ?_
     exact fq
    refine G ?_
    exact ⟨a2, (Zv _), z, (Fx.mk (FxL.cons Z (FxL.cons Z (FxL.cons Z (FxL.cons Z (FxL.cons Z (FxL.cons Z (FxL.cons Z (FxL.cons (Zx (QnS ap)).symm fxl)))))))))⟩
   intro bS cV aT
   obtain ⟨bE, c3, aZ, ⟨bT, rfl⟩⟩ := aT
   refine G ?_
   rcases Qp d with ⟨bg, d⟩ | ⟨bg, d⟩
   ·cases d
    have br := bw _ (b0 (by intro _ h; cases h))
    cases br
    refine G ?_
    exact fr
   refine G ?_
   refine QaQ Z Z Z ?_
   cases d
   refine G ?_
   refine ⟨_, Z, ?_⟩; exact ⟨bE, lq, aZ, (Fx.mk (FxL.cons (QD bj hS.arr_le) fxl))⟩
  intro q bU cW aM b1
  obtain ⟨cF, c4, cv, ⟨bV, rfl⟩⟩ := aM
  refine G ?_
  exact ⟨_, .inl b1, fq⟩
 rintro bW cX ⟨c, aq, aU⟩
 have hm := aq.elim (bn _) (bb _)
 clear aq
 obtain ⟨a4, c5, cw, ⟨bX, rfl⟩⟩ := aU
 obtain ⟨cQ, bB, hm⟩ := V hm
 obtain ⟨af, aI, aw, bo, bc⟩ := Qs hm
 refine g ?_
 refine Zc (Zc (Zd (g ?_)))
 refine Qo (M := fun f' w' => ∃ s', (af = .next s' ∨ af = .brk s') ∧ (fun (_ : Unit) => ∃ (a5 : PHeap) , PHeap.le a4 a5 ∧ St w0 a5 (Res.arr (U .i64) 3 a b :: H) w' ∧ Fx f' [(0, a), (5, O c), (36, O c)]) s') ?_ ?_
 ·refine G ?_
  refine QP (fun k' s' f' w' => (fun (_ : Unit) => ∃ (a6 : PHeap) , PHeap.le a4 a6 ∧ St w0 a6 (Res.arr (U .i64) 3 a b :: H) w' ∧ Fx f' [(37, O (k' : Int)), (0, a), (5, O c), (36, O c)]) s') aI ?_ ?_ ?_
  ·exact fq
  ·intro m cK bK bY cY bk aN i ax
   obtain ⟨a7, c6, am, ⟨bZ, rfl⟩⟩ := aN
   refine G ?_
   refine Qw (am) S22.h Z Z ?_
   obtain ⟨ag, aJ, bx, bp, bd⟩ := Qs i
   refine g ?_
   refine Qo (M := fun f' w' => ∃ s', (ag = .next s' ∨ ag = .brk s') ∧ (fun (ay : Bool) => ∃ (a8 : PHeap) , PHeap.le a7 a8 ∧ St w0 a8 (Res.arr (U .i64) 3 a b :: H) w' ∧ Fx f' [(0, a), (5, O c), (8, O ((m : Int))), (9, Vb ay), (36, O c), (37, O ((m : Int))), (40, a), (41, O ((b.length : Int)))]) s') ?_ ?_
   ·refine G ?_
    refine QP (fun k' s' f' w' => (fun (o : Bool) => ∃ (a9 : PHeap) , PHeap.le a7 a9 ∧ St w0 a9 (Res.arr (U .i64) 3 a b :: H) w' ∧ Fx f' [(42, O (k' : Int)), (0, a), (5, O c), (8, O ((m : Int))), (9, Vb o), (36, O c), (37, O ((m : Int))), (40, a), (41, O ((b.length : Int)))]) s') aJ ?_ ?_ ?_
    ·exact fq
    ·intro b8 o aG ca cZ bl aO j b2
     obtain ⟨ad, c7, p, ⟨cb, rfl⟩⟩ := aO
     obtain ⟨aF, u, j⟩ := V j
     obtain ⟨ct, bL, ak⟩ := p.arr_at u
     refine G ?_
     refine Qb S22.h Z ak Z (Qd u).1 (Qd u).2.1 (G ?_)
     refine Qg (F := (U .i64)) (p) ak A3.h Z Z Z u (Sub.refl _) ?_
     intro cS bC
     obtain rfl := Qf.1 bC
     refine g ?_
     refine Zc (Qo (M := fun f' w' => ∃ (aA : PHeap) , PHeap.le ad aA ∧ St w0 aA (Res.arr (U .i64) 3 a b :: H) w' ∧ Fx f' [(0, a), (5, O c), (8, O ((m : Int))), (9, Vb ((o || decide (aF = (m : Int))))), (11, O aF), (36, O c), (37, O ((m : Int))), (40, a), (41, O ((b.length : Int))), (42, O ((b8 : Int)))]) ?_ ?_)
     ·refine G ?_
      rcases tf o with ab | ab
      ·refine G ?_
       exact ⟨ad, (Zv _), p, (Fx.mk (FxL.cons Z (FxL.cons Z (FxL.cons Z (FxL.cons (Zx (QoN ab)).symm fxl)))))⟩
      refine G ?_
      exact ⟨ad, (Zv _), p, (Fx.mk (FxL.cons Z (FxL.cons Z (FxL.cons Z (FxL.cons (Zx (QnS ab)).symm fxl)))))⟩
     intro cc da aV
     obtain ⟨bF, c8, ba, ⟨cd, rfl⟩⟩ := aV
     refine G ?_
     rcases Qp j with ⟨bh, j⟩ | ⟨bh, j⟩
     ·cases j
      have bs := bx _ (b2 (by intro _ h; cases h))
      cases bs
      have bt := aw _ (ax (by intro _ h; cases h))
      cases bt
      refine G ?_
      exact fr
     have bN := Zu j
     subst aG
     refine G ?_
     refine ⟨_, Z, ?_⟩; exact ⟨bF, lq, ba, (Fx.mk (FxL.cons (QD bl am.arr_le) fxl))⟩
    intro o ce db aP b3
    obtain ⟨cG, c9, cx, ⟨cf, rfl⟩⟩ := aP
    refine G ?_
    exact ⟨_, .inl b3, fq⟩
   rintro cg dc ⟨ay, ar, aW⟩
   have i := ar.elim (bp _) (bd _)
   clear ar
   obtain ⟨aB, cA, an, ⟨ch, rfl⟩⟩ := aW
   refine G ?_
   rcases Qp i with ⟨bi, i⟩ | ⟨bi, i⟩
   ·cases i
    have bu := aw _ (ax (by intro _ h; cases h))
    cases bu
    refine G ?_
    refine ⟨_, Yc Z, ?_⟩
    exact ⟨aB, lq, an, Z⟩
   cases i
   refine G ?_
   refine ⟨_, Z, ?_⟩; exact ⟨aB, lq, an, (Fx.mk (FxL.cons (QD bk (by have h := Qr bB; simp at h; simp only [maxLen]; omega)) fxl))⟩
  intro cL ci dd aQ b4
  obtain ⟨cH, cB, cy, ⟨cj, rfl⟩⟩ := aQ
  refine G ?_
  exact ⟨_, .inl b4, fq⟩
 rintro ck de ⟨cM, au, aX⟩
 have hm := au.elim (bo _) (bc _)
 clear au
 obtain ⟨aC, cC, ao, ⟨cl, rfl⟩⟩ := aX
 refine G ?_
 refine Qw (ao) S22.h Z Z ?_
 obtain ⟨ah, aK, bz, bq, be⟩ := Qs hm
 refine g ?_
 refine Qo (M := fun f' w' => ∃ s', (ah = .next s' ∨ ah = .brk s') ∧ (fun (_ : Unit) => ∃ (aD : PHeap) , PHeap.le aC aD ∧ St w0 aD (Res.arr (U .i64) 3 a b :: H) w' ∧ Fx f' [(5, O c), (58, a), (59, O ((b.length : Int)))]) s') ?_ ?_
 ·refine G ?_
  refine QP (fun k' s' f' w' => (fun (_ : Unit) => ∃ (aE : PHeap) , PHeap.le aC aE ∧ St w0 aE (Res.arr (U .i64) 3 a b :: H) w' ∧ Fx f' [(60, O (k' : Int)), (5, O c), (58, a), (59, O ((b.length : Int)))]) s') aK ?_ ?_ ?_
  ·exact fq
  ·intro c1 cN ai cm df bm aR l b5
   obtain ⟨bG, b9, aa, ⟨cn, rfl⟩⟩ := aR
   obtain ⟨di, x, l⟩ := V l
   obtain ⟨cu, bM, al⟩ := aa.arr_at x
   refine G ?_
   refine Qb S22.h Z al Z (Qd x).1 (Qd x).2.1 (G ?_)
   refine Qg (F := (U .i64)) (aa) al A3.h Z Z Z x (Sub.refl _) ?_
   intro cT bD
   obtain rfl := Qf.1 bD
   refine G ?_
   rcases KV l with ⟨ac, l⟩ | ⟨ac, l⟩
   ·have bO := Zu l
    subst ai
    have bv := bz _ (b5 (by intro _ h; cases h))
    cases bv
    refine G ?_
    exact fr
   replace ac := Zk ac
   have bP := Zu l
   subst ai
   refine G ?_
   refine ⟨_, Z, ?_⟩; exact ⟨bG, b9, aa, (Fx.mk (FxL.cons (QD bm ao.arr_le) fxl))⟩
  intro cO co dg aS b6
  obtain ⟨cI, cD, cz, ⟨cp, rfl⟩⟩ := aS
  refine G ?_
  exact ⟨_, .inl b6, fq⟩
 rintro cq dh ⟨cP, av, aY⟩
 have hm := av.elim (bq _) (be _)
 clear av
 obtain ⟨cJ, cE, c0, ⟨cr, rfl⟩⟩ := aY
 cases hm
 refine G ?_
 exact fr
theorem Qc3 {w0 w : World} {s : PHeap} {H : List Res} {a : System} {b : (List Int)} {l : Int} {m : Value} {n : Value} {o : Value} {d : Value} {r : Bool} (hm : K5 a b l = some r) (hS : St w0 s (Res.arr (U .i64) 3 d b :: H) w) (a3 : SliceRep (U .i64) s m a.Costs) (a4 : SliceRep encEdge s n a.Edges) (a5 : SliceRep encBool s o a.Goals) :
  Calls Tryz.prog 78 #[Value.agg #[O (a.States), O (a.Init), m, n, o], d, O l] w fun e w' => ∃ v, e = .returned v ∧ ((fun (a2 : Bool) => ∃ (aa : PHeap) , PHeap.le s aa ∧ St w0 aa (Res.arr (U .i64) 3 d b :: H) w' ∧ v = Value.bool (a2)) r) := by
 unfold K5 at hm
 refine Qj Tryz.func78 Z Z (G ?_)
 refine JY Z Z ?_
 intro j aX q
 refine G ?_
 refine Qw (q.f1) S22.h Z Z ?_
 obtain ⟨x, af, ar, ap, al⟩ := Qs hm
 refine g ?_
 refine Qo (M := fun f' w' => ∃ s', (x = .next s' ∨ x = .brk s') ∧ (fun (_ : Unit) => ∃ (ab : PHeap) , PHeap.le s ab ∧ St w0 ab (Res.arr (U .i64) 3 d b :: Res.box j 38 [O (a.States), O (a.Init), m, n, o] :: H) w' ∧ Fx f' [(1, d), (2, O l), (3, Vq j), (9, O ((b.length : Int)))]) s') ?_ ?_
 ·refine G ?_
  refine QP (fun k' s' f' w' => (fun (_ : Unit) => ∃ (ac : PHeap) , PHeap.le s ac ∧ St w0 ac (Res.arr (U .i64) 3 d b :: Res.box j 38 [O (a.States), O (a.Init), m, n, o] :: H) w' ∧ Fx f' [(10, O (k' : Int)), (1, d), (2, O l), (3, Vq j), (9, O ((b.length : Int)))]) s') af ?_ ?_ ?_
  ·have aI := q.f1
   exact fq
  ·intro aw aS a7 a9 aY ao ag i au
   obtain ⟨a0, aL, t, ⟨aA, rfl⟩⟩ := ag
   obtain ⟨u, c, i⟩ := V i
   refine Zc (Zd (g ?_))
   refine Zc (QaO (Zx (decide_eq_true (by omega))) (J3 (Ze (Zc (Qae (Zc (Zd (g ?_))))))))
   refine Zc (Qo (M := fun f' w' => (fun (u : Bool) => ∃ (ad : PHeap) , PHeap.le a0 ad ∧ St w0 ad (Res.arr (U .i64) 3 d b :: Res.box j 38 [O (a.States), O (a.Init), m, n, o] :: H) w' ∧ Fx f' [(1, d), (2, O l), (3, Vq j), (9, O ((b.length : Int))), (10, O ((aw : Int))), (25, Vb u)]) u) ?_ ?_)
   ·obtain ⟨bc, p, c⟩ := V c
    obtain ⟨aH, a8, y⟩ := t.arr_at p
    refine G ?_
    refine Qb S22.h Z y Z (Qd p).1 (Qd p).2.1 (G ?_)
    refine Qg (F := (U .i64)) (t) y A3.h Z Z Z p (Sub.refl _) ?_
    intro aV ax
    obtain rfl := Qf.1 ax
    refine G ?_
    rcases Qp c with ⟨am, c⟩ | ⟨am, c⟩
    ·obtain ⟨bd, ay, c⟩ := V c
     refine G ?_
     refine Jt Z Z Z ay ?_
     intro a6 aP ae
     refine G ?_
     refine Zw (E := encBool) t A4.h Z Z Z ae ?_
     intro aW az
     obtain rfl := QC.1 az
     cases c
     refine G ?_
     exact fq
    cases c
    refine G ?_
    exact fq
   intro aB aZ ai
   obtain ⟨a1, aM, ak, ⟨aC, rfl⟩⟩ := ai
   refine G ?_
   rcases Qp i with ⟨an, i⟩ | ⟨an, i⟩
   ·cases i
    have aq := ar _ (au (by intro _ h; cases h))
    cases aq
    refine G ?_
    exact fr
   cases i
   refine G ?_
   refine ⟨_, Z, ?_⟩; exact ⟨a1, lq, (ak.f1).f1, (Fx.mk (FxL.cons (QD ao (q.f1).arr_le) fxl))⟩
  intro aT aD ba ah av
  obtain ⟨aQ, aN, aJ, ⟨aE, rfl⟩⟩ := ah
  refine G ?_
  exact ⟨_, .inl av, fq⟩
 rintro aF bb ⟨aU, z, aj⟩
 have hm := z.elim (ap _) (al _)
 clear z
 obtain ⟨aR, aO, aK, ⟨aG, rfl⟩⟩ := aj
 cases hm
 refine G ?_
 exact fr
theorem QfL {w0 w : World} {s : PHeap} {H : List Res} {a : System} {p : Int} {j : Value} {l : Value} {m : Value} {r : (List Int)} (hm : Qaa a p = some r) (hS : St w0 s (H) w) (aD : SliceRep (U .i64) s j a.Costs) (aE : SliceRep encEdge s l a.Edges) (aF : SliceRep encBool s m a.Goals) :
  Calls Tryz.prog 48 #[Value.agg #[O (a.States), O (a.Init), j, l, m], O p] w fun e w' => ∃ v, e = .returned v ∧ ((fun (bI : (List Int)) => ∃ (az : PHeap) (aC : Value), PHeap.le s az ∧ St w0 az (Res.arr (U .i64) 3 aC bI :: H) w' ∧ v = aC) r) := by
 unfold Qaa at hm
 refine Qj Tryz.func48 Z Z (G ?_)
 refine JY Z Z ?_
 intro c cS aV
 obtain ⟨dm, br, hm⟩ := V hm
 refine G ?_
 refine Tc Z Z Z Z (QaH br aV aD aE aF).r ?_
 rintro b cT ⟨cH, _, c0, aW, rfl⟩
 obtain ⟨dn, bs, hm⟩ := V hm
 refine G ?_
 refine Tc Z Z Z Z (QaV bs aW).r ?_
 rintro _ cU ⟨a0, c1, aX, rfl⟩
 obtain ⟨am, aG, cz, bn, bg⟩ := Qs hm
 refine g ?_
 refine Qo (M := fun f' w' => ∃ s', (am = .next s' ∨ am = .brk s') ∧ (QM fun (ax : Int) (ay : (List Int)) => ∃ (a1 : PHeap) , PHeap.le a0 a1 ∧ St w0 a1 (Res.box c 38 [O (a.States), O (a.Init), j, l, m] :: Res.arr (U .i64) 3 b ay :: H) w' ∧ Fx f' [(1, O p), (2, Vq c), (5, b), (6, O ax)]) s') ?_ ?_
 ·refine G ?_
  refine KA (fun s' f' w' => (QM fun (o : Int) (y : (List Int)) => ∃ (a2 : PHeap) , PHeap.le a0 a2 ∧ St w0 a2 (Res.box c 38 [O (a.States), O (a.Init), j, l, m] :: Res.arr (U .i64) 3 b y :: H) w' ∧ Fx f' [(1, O p), (2, Vq c), (5, b), (6, O o)]) s') aG ?_ ?_
  ·have cq := aX.f1
   exact fq
  intro bC bJ bQ cV aK d bo
  obtain ⟨o, y⟩ := bC
  replace d := Q6 d
  obtain ⟨cI, c2, aY, ⟨bR, rfl⟩⟩ := aK
  refine G ?_
  refine Tc Z Z Z Z (QdW (Qbc p 1 4096) aY).r ?_
  rintro _ cW ⟨b2, c3, aZ, rfl⟩
  refine G ?_
  rcases Qp d with ⟨bh, d⟩ | ⟨bh, d⟩
  ·obtain ⟨cO, bt, d⟩ := V d
   obtain ⟨bD, aH, d⟩ := V d
   refine G ?_
   refine QH (fun k' s' f' w' => (QM fun (aa : Int) (ac : Int) => ∃ (a3 : PHeap) , PHeap.le b2 a3 ∧ St w0 a3 (Res.box c 38 [O (a.States), O (a.Init), j, l, m] :: Res.arr (U .i64) 3 b y :: H) w' ∧ Fx f' [(26, O (k' : Int)), (1, O p), (2, Vq c), (5, b), (6, O o), (7, O aa), (8, O ac), (25, O o)]) s') aH ?_ ?_ ?_
   ·have cr := aZ.f1
    exact fq
   ·intro ab bE b3 bS cX bk aL t
    obtain ⟨aa, ac⟩ := bE
    replace t := Q6 t
    obtain ⟨b4, c4, ba, ⟨bT, rfl⟩⟩ := aL
    obtain ⟨cP, bu, t⟩ := V t
    obtain ⟨bF, aI, t⟩ := V t
    refine G ?_
    refine QH (fun k' s' f' w' => (QM fun (af : Int) (al : Int) => ∃ (a4 : PHeap) , PHeap.le b4 a4 ∧ St w0 a4 (Res.box c 38 [O (a.States), O (a.Init), j, l, m] :: Res.arr (U .i64) 3 b y :: H) w' ∧ Fx f' [(30, O (k' : Int)), (1, O p), (2, Vq c), (5, b), (6, O o), (7, O af), (8, O al), (9, O ((ab : Int))), (25, O o), (26, O ((ab : Int))), (29, O ((ab : Int)))]) s') aI ?_ ?_ ?_
    ·have cs := ba.f1
     exact fq
    ·intro bp bG cJ bU cY bl aM n
     obtain ⟨af, al⟩ := bG
     replace n := Q6 n
     obtain ⟨cK, c5, ag, ⟨bV, rfl⟩⟩ := aM
     refine G ?_
     refine Jz (n0 := 9) (qs 0 3 (qs 4 3 (.e 3 [4, 5, 6] (.e 7 [] (.q 8 .done))))) J2 (by kernel_rfl) (by kernel_rfl) (G ?_)
     refine Q4 (ds := [O (a.States), O (a.Init), j, l, m]) (ag.drew) A38.h Z Z Z ⟨Z, ?_⟩
     refine G ?_
     refine Q4 (ds := [O (a.States), O (a.Init), j, l, m]) (ag.drew) A38.h Z Z Z ⟨Z, ?_⟩
     obtain ⟨dp, bv, n⟩ := V n
     refine G ?_
     refine Tc Z Z Z (Zi Z (Zi Z (Zi Z QT))) (Qc3 bv (ag.drew).f1 rq rq rq).r ?_
     rintro _ cZ ⟨cL, c6, bb, rfl⟩
     refine ⟨YD, ?_⟩
     obtain ⟨dq, bw, n⟩ := V n
     refine G ?_
     refine Tc Z Z Z Z (Qc3 bw bb rq rq rq).r ?_
     rintro _ da ⟨b5, c7, ct, rfl⟩
     refine ⟨YD, ?_⟩
     refine G ?_
     refine QdY Tryz.underlying4 Z Z Z ⟨Z, ?_⟩
     obtain ⟨aA, ae, n⟩ := V n
     refine g ?_
     refine Qo (M := fun f' w' => (QM fun (ar : Int) (aB : Int) => ∃ (a5 : PHeap) , PHeap.le b5 a5 ∧ St w0 a5 (Res.box c 38 [O (a.States), O (a.Init), j, l, m] :: Res.arr (U .i64) 3 b y :: H) w' ∧ Fx f' [(1, O p), (2, Vq c), (5, b), (6, O o), (7, O ar), (8, O aB), (9, O ((ab : Int))), (25, O o), (26, O ((ab : Int))), (29, O ((ab : Int))), (30, O ((bp : Int)))]) aA) ?_ ?_
     ·rcases Qp ae with ⟨bi, ae⟩ | ⟨bi, ae⟩
      ·cases ae
       refine G ?_
       exact fq
      cases ae
      refine G ?_
      exact fq
     intro bW db aR
     obtain ⟨ar, aB⟩ := aA
     replace n := Q6 n
     obtain ⟨b6, c8, bc, ⟨bX, rfl⟩⟩ := aR
     cases n
     refine G ?_
     exact ⟨b6, lq, (bc.f1).f1, (Fx.mk (FxL.cons (QD bl (by have h := Qr bu; simp at h; simp only [maxLen]; omega)) fxl))⟩
    intro bY dc aN
    obtain ⟨af, al⟩ := bF
    replace t := Q6 t
    obtain ⟨b7, c9, bd, ⟨bZ, rfl⟩⟩ := aN
    have bO := Zu t
    subst b3
    refine G ?_
    exact ⟨b7, lq, (bd.f1).f1, (Fx.mk (FxL.cons (QD bk (by have h := Qr bt; simp at h; simp only [maxLen]; omega)) fxl))⟩
   intro ca dd aO
   obtain ⟨aa, ac⟩ := bD
   replace d := Q6 d
   obtain ⟨b8, cA, ah, ⟨cb, rfl⟩⟩ := aO
   refine G ?_
   refine Qw (ah.f1) S22.h Z Z ?_
   obtain ⟨ai, aJ, d⟩ := V d
   refine G ?_
   refine QH (fun k' s' f' w' => (fun (ai : (List Int)) => ∃ (a6 : PHeap) , PHeap.le b8 a6 ∧ St w0 a6 (Res.box c 38 [O (a.States), O (a.Init), j, l, m] :: Res.arr (U .i64) 3 b ai :: H) w' ∧ Fx f' [(48, O (k' : Int)), (1, O p), (2, Vq c), (5, b), (6, O o), (7, O aa), (8, O ac), (46, b), (47, O ((y.length : Int)))]) s') aJ ?_ ?_ ?_
   ·have cu := ah.f1
    exact fq
   ·intro aw ai b9 cc de bm aP ad
    obtain ⟨a7, cB, x, ⟨cd, rfl⟩⟩ := aP
    obtain ⟨dl, i, ad⟩ := V ad
    obtain ⟨cm, bK, an⟩ := (x.f1).arr_at i
    refine G ?_
    refine Qb S22.h Z an Z (Qd i).1 (Qd i).2.1 (G ?_)
    refine Qg (F := (U .i64)) (x.f1) an A3.h Z Z Z i (Sub.refl _) ?_
    intro cQ bx
    obtain rfl := Qf.1 bx
    obtain ⟨aj, u, ad⟩ := V ad
    refine g ?_
    refine Qae (Zc (Zd (g ?_)))
    refine Qo (M := fun f' w' => (fun (aj : (List Int)) => ∃ (a8 : PHeap) , PHeap.le a7 a8 ∧ St w0 a8 (Res.box c 38 [O (a.States), O (a.Init), j, l, m] :: Res.arr (U .i64) 3 b aj :: H) w' ∧ Fx f' [(1, O p), (2, Vq c), (5, b), (6, O o), (7, O aa), (8, O ac), (46, b), (47, O ((y.length : Int))), (48, O ((aw : Int)))]) aj) ?_ ?_
    ·rcases Qp u with ⟨au, u⟩ | ⟨au, u⟩
     ·obtain ⟨cn, bL, ao⟩ := (x.f1).arr_at i
      refine G ?_
      refine Qb S22.h Z ao Z (Qd i).1 (Qd i).2.1 ?_
      obtain ⟨cC, bz, u⟩ := V u
      refine G ?_
      refine Qv x.f1 ao A3.h Z Z Z Z (Qf.2 Z) bz ?_
      intro df cv
      cases u
      refine G ?_
      exact fq
     obtain ⟨ak, z, u⟩ := V u
     refine W_c Z au (QaN (Zc (Zd (g ?_))))
     refine Qo (M := fun f' w' => (fun (ak : (List Int)) => ∃ (a9 : PHeap) , PHeap.le a7 a9 ∧ St w0 a9 (Res.box c 38 [O (a.States), O (a.Init), j, l, m] :: Res.arr (U .i64) 3 b ak :: H) w' ∧ Fx f' [(1, O p), (2, Vq c), (5, b), (6, O o), (7, O aa), (8, O ac), (46, b), (47, O ((y.length : Int))), (48, O ((aw : Int)))]) ak) ?_ ?_
     ·rcases Qp z with ⟨bj, z⟩ | ⟨bj, z⟩
      ·obtain ⟨co, bM, ap⟩ := (x.f1).arr_at i
       refine G ?_
       refine Qb S22.h Z ap Z (Qd i).1 (Qd i).2.1 (G ?_)
       refine Qg (F := (U .i64)) (x.f1) ap A3.h Z Z Z i (Sub.refl _) ?_
       intro cR b0
       obtain rfl := Qf.1 b0
       obtain ⟨cp, bN, aq⟩ := (x.f1).arr_at i
       refine G ?_
       refine Qb S22.h Z aq Z (Qd i).1 (Qd i).2.1 ?_
       obtain ⟨cD, b1, z⟩ := V z
       refine G ?_
       refine Qv x.f1 aq A3.h Z Z Z Z (Qf.2 Z) b1 ?_
       intro dg cw
       cases z
       refine G ?_
       exact fq
      cases z
      refine G ?_
      exact fq
     intro ce dh aS
     obtain ⟨bA, bq, be, ⟨cf, rfl⟩⟩ := aS
     cases u
     refine G ?_
     exact ⟨bA, bq, (be.f1).f1, (Fx.mk)⟩
    intro cg di aT
    obtain ⟨bB, cE, bf, ⟨ch, rfl⟩⟩ := aT
    have bP := Zu ad
    subst b9
    refine G ?_
    exact ⟨bB, lq, (bf.f1).f1, (Fx.mk (FxL.cons (QD bm (ah.f1).arr_le) fxl))⟩
   intro ci dj aQ
   obtain ⟨cM, cF, cx, ⟨cj, rfl⟩⟩ := aQ
   cases d
   refine G ?_
   exact ⟨_, Z, fq⟩
  cases d
  refine G ?_
  exact ⟨_, .inr (bo (by intro _ h; cases h)), fq⟩
 rintro ck dk ⟨bH, av, aU⟩
 have hm := av.elim (bn _) (bg _)
 clear av
 obtain ⟨ax, ay⟩ := bH
 replace hm := Q6 hm
 obtain ⟨cN, cG, cy, ⟨cl, rfl⟩⟩ := aU
 cases hm
 refine G ?_
 exact fr
theorem Qbx {w0 w : World} {s : PHeap} {H : List Res} {a : System} {d : Value} {i : Value} {l : Value} {r : Bool} (hm : KP a = some r) (hS : St w0 s (H) w) (bl : SliceRep (U .i64) s d a.Costs) (ak : SliceRep encEdge s i a.Edges) (bm : SliceRep encBool s l a.Goals) :
  Calls Tryz.prog 52 #[Value.agg #[O (a.States), O (a.Init), d, i, l]] w fun e w' => ∃ v, e = .returned v ∧ ((fun (bk : Bool) => ∃ (aa : PHeap) , PHeap.le s aa ∧ St w0 aa (H) w' ∧ v = Value.bool (bk)) r) := by
 unfold KP at hm
 refine Qj Tryz.func52 Z Z (G ?_)
 refine JY Z Z ?_
 intro c co bD
 refine g ?_
 refine Zc (Zc (Qo (M := fun f' w' => ∃ (ab : PHeap) , PHeap.le s ab ∧ St w0 ab (Res.box c 38 [O (a.States), O (a.Init), d, i, l] :: H) w' ∧ Fx f' [(1, Vq c), (46, Vb (((decide (a.States < 1)) || ((decide (4096 < a.States)) || ((decide (a.Init < 0)) || ((decide (a.States ≤ a.Init)) || ((!decide ((a.Goals.length : Int) = a.States)) || ((decide (4096 < (a.Costs.length : Int))) || decide (65536 < (a.Edges.length : Int))))))))))]) ?_ ?_))
 ·refine G ?_
  rcases tf (decide (a.States < 1)) with a5 | a5
  ·refine G ?_
   exact fq
  refine G ?_
  rcases tf (decide (4096 < a.States)) with a6 | a6
  ·refine G ?_
   exact fq
  refine G ?_
  rcases tf (decide (a.Init < 0)) with a7 | a7
  ·refine G ?_
   exact fq
  refine G ?_
  rcases tf (decide (a.States ≤ a.Init)) with a8 | a8
  ·refine G ?_
   exact fq
  refine G ?_
  rcases tf (!decide ((a.Goals.length : Int) = a.States)) with a9 | a9
  ·refine G ?_
   exact fq
  refine G ?_
  rcases tf (decide (4096 < (a.Costs.length : Int))) with aA | aA
  ·refine G ?_
   exact fq
  refine G ?_
  exact fq
 intro bu cp aw
 obtain ⟨ac, aX, bE, ⟨bv, rfl⟩⟩ := aw
 refine G ?_
 rcases Qp hm with ⟨x, hm⟩ | ⟨x, hm⟩
 ·cases hm
  refine G ?_
  exact fr
 obtain ⟨p, ao, aP, aL, a3⟩ := Qs hm
 refine W_c Z x (QaN (J3 (Ze (Zc (Zc (Zd (g ?_)))))))
 refine Qo (M := fun f' w' => ∃ s', (p = .next s' ∨ p = .brk s') ∧ (fun (_ : Unit) => ∃ (ad : PHeap) , PHeap.le ac ad ∧ St w0 ad (Res.box c 38 [O (a.States), O (a.Init), d, i, l] :: H) w' ∧ Fx f' [(1, Vq c), (48, d), (49, O ((a.Costs.length : Int)))]) s') ?_ ?_
 ·refine G ?_
  refine QP (fun k' s' f' w' => (fun (_ : Unit) => ∃ (ae : PHeap) , PHeap.le ac ae ∧ St w0 ae (Res.box c 38 [O (a.States), O (a.Init), d, i, l] :: H) w' ∧ Fx f' [(50, O (k' : Int)), (1, Vq c), (48, d), (49, O ((a.Costs.length : Int)))]) s') ao ?_ ?_ ?_
  ·exact fq
  ·intro aV cf br bw cq bN aq m aR
   obtain ⟨bg, bP, a1, ⟨bx, rfl⟩⟩ := aq
   obtain ⟨n, ba, m⟩ := V m
   refine G ?_
   refine Jt Z Z Z ba ?_
   intro bn bW al
   refine G ?_
   refine Zw (E := (U .i64)) a1 A3.h Z Z Z al ?_
   intro cl bb
   obtain rfl := Qf.1 bb
   refine g ?_
   refine Zc (Qo (M := fun f' w' => ∃ (af : PHeap) , PHeap.le bg af ∧ St w0 af (Res.box c 38 [O (a.States), O (a.Init), d, i, l] :: H) w' ∧ Fx f' [(1, Vq c), (48, d), (49, O ((a.Costs.length : Int))), (50, O ((aV : Int))), (59, Vb (((decide (n < 0)) || decide (1048576 < n))))]) ?_ ?_)
   ·refine G ?_
    rcases tf (decide (n < 0)) with aB | aB
    ·refine G ?_
     exact fq
    refine G ?_
    exact fq
   intro bz cr ax
   obtain ⟨bZ, bQ, bF, ⟨b0, rfl⟩⟩ := ax
   refine G ?_
   rcases Qp m with ⟨aC, m⟩ | ⟨aC, m⟩
   ·cases m
    have aN := aP _ (aR (by intro _ h; cases h))
    cases aN
    refine G ?_
    exact fr
   cases m
   refine G ?_
   exact ⟨_, Z, fq⟩
  intro cg b1 ct ar aS
  obtain ⟨ca, bR, bG, ⟨b2, rfl⟩⟩ := ar
  refine G ?_
  exact ⟨_, .inl aS, fq⟩
 rintro b3 cu ⟨ch, y, ay⟩
 have hm := y.elim (aL _) (a3 _)
 clear y
 obtain ⟨ag, aY, bH, ⟨b4, rfl⟩⟩ := ay
 obtain ⟨q, ap, aQ, aM, a4⟩ := Qs hm
 refine g ?_
 refine Zc (Zc (Zd (g ?_)))
 refine Qo (M := fun f' w' => ∃ s', (q = .next s' ∨ q = .brk s') ∧ (fun (_ : Unit) => ∃ (ah : PHeap) , PHeap.le ag ah ∧ St w0 ah (Res.box c 38 [O (a.States), O (a.Init), d, i, l] :: H) w' ∧ Fx f' [(1, Vq c), (62, i), (63, O ((a.Edges.length : Int)))]) s') ?_ ?_
 ·refine G ?_
  refine QP (fun k' s' f' w' => (fun (_ : Unit) => ∃ (ai : PHeap) , PHeap.le ag ai ∧ St w0 ai (Res.box c 38 [O (a.States), O (a.Init), d, i, l] :: H) w' ∧ Fx f' [(64, O (k' : Int)), (1, Vq c), (62, i), (63, O ((a.Edges.length : Int)))]) s') ap ?_ ?_ ?_
  ·exact fq
  ·intro aW ci bs b5 cv bO au j aT
   obtain ⟨bh, aZ, t, ⟨b6, rfl⟩⟩ := au
   obtain ⟨bi, bc, j⟩ := V j
   refine G ?_
   refine Jt Z Z Z bc ?_
   intro bo bX am
   refine G ?_
   refine Zw (E := encEdge) t A73.h Z Z Z am ?_
   intro cm bd
   obtain rfl := QK.1 bd
   refine G ?_
   refine Exec.alloc (cs := [O 0, O 0, O 0]) t Z73 Z Z ?_
   intro bp cw bI
   refine G ?_
   refine JU Z Z Z ?_
   intro cx a2
   obtain ⟨o, b, j⟩ := V j
   refine g ?_
   refine Zc (Qo (M := fun f' w' => (fun (o : Bool) => ∃ (aj : PHeap) , PHeap.le bh aj ∧ St w0 aj (Res.box c 38 [O (a.States), O (a.Init), d, i, l] :: H) w' ∧ Fx f' [(1, Vq c), (62, i), (63, O ((a.Edges.length : Int))), (64, O ((aW : Int))), (118, Vb o)]) o) ?_ ?_)
   ·refine Jz (n0 := 50) (qs 0 46 (.e 46 [] (qs 47 3 .done))) J2 (by kernel_rfl) (by kernel_rfl) ?_
    have u := a2.drew
    refine G ?_
    rcases Qp b with ⟨aD, b⟩ | ⟨aD, b⟩
    ·cases b
     refine G ?_
     exact fq
    refine G ?_
    rcases Qp b with ⟨aE, b⟩ | ⟨aE, b⟩
    ·cases b
     refine G ?_
     exact fq
    refine G ?_
    rcases Qp b with ⟨aF, b⟩ | ⟨aF, b⟩
    ·cases b
     refine G ?_
     exact fq
    refine G ?_
    rcases Qp b with ⟨aG, b⟩ | ⟨aG, b⟩
    ·cases b
     refine G ?_
     exact fq
    refine G ?_
    rcases Qp b with ⟨aH, b⟩ | ⟨aH, b⟩
    ·cases b
     refine G ?_
     exact fq
    refine G ?_
    rcases Qp b with ⟨aI, b⟩ | ⟨aI, b⟩
    ·cases b
     refine G ?_
     exact fq
    refine G ?_
    rcases Qp b with ⟨aJ, b⟩ | ⟨aJ, b⟩
    ·obtain ⟨bj, be, b⟩ := V b
     refine G ?_
     refine Qm S35.h Z Z Z (ak.mono (Zt (Zt aX aY) aZ)) be ?_
     intro bq bY an bt
     refine ⟨Z, ?_⟩
     refine G ?_
     refine Zw (E := encEdge) u A73.h Z Z Z an ?_
     intro cn bf
     obtain rfl := QK.1 bf
     refine ⟨Z, ?_⟩
     refine G ?_
     refine Tc Z Z Z Z (Qc4 (QaX bj bi) u).r ?_
     rintro _ cy ⟨cb, bS, bJ, rfl⟩
     refine ⟨YD, ?_⟩
     cases b
     refine G ?_
     exact fq
    cases b
    refine G ?_
    exact fq
   intro b7 cz az
   obtain ⟨cc, bT, bK, ⟨b8, rfl⟩⟩ := az
   refine G ?_
   rcases Qp j with ⟨aK, j⟩ | ⟨aK, j⟩
   ·cases j
    have aO := aQ _ (aT (by intro _ h; cases h))
    cases aO
    refine G ?_
    exact fr
   cases j
   refine G ?_
   exact ⟨_, Z, fq⟩
  intro cj b9 c0 av aU
  obtain ⟨cd, bU, bL, ⟨bA, rfl⟩⟩ := av
  refine G ?_
  exact ⟨_, .inl aU, fq⟩
 rintro bB c1 ⟨ck, z, a0⟩
 have hm := z.elim (aM _) (a4 _)
 clear z
 obtain ⟨ce, bV, bM, ⟨bC, rfl⟩⟩ := a0
 cases hm
 refine G ?_
 exact fr
end Go.Pw
