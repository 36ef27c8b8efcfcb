/- -/
import Derived.Test.YtcpkjkmbdolfnaaGreatDoorLC
import Derived.Test.YtcpkjkmbdolfnaaGreatDoorLD
import Derived.Test.YtcpkjkmbdolfnaaGreatDoorMb11
set_option maxRecDepth 100000
set_option maxHeartbeats 4000000
set_option linter.unusedVariables false
namespace Go.Pw
open Go.Proofs
attribute [local irreducible] Exec WL W andThen Y2 DL QW
theorem QdJ {w0 w : World} {s : PHeap} {H : List Res} {a : System} {p : Value} {j : Value} {o : Value} {r : (List Int)} (hm : KL a = some r) (hS : St w0 s (H) w) (ak : SliceRep (U .i64) s p a.Costs) (bB : SliceRep encEdge s j a.Edges) (bC : SliceRep encBool s o a.Goals) :
  Calls Tryz.prog 11 #[Value.agg #[O (a.States), O (a.Init), p, j, o]] w fun e w' => ∃ v, e = .returned v ∧ ((fun (bA : (List Int)) => ∃ (ah : PHeap) (aF : Value), PHeap.le s ah ∧ St w0 ah (H) w' ∧ v = aF ∧ SliceRep (U .i64) ah aF bA) r) := by
 unfold KL at hm
 refine Qj Tryz.func11 Z Z (G ?_)
 refine JY Z Z ?_
 intro d cT aW
 obtain ⟨ac, aK, hm⟩ := V hm
 refine G ?_
 refine QH (fun k' s' f' w' => (fun (ac : (List Int)) => ∃ (a6 : PHeap) (b : Value), PHeap.le s a6 ∧ St w0 a6 (Res.box d 38 [O (a.States), O (a.Init), p, j, o] :: Res.arr (U .i64) 3 b ac :: H) w' ∧ Fx f' [(13, O (k' : Int)), (1, Vq d), (3, b), (11, o), (12, O ((a.Goals.length : Int)))]) s') aK ?_ ?_ ?_
 ·have cn := aW.nilArr (U .i64) 3
  exact fq
 ·intro bl ac cD bQ cU cx aN x
  obtain ⟨b2, b, c0, aX, ⟨bR, rfl⟩⟩ := aN
  obtain ⟨di, bn, x⟩ := V x
  refine G ?_
  refine Jt Z Z Z bn ?_
  intro bD c8 aG
  refine G ?_
  refine Zw (E := encBool) aX A4.h Z Z Z aG ?_
  intro cK bo
  obtain rfl := QC.1 bo
  obtain ⟨t, z, x⟩ := V x
  refine g ?_
  refine Zc (Zd (g ?_))
  refine Zc (Zc (Zd (g ?_)))
  refine Qo (M := fun f' w' => (fun (t : Int) => ∃ (a7 : PHeap) , PHeap.le b2 a7 ∧ St w0 a7 (Res.box d 38 [O (a.States), O (a.Init), p, j, o] :: Res.arr (U .i64) 3 b ac :: H) w' ∧ Fx f' [(1, Vq d), (3, b), (6, O t), (11, o), (12, O ((a.Goals.length : Int))), (13, O ((bl : Int)))]) t) ?_ ?_
  ·rcases Qp z with ⟨bg, z⟩ | ⟨bg, z⟩
   ·cases z
    refine G ?_
    exact fq
   cases z
   refine G ?_
   exact fq
  intro bS cV aS
  obtain ⟨cE, c1, aY, ⟨bT, rfl⟩⟩ := aS
  refine G ?_
  refine Exec.buildSlice (Te := 3) (cs := [O t]) aY Z (Qc (c := [O t]) (Qe Z Z) Qh) (fun _ => by kernel_rfl) ?_
  intro bE cW aZ
  obtain ⟨c2, bp, x⟩ := V x
  refine G ?_
  refine Qt (E := (U .i64)) (ys := [t]) aZ.f2 S22.h Z3 Z (by decide) Z Z Z Z ⟨[O t], [], Z, Z, Z⟩ Z bp ?_
  intro cL cX co
  cases x
  refine G ?_
  exact fq
 intro bU cY aO
 obtain ⟨a8, b, a0, ba, ⟨bV, rfl⟩⟩ := aO
 obtain ⟨am, aL, cz, bj, bf⟩ := Qs hm
 refine Zc (Zd (g ?_))
 refine Zc (Qba (Zx (decide_eq_false (by omega))) (Qid (Qcd (Qcd (Qex (Ze (Zc (Zc (Zd (g ?_))))))))))
 refine Qo (M := fun f' w' => ∃ s', (am = .next s' ∨ am = .brk s') ∧ (QM fun (an : Bool) (a1 : (List Int)) => ∃ (a9 : PHeap) , PHeap.le a8 a9 ∧ St w0 a9 (Res.box d 38 [O (a.States), O (a.Init), p, j, o] :: Res.arr (U .i64) 3 b a1 :: H) w' ∧ Fx f' [(1, Vq d), (3, b), (7, Vb an)]) s') ?_ ?_
 ·refine G ?_
  refine KA (fun s' f' w' => (QM fun (ao : Bool) (a2 : (List Int)) => ∃ (aA : PHeap) , PHeap.le a8 aA ∧ St w0 aA (Res.box d 38 [O (a.States), O (a.Init), p, j, o] :: Res.arr (U .i64) 3 b a2 :: H) w' ∧ Fx f' [(1, Vq d), (3, b), (7, Vb ao)]) s') aL ?_ ?_
  ·have cp := ba.f1
   exact fq
  intro b6 bI bW cZ aP l bk
  obtain ⟨ao, a2⟩ := b6
  replace l := Q6 l
  obtain ⟨b3, a3, bb, ⟨bX, rfl⟩⟩ := aP
  refine G ?_
  rcases Qp l with ⟨bh, l⟩ | ⟨bh, l⟩
  ·obtain ⟨b7, aM, l⟩ := V l
   refine G ?_
   refine QH (fun k' s' f' w' => (QM fun (aa : Bool) (ab : (List Int)) => ∃ (aB : PHeap) , PHeap.le b3 aB ∧ St w0 aB (Res.box d 38 [O (a.States), O (a.Init), p, j, o] :: Res.arr (U .i64) 3 b ab :: H) w' ∧ Fx f' [(27, O (k' : Int)), (1, Vq d), (3, b), (7, Vb aa), (25, j), (26, O ((a.Edges.length : Int)))]) s') aM ?_ ?_ ?_
   ·have cq := bb.f1
    exact fq
   ·intro az b8 cF bY da cy aQ m
    obtain ⟨aa, ab⟩ := b8
    replace m := Q6 m
    obtain ⟨b4, a4, ax, ⟨bZ, rfl⟩⟩ := aQ
    obtain ⟨ai, bq, m⟩ := V m
    refine G ?_
    refine Jt Z Z Z bq ?_
    intro bF c9 aH
    refine G ?_
    refine Zw (E := encEdge) ax A73.h Z Z Z aH ?_
    intro cM br
    obtain rfl := QK.1 br
    refine G ?_
    refine Exec.alloc (cs := [O 0, O 0, O 0]) ax Z73 Z Z ?_
    intro al db cr
    refine G ?_
    refine JU Z Z Z ?_
    intro dc bc
    obtain ⟨aj, n, m⟩ := V m
    refine g ?_
    refine Zc (Qo (M := fun f' w' => (fun (aj : Bool) => ∃ (aC : PHeap) , PHeap.le b4 aC ∧ St w0 aC (Res.box d 38 [O (a.States), O (a.Init), p, j, o] :: Res.arr (U .i64) 3 b ab :: Res.box al 73 [O (ai.From), O (ai.Label), O (ai.To)] :: H) w' ∧ Fx f' [(1, Vq d), (3, b), (7, Vb aa), (9, Vq al), (25, j), (26, O ((a.Edges.length : Int))), (27, O ((az : Int))), (56, Vb aj)]) aj) ?_ ?_)
    ·refine Jz (n0 := 26) (qs 0 26 .done) J2 (by kernel_rfl) (by kernel_rfl) ?_
     have u := bc.drew
     obtain ⟨dj, q, n⟩ := V n
     obtain ⟨ci, bJ, aq⟩ := (u.f2).arr_at q
     refine G ?_
     refine Qb S22.h Z aq Z (Qd q).1 (Qd q).2.1 ⟨Z, ?_⟩
     refine G ?_
     refine Qg (F := (U .i64)) (u.f2) aq A3.h Z Z Z q (Sub.refl _) ?_
     intro cN bs
     obtain rfl := Qf.1 bs
     refine ⟨Z, ?_⟩
     refine G ?_
     rcases Qp n with ⟨bi, n⟩ | ⟨bi, n⟩
     ·obtain ⟨cj, bK, ar⟩ := (u.f2).arr_at q
      refine G ?_
      refine Qb S22.h Z ar Z (Qd q).1 (Qd q).2.1 ⟨Z, ?_⟩
      refine G ?_
      refine Qg (F := (U .i64)) (u.f2) ar A3.h Z Z Z q (Sub.refl _) ?_
      intro cO bt
      obtain rfl := Qf.1 bt
      refine ⟨Z, ?_⟩
      obtain ⟨dk, bu, n⟩ := V n
      refine G ?_
      refine Qm S22.h Z Z Z (ak.mono (Zt (Zt a0 a3) a4)) bu ?_
      intro bG cA aI bO
      refine ⟨Z, ?_⟩
      refine G ?_
      refine Zw (E := (U .i64)) u A3.h Z Z Z aI ?_
      intro cP bv
      obtain rfl := Qf.1 bv
      refine ⟨Z, ?_⟩
      obtain ⟨dl, ad, n⟩ := V n
      obtain ⟨ck, bL, au⟩ := (u.f2).arr_at ad
      refine G ?_
      refine Qb S22.h Z au Z (Qd ad).1 (Qd ad).2.1 ⟨Z, ?_⟩
      refine G ?_
      refine Qg (F := (U .i64)) (u.f2) au A3.h Z Z Z ad (Sub.refl _) ?_
      intro cQ bw
      obtain rfl := Qf.1 bw
      refine ⟨Z, ?_⟩
      cases n
      refine G ?_
      exact fq
     cases n
     refine G ?_
     exact fq
    intro ca dd aT
    obtain ⟨b5, bm, bd, ⟨cb, rfl⟩⟩ := aT
    obtain ⟨aE, i, m⟩ := V m
    refine g ?_
    refine Qo (M := fun f' w' => (QM fun (ap : Bool) (a5 : (List Int)) => ∃ (aD : PHeap) , PHeap.le b5 aD ∧ St w0 aD (Res.box d 38 [O (a.States), O (a.Init), p, j, o] :: Res.arr (U .i64) 3 b a5 :: H) w' ∧ Fx f' [(1, Vq d), (3, b), (7, Vb ap), (25, j), (26, O ((a.Edges.length : Int))), (27, O ((az : Int)))]) aE) ?_ ?_
    ·rcases KV i with ⟨af, i⟩ | ⟨af, i⟩
     ·refine G ?_
      refine Jz (n0 := 15) (qs 0 15 .done) J2 (by kernel_rfl) (by kernel_rfl) ?_
      have y := bd.drew
      obtain ⟨dm, ae, i⟩ := V i
      obtain ⟨cl, bM, av⟩ := (y.f1).arr_at ae
      refine G ?_
      refine Qb S22.h Z av Z (Qd ae).1 (Qd ae).2.1 ⟨Z, ?_⟩
      refine G ?_
      refine Qg (F := (U .i64)) (y.f1) av A3.h Z Z Z ae (Sub.refl _) ?_
      intro cR bx
      obtain rfl := Qf.1 bx
      refine ⟨Z, ?_⟩
      obtain ⟨dn, bz, i⟩ := V i
      refine G ?_
      refine Qm S22.h Z Z Z (ak.mono (Zt (Zt (Zt a0 a3) a4) bm)) bz ?_
      intro bH cB aJ bP
      refine ⟨Z, ?_⟩
      refine G ?_
      refine Zw (E := (U .i64)) y A3.h Z Z Z aJ ?_
      intro cS b0
      obtain rfl := Qf.1 b0
      refine ⟨Z, ?_⟩
      obtain ⟨dp, ag, i⟩ := V i
      obtain ⟨cm, bN, aw⟩ := (y.f1).arr_at ag
      refine G ?_
      refine Qb S22.h Z aw Z (Qd ag).1 (Qd ag).2.1 ?_
      obtain ⟨c3, b1, i⟩ := V i
      refine G ?_
      refine Qv y.f1 aw A3.h Z Z Z Z (Qf.2 Z) b1 ?_
      intro de ct
      cases i
      refine G ?_
      exact fq
     replace af := Zk af
     cases i
     refine G ?_
     exact fq
    intro cc df aU
    obtain ⟨ap, a5⟩ := aE
    replace m := Q6 m
    obtain ⟨cG, c4, cu, ⟨cd, rfl⟩⟩ := aU
    cases m
    refine G ?_
    exact fq
   intro ce dg aR
   obtain ⟨aa, ab⟩ := b7
   replace l := Q6 l
   obtain ⟨cH, c5, cv, ⟨cf, rfl⟩⟩ := aR
   cases l
   refine G ?_
   exact ⟨_, Z, fq⟩
  cases l
  refine G ?_
  exact ⟨_, .inr (bk (by intro _ h; cases h)), fq⟩
 rintro cg dh ⟨b9, ay, aV⟩
 have hm := ay.elim (bj _) (bf _)
 clear ay
 obtain ⟨an, a1⟩ := b9
 replace hm := Q6 hm
 obtain ⟨cI, c6, be, ⟨ch, rfl⟩⟩ := aV
 cases hm
 refine G ?_
 refine ⟨_, Yc Z, ?_⟩
 obtain ⟨cJ, c7, cw, cC⟩ := be.f1.freezeArr
 exact fq
theorem QbB {w0 w : World} {s : PHeap} {H : List Res} {t1 : Task} {order10 : (List Int)} {most13 : Int} {v2 : Value} {v4 : Value} {v6 : Value} {v8 : Value} {v11 : Value} {r : Bool} (hm : JW t1 order10 most13 = some r) (hS : St w0 s (H) w) (a3 : SliceRep (U .i64) s v2 t1.Vars) (a5 : SliceRep (U .i64) s v4 t1.Init) (a7 : SliceRep encFact s v6 t1.Goal) (a9 : SliceRep encOp s v8 t1.Ops) (a12 : SliceRep (U .i64) s v11 order10) :
  Calls Tryz.prog 3 #[Value.agg #[v2, v4, v6, v8], v11, O most13] w fun e w' => ∃ v, e = .returned v ∧ ((fun (y15 : Bool) => ∃ (ar : PHeap) , PHeap.le s ar ∧ St w0 ar (H) w' ∧ v = Value.bool (y15)) r) := by
 unfold JW at hm
 refine Qj Tryz.func3 Z Z (G ?_)
 refine JY Z Z ?_
 intro x cJ aI
 obtain ⟨af, a, hm⟩ := V hm
 refine g ?_
 refine Zc (Zc (Qo (M := fun f' w' => (fun (af : Bool) => ∃ (au : PHeap) , PHeap.le s au ∧ St w0 au (Res.box x 26 [v2, v4, v6, v8] :: H) w' ∧ Fx f' [(1, v11), (2, O most13), (3, Vq x), (27, Vb af)]) af) ?_ ?_))
 ·obtain ⟨di, bk, a⟩ := V a
  refine G ?_
  refine Tc Z Z Z QT (QcP bk aI).r ?_
  rintro _ cK ⟨cw, bZ, aJ, rfl⟩
  refine G ?_
  rcases Qp a with ⟨aV, a⟩ | ⟨aV, a⟩
  ·cases a
   refine G ?_
   exact fq
  obtain ⟨dj, bl, a⟩ := V a
  refine G ?_
  refine Tc Z Z Z Z (Qhu bl aJ rq rq rq rq).r ?_
  rintro _ cL ⟨cx, ca, aK, rfl⟩
  refine G ?_
  rcases Qp a with ⟨aW, a⟩ | ⟨aW, a⟩
  ·cases a
   refine G ?_
   exact fq
  obtain ⟨dk, bm, a⟩ := V a
  refine G ?_
  refine Tc Z Z Z Z (QfK bm aK rq).r ?_
  rintro _ cM ⟨cy, cb, bR, rfl⟩
  cases a
  refine G ?_
  exact fq
 intro bH cN aF
 obtain ⟨cz, cc, ak, ⟨bI, rfl⟩⟩ := aF
 refine G ?_
 rcases Qp hm with ⟨aX, hm⟩ | ⟨aX, hm⟩
 ·obtain ⟨dl, bn, hm⟩ := V hm
  refine G ?_
  refine Tc Z Z Z QT (QcP bn ak).r ?_
  rintro _ cO ⟨c0, cd, bS, rfl⟩
  cases hm
  refine G ?_
  exact fr
 obtain ⟨bA, bo, hm⟩ := V hm
 obtain ⟨cp, dm⟩ := bA
 replace hm := Q6 hm
 refine G ?_
 refine Tc Z Z Z Z (KB bo ak rq rq rq rq rq).r ?_
 rintro _ cP bc
 rcases bc with ⟨c, rfl, c1, z, l, n, o, ce, aL, rfl, cq⟩ | ⟨rfl, c2, cf, aM, rfl⟩
 ·replace hm := Qd0 hm
  obtain ⟨cE, d, hm⟩ := V hm
  obtain ⟨i, bp, hm⟩ := V hm
  refine G ?_
  refine Tc Z Z Z Z (QcO bp aL rq rq rq rq rq).r ?_
  rintro _ cQ ⟨b8, aa, ab, ac, ad, cg, aN, rfl, cr, ct, cu, b1⟩
  refine G ?_
  refine Exec.alloc (cs := [O 0, O 0, Vn, Vn, Vn, Vn, Vb false]) aN Z40 Z Z ?_
  intro m cR bT
  refine G ?_
  refine JU Z Z Z ?_
  intro cS al
  obtain ⟨ag, u, hm⟩ := V hm
  refine g ?_
  refine Zc (Zc (Qo (M := fun f' w' => (fun (ag : Bool) => ∃ (av : PHeap) , PHeap.le b8 av ∧ St w0 av (Res.box x 26 [v2, v4, v6, v8] :: Res.box l 61 [n, o, z, Vb (c.exact)] :: Res.box m 40 [O (i.System.States), O (i.System.Init), aa, ab, ac, ad, Vb (i.Exact)] :: Res.arr (U .i64) 3 n c.vars :: Res.arr encmergeshrink_stage 75 o c.stages :: H) w' ∧ Fx f' [(3, Vq x), (7, Vq l), (9, Vq m), (56, Vb ag)]) ag) ?_ ?_))
  ·refine Jz (n0 := 17) (qs 0 4 (qs 5 3 (.e 4 [5, 6, 7] (qs 8 4 (.q 13 (.q 14 (.e 12 [13, 14] (.q 15 (.q 16 .done))))))))) J2 (by kernel_rfl) (by kernel_rfl) (G ?_)
   refine QL (T := 57) Tryz.underlying32 Z Z Z ⟨Z, ?_⟩
   refine G ?_
   refine Qh8 Z Z (Zf Z (Zx (YW (Qr d)))) (Zm (v := Vq l) Z Z ⟨Z, ?_⟩)
   refine Qh8 Z Z (Zf Z (Zx (YW (Qr d)))) (Zp F40_0.h Z Z Z ⟨Z, ?_⟩)
   refine Qh8 Z Z (Zf Z (Zx (YW (Qr d)))) (Zp F38_0.h Z Z Z ⟨Z, ?_⟩)
   refine Qh8 Z Z (Zf Z (Zx (YW (Qr d)))) (Zn (al.drew) A3.h Z Z Z ⟨Z, ?_⟩)
   refine QnN Z Z (Zf Z (Zx (YW (Qr d)))) (Tc Z Z Z (Zi Z QT) (JS (Jy c) (((al.drew).f3).f3).f3 rq).r ?_)
   rintro _ cT ⟨c3, ch, am, rfl⟩
   refine ⟨(Qa (Qb6 Z Z (Zf Z (Zx (YW (Qr d)))) (Zp F40_0.h Z Z Z ⟨Z, Z⟩)) (Qa (Qb6 Z Z (Zf Z (Zx (YW (Qr d)))) (Zp F38_0.h Z Z Z ⟨Z, Z⟩)) (Qa (Qb6 Z Z (Zf Z (Zx (YW (Qr d)))) (Zn (am.f3) A3.h Z Z Z ⟨Z, Z⟩)) Q1))), ?_⟩
   refine Qh8 Z Z (Zf Z (Zx (YW (Qr d)))) (Exec.neq Z Z Z ⟨Z, ?_⟩)
   refine G ?_
   refine Qbp (v := Vb (!decide ((QE c) = i.System.States))) Z (Zx (YW (Qr d))) Z ⟨Z, ?_⟩
   refine G ?_
   rcases Qp u with ⟨aY, u⟩ | ⟨aY, u⟩
   ·cases u
    refine G ?_
    exact fq
   refine G ?_
   refine Tc Z Z Z (Zi Z QT) (JN (Jr c) ((am.f2).f2).f2 rq).r ?_
   rintro _ cU ⟨c4, ci, bU, rfl⟩
   refine ⟨YD, ?_⟩
   refine G ?_
   refine Qbe Tryz.underlying4 Z Z Z ⟨Z, ?_⟩
   cases u
   refine G ?_
   exact fq
  intro bJ cV aG
  obtain ⟨c5, bi, aO, ⟨bK, rfl⟩⟩ := aG
  refine G ?_
  rcases Qp hm with ⟨aZ, hm⟩ | ⟨aZ, hm⟩
  ·cases hm
   refine G ?_
   exact fr
  obtain ⟨dn, bq, hm⟩ := V hm
  refine G ?_
  refine Tc Z Z Z Z (QdJ bq aO rq rq rq).r ?_
  rintro ae cW ⟨c6, _, bj, aP, rfl, b2⟩
  obtain ⟨a6, br, hm⟩ := V hm
  refine G ?_
  refine Tc Z Z Z Z (Qbz br aP rq).r ?_
  rintro az cX ⟨aw, _, ao, aQ, rfl, cv⟩
  obtain ⟨aj, aC, be, bb, aU⟩ := Qs hm
  refine g ?_
  refine Qo (M := fun f' w' => ∃ s', (aj = .next s' ∨ aj = .brk s') ∧ (fun (_ : Unit) => ∃ (ax : PHeap) , PHeap.le aw ax ∧ St w0 ax (Res.box l 61 [n, o, z, Vb (c.exact)] :: Res.box m 40 [O (i.System.States), O (i.System.Init), aa, ab, ac, ad, Vb (i.Exact)] :: Res.arr (U .i64) 3 n c.vars :: Res.arr encmergeshrink_stage 75 o c.stages :: H) w' ∧ Fx f' [(7, Vq l), (9, Vq m), (10, ae), (62, az), (63, O ((a6.length : Int)))]) s') ?_ ?_
  ·refine G ?_
   refine QP (fun k' s' f' w' => (fun (_ : Unit) => ∃ (ay : PHeap) , PHeap.le aw ay ∧ St w0 ay (Res.box l 61 [n, o, z, Vb (c.exact)] :: Res.box m 40 [O (i.System.States), O (i.System.Init), aa, ab, ac, ad, Vb (i.Exact)] :: Res.arr (U .i64) 3 n c.vars :: Res.arr encmergeshrink_stage 75 o c.stages :: H) w' ∧ Fx f' [(64, O (k' : Int)), (7, Vq l), (9, Vq m), (10, ae), (62, az), (63, O ((a6.length : Int)))]) s') aC ?_ ?_ ?_
   ·have bV := aQ.drop
    exact fq
   ·intro bh cB bF bL cY bY aD b bf
    obtain ⟨c7, ap, t, ⟨bM, rfl⟩⟩ := aD
    obtain ⟨df, bs, b⟩ := V b
    refine G ?_
    refine Jt Z Z Z bs ?_
    intro bB cm a8
    refine G ?_
    refine Zw (E := (Qu (U .i64))) t A22.h Z Z Z a8 ?_
    intro cG bt
    have b3 := Jb.1 bt
    refine G ?_
    refine Jz (n0 := 12) (.q 0 (.q 1 (qs 3 8 (.e 2 [3, 4, 5, 6, 7, 8, 9, 10] (.q 11 .done))))) J2 (by kernel_rfl) (by kernel_rfl) (G ?_)
    refine Zn ((t.drew).f1) A22.h Z Z Z ⟨Z, ?_⟩
    obtain ⟨dg, bu, b⟩ := V b
    refine G ?_
    refine Qm S22.h Z Z Z (b1.mono (Zt (Zt (Zt bi bj) ao) ap)) bu ?_
    intro bC cn ah aA
    refine ⟨Z, ?_⟩
    refine G ?_
    refine Zw (E := (U .i64)) t.drew A3.h Z Z Z ah ?_
    intro cH bv
    obtain rfl := Qf.1 bv
    refine ⟨Z, ?_⟩
    obtain ⟨dh, bw, b⟩ := V b
    refine G ?_
    refine Qm S22.h Z Z Z (b2.mono (Zt ao ap)) bw ?_
    intro bD co ai aB
    refine ⟨Z, ?_⟩
    refine G ?_
    refine Zw (E := (U .i64)) t.drew A3.h Z Z Z ai ?_
    intro cI bx
    obtain rfl := Qf.1 bx
    refine ⟨Z, ?_⟩
    obtain ⟨dp, bz, b⟩ := V b
    refine G ?_
    refine Tc Z Z Z (Zi Z (Zi Z QT)) (JM bz (((t.drew).f3).f3).f2 rq b3).r ?_
    rintro _ cZ ⟨c8, aq, y, rfl⟩
    refine ⟨(Qa (Qi Z Z (Zm (v := ae) Z Z ⟨Z, Z⟩)) (Qa (Qi Z Z (Zp F40_1.h Z Z Z ⟨Z, Z⟩)) (Qa (Qi Z Z (Zn (y.f3) A22.h Z Z Z ⟨Z, Z⟩)) (Qa (Qi Z Z (Zm (v := O ((bh : Int))) Z Z ⟨Z, Z⟩)) (Qa (Qi Z Z (YA Z Z Z aA ⟨Z, Z⟩)) (Qa (Qi Z Z (Zw (E := (U .i64)) y A3.h Z Z Z (ah.mono aq) (fun _ q => ⟨Z, Qf.1 q⟩))) (Qa (Qi Z Z (YA Z Z Z aB ⟨Z, Z⟩)) (Qa (Qi Z Z (Zw (E := (U .i64)) y A3.h Z Z Z (ai.mono aq) (fun _ q => ⟨Z, Qf.1 q⟩))) Q1)))))))), ?_⟩
    refine G ?_
    rcases Qp b with ⟨ba, b⟩ | ⟨ba, b⟩
    ·cases b
     have bd := be _ (bf (by intro _ h; cases h))
     cases bd
     refine G ?_
     exact fr
    cases b
    refine G ?_
    exact ⟨_, Z, fq⟩
   intro cC bN da aE bg
   obtain ⟨c9, cj, bW, ⟨bO, rfl⟩⟩ := aE
   refine G ?_
   exact ⟨_, .inl bg, fq⟩
  rintro bP db ⟨cD, an, aH⟩
  have hm := an.elim (bb _) (aU _)
  clear an
  obtain ⟨cA, ck, bX, ⟨bQ, rfl⟩⟩ := aH
  cases hm
  refine G ?_
  exact fr
 replace hm := Qd1 hm
 obtain ⟨cF, j, hm⟩ := V hm
 obtain ⟨p, b0, hm⟩ := V hm
 refine G ?_
 refine Tc Z Z Z (Zi Z (Zi Z (Zi Z QT))) (QcO b0 aM rq rq rq rq rq).r ?_
 rintro _ dc ⟨b9, a0, a1, a2, a4, cl, aR, rfl, b4, b5, b6, b7⟩
 refine G ?_
 refine Exec.alloc (cs := [O 0, O 0, Vn, Vn, Vn, Vn, Vb false]) aR Z40 Z Z ?_
 intro bE dd aS
 refine G ?_
 refine Qq (ds := [O (p.System.States), O (p.System.Init), a0, a1, a2, a4, Vb (p.Exact)]) (es := [O (p.System.States), O (p.System.Init), a0, a1, a2, a4, Vb (p.Exact)]) aS A40.h Z Z Z Z (Zj Z (Zj Z (Zj b4.one (Zj b5.one (Zj b6.one (Zj b7.one (Zj Z Ja))))))) (Nat.le_of_ble_eq_true Z) Z ?_
 intro de aT
 refine G ?_
 refine Jz (n0 := 17) (qs 0 4 (qs 5 3 (.e 4 [5, 6, 7] (qs 8 4 (.q 13 (.q 14 (.e 12 [13, 14] (.q 15 (.q 16 .done))))))))) J2 (by kernel_rfl) (by kernel_rfl) (G ?_)
 refine QL (T := 57) Tryz.underlying32 Z Z Z ⟨Z, ?_⟩
 refine G ?_
 refine Qh7 Z Z (Zf Z (Zx (Qr j))) Z (Qh7 Z Z (Zf Z (Zx (Qr j))) Z (Qh7 Z Z (Zf Z (Zx (Qr j))) Z (Qh7 Z Z (Zf Z (Zx (Qr j))) Z (QnM Z Z (Zf Z (Zx (Qr j))) Z (Qh7 Z Z (Zf Z (Zx (Qr j))) Z (G ?_))))))
 refine Zs (v := Vb true) Z (Zx (Qr j)) Z ⟨Z, ?_⟩
 have bG := Zu hm
 subst r
 refine G ?_
 refine ⟨_, Yc Z, ?_⟩
 exact ⟨b9, lq, ((aT.drew).drop).drop, Z⟩
end Go.Pw
