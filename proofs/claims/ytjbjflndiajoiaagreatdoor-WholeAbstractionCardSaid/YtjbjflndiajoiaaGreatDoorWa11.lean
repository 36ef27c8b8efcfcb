/- -/
import Derived.Test.YtjbjflndiajoiaaGreatDoorLD
import Derived.Test.YtjbjflndiajoiaaGreatDoorLC
import Derived.Test.YtjbjflndiajoiaaGreatDoorWa10
set_option maxRecDepth 100000
set_option maxHeartbeats 40000000
set_option linter.unusedVariables false
namespace Go.Pw
open Go.Proofs
attribute [local irreducible] Exec WL W andThen Qax DL QX
theorem Qb4 {w0 w : World} {s : PHeap} {H : List Res} {z : Task} {n : Value} {o : Value} {p : Value} {q : Value} {r : (List Int)} (hm : JY z = some r) (hS : St w0 s (H) w) (aM : SliceRep (U .i64) s n z.Vars) (bM : SliceRep (U .i64) s o z.Init) (bN : SliceRep encFact s p z.Goal) (bO : SliceRep encOp s q z.Ops) :
  Calls Tryz.prog 8 #[Value.agg #[n, o, p, q], Value.slice none 0 0] w fun e w' => ∃ v, e = .returned v ∧ ((fun (bL : (List Int)) => ∃ (ak : PHeap) (aJ : Value), PHeap.le s ak ∧ St w0 ak (H) w' ∧ v = aJ ∧ SliceRep (U .i64) ak aJ bL) r) := by
 unfold JY at hm
 refine Qd Tryz.func8 Z Z (G ?_)
 refine Kq Z Z ?_
 intro a dr bc
 refine Qn hm fun aL bs hm => ?_
 refine G ?_
 refine Tc Z Z Z Z (QaG bs bc aM).r ?_
 rintro aK ds ⟨bB, _, cD, bd, rfl, cX⟩
 refine Qn hm fun cE bt hm => ?_
 refine G ?_
 refine JJ (E := (U .i64)) bd S22.h Z3 Z Z Z Z bt ?_
 intro b dt be
 refine Qn hm fun af aQ hm => ?_
 refine G ?_
 refine QO (fun k' s' f' w' => (fun (af : (List Int)) => ∃ (aA : PHeap) , PHeap.le bB aA ∧ St w0 aA (Res.box a 26 [n, o, p, q] :: Res.arr (U .i64) 3 b af :: H) w' ∧ Fx f' [(22, O (k' : Int)), (1, Vn), (2, Vq a), (6, b), (20, aK), (21, O ((aL.length : Int)))]) s') aQ ?_ ?_ ?_
 ·have c0 := be.f1
  exact fq
 ·intro br af da ca du cA aT d
  obtain ⟨db, cF, ae, ⟨cb, rfl⟩⟩ := aT
  refine Qn d fun dA bu d => ?_
  refine G ?_
  refine Jk Z Z Z bu ?_
  intro bP cU aN
  refine G ?_
  refine Zw (E := (Qm (U .i64))) ae A22.h Z Z Z aN ?_
  intro dj bv
  have bA := QH.1 bv
  refine Qn d fun dB ah d => ?_
  obtain ⟨ct, bS, av⟩ := (ae.f1).arr_at ah
  refine G ?_
  refine Qa S22.h Z av Z (Qb ah).1 (Qb ah).2.1 ?_
  refine Qn d fun cG bw d => ?_
  refine G ?_
  refine Qx ae.f1 av A3.h Z Z Z Z (Qg.2 Z) bw ?_
  intro dv bf
  refine Qn d fun dH bx d => ?_
  refine G ?_
  refine Tc Z Z Z Z (QcI bx bf rq bA).r ?_
  rintro _ dw ⟨bC, cH, a2, rfl⟩
  refine Qn d fun ag l d => ?_
  refine g ?_
  refine Qp (M := fun f' w' => (fun (ag : (List Int)) => ∃ (aB : PHeap) , PHeap.le bC aB ∧ St w0 aB (Res.box a 26 [n, o, p, q] :: Res.arr (U .i64) 3 b ag :: H) w' ∧ Fx f' [(1, Vn), (2, Vq a), (6, b), (20, aK), (21, O ((aL.length : Int))), (22, O ((br : Int)))]) ag) ?_ ?_
  ·refine Qdz l (fun bl l => ?_) fun bl l => ?_
   ·refine Qn l fun dC ai l => ?_
    obtain ⟨cu, bT, aw⟩ := a2.arr_at ai
    refine G ?_
    refine Qa S22.h Z aw Z (Qb ai).1 (Qb ai).2.1 ?_
    refine Qn l fun cI bz l => ?_
    refine G ?_
    refine Qx a2 aw A3.h Z Z Z Z (Qg.2 Z) bz ?_
    intro dx c1
    cases l
    refine G ?_
    exact fq
   cases l
   refine G ?_
   exact fq
  intro cc dy aY
  obtain ⟨dc, cJ, c2, ⟨cd, rfl⟩⟩ := aY
  cases d
  refine G ?_
  exact fq
 intro ce dz aU
 obtain ⟨dd, cK, bg, ⟨cf, rfl⟩⟩ := aU
 refine Qn hm fun am b0 hm => ?_
 refine G ?_
 refine Tc Z Z Z Z (Qih b0 bg rq rq rq rq).r ?_
 rintro u d0 ⟨aC, _, cL, bh, rfl, cY⟩
 refine Qh3 hm fun ap aR cC bp bk => ?_
 refine g ?_
 refine Zc (Zc (Zd (g ?_)))
 refine Qp (M := fun f' w' => ∃ s', (ap = .next s' ∨ ap = .brk s') ∧ (QI fun (aq : Bool) (a7 : (List Int)) => ∃ (aD : PHeap) , PHeap.le aC aD ∧ St w0 aD (Res.box a 26 [n, o, p, q] :: Res.arr (U .i64) 3 b a7 :: H) w' ∧ Fx f' [(1, Vn), (2, Vq a), (6, b), (9, u), (10, Vb aq)]) s') ?_ ?_
 ·refine G ?_
  refine KA (fun s' f' w' => (QI fun (ar : Bool) (a8 : (List Int)) => ∃ (aE : PHeap) , PHeap.le aC aE ∧ St w0 aE (Res.box a 26 [n, o, p, q] :: Res.arr (U .i64) 3 b a8 :: H) w' ∧ Fx f' [(1, Vn), (2, Vq a), (6, b), (9, u), (10, Vb ar)]) s') aR ?_ ?_
  ·have c3 := bh.f1
   exact fq
  intro bG bU cg d1 aV i bq
  obtain ⟨ar, a8⟩ := bG
  replace i := Q7 i
  obtain ⟨bD, cM, bi, ⟨ch, rfl⟩⟩ := aV
  refine G ?_
  refine Qdz i (fun bm i => ?_) fun bm i => ?_
  ·refine Qn i fun bH aS i => ?_
   refine G ?_
   refine QO (fun k' s' f' w' => (QI fun (aa : Bool) (ab : (List Int)) => ∃ (aF : PHeap) , PHeap.le bD aF ∧ St w0 aF (Res.box a 26 [n, o, p, q] :: Res.arr (U .i64) 3 b ab :: H) w' ∧ Fx f' [(43, O (k' : Int)), (1, Vn), (2, Vq a), (6, b), (9, u), (10, Vb aa), (41, u), (42, O ((am.length : Int)))]) s') aS ?_ ?_ ?_
   ·have c4 := bi.f1
    exact fq
   ·intro a6 bI de ci d2 cB aW c
    obtain ⟨aa, ab⟩ := bI
    replace c := Q7 c
    obtain ⟨bE, cN, a3, ⟨cj, rfl⟩⟩ := aW
    refine Qn c fun al b1 c => ?_
    refine G ?_
    refine Jk Z Z Z b1 ?_
    intro bQ cV aO
    refine G ?_
    refine Zw (E := encbase_Edge) a3 A81.h Z Z Z aO ?_
    intro dk b2
    obtain rfl := Qgx.1 b2
    refine G ?_
    refine Exec.alloc (cs := [O 0, O 0, O 0]) a3 Z81 Z Z ?_
    intro ao d3 c5
    refine G ?_
    refine KJ Z Z Z ?_
    intro d4 a4
    refine Qn c fun bK b3 c => ?_
    refine G ?_
    refine Jk Z Z Z b3 ?_
    intro bR cW aP
    refine G ?_
    refine Zw (E := (U .i64)) a4 A3.h Z Z Z (aP.sub (Sub.iso (QdF (QdG (Sub.refl _)) Z)) Z) ?_
    intro dl b4
    obtain rfl := Qg.1 b4
    refine G ?_
    refine Qfu Tryz.underlying22 Z Z Z ?_
    refine Qn c fun an m c => ?_
    refine g ?_
    refine YW Z (Jt (Ze (Zc (Qp (M := fun f' w' => (fun (an : Bool) => ∃ (aG : PHeap) , PHeap.le bE aG ∧ St w0 aG (Res.box a 26 [n, o, p, q] :: Res.arr (U .i64) 3 b ab :: Res.box ao 81 [O (al.From), O (al.Op), O (al.To)] :: H) w' ∧ Fx f' [(1, Vn), (2, Vq a), (6, b), (9, u), (10, Vb aa), (12, Vq ao), (13, O (bK.Cost)), (41, u), (42, O ((am.length : Int))), (43, O ((a6 : Int))), (81, Vb an)]) an) ?_ ?_))))
    ·refine JE (n0 := 21) (qs 0 21 .done) JM (by kernel_rfl) (by kernel_rfl) ?_
     have x := a4.drew
     refine Qn m fun dD t m => ?_
     obtain ⟨cv, bV, ax⟩ := (x.f2).arr_at t
     refine G ?_
     refine Qa S22.h Z ax Z (Qb t).1 (Qb t).2.1 ⟨Z, ?_⟩
     refine G ?_
     refine Qf (F := (U .i64)) (x.f2) ax A3.h Z Z Z t (Sub.refl _) ?_
     intro dm b5
     obtain rfl := Qg.1 b5
     refine ⟨Z, ?_⟩
     refine G ?_
     refine Qdz m (fun bn m => ?_) fun bn m => ?_
     ·obtain ⟨cw, bW, ay⟩ := (x.f2).arr_at t
      refine G ?_
      refine Qa S22.h Z ay Z (Qb t).1 (Qb t).2.1 ⟨Z, ?_⟩
      refine G ?_
      refine Qf (F := (U .i64)) (x.f2) ay A3.h Z Z Z t (Sub.refl _) ?_
      intro dn b6
      obtain rfl := Qg.1 b6
      refine ⟨Z, ?_⟩
      refine Qn m fun dE ac m => ?_
      obtain ⟨cx, bX, az⟩ := (x.f2).arr_at ac
      refine G ?_
      refine Qa S22.h Z az Z (Qb ac).1 (Qb ac).2.1 ⟨Z, ?_⟩
      refine G ?_
      refine Qf (F := (U .i64)) (x.f2) az A3.h Z Z Z ac (Sub.refl _) ?_
      intro dp b7
      obtain rfl := Qg.1 b7
      refine ⟨Z, ?_⟩
      cases m
      refine G ?_
      exact fq
     cases m
     refine G ?_
     exact fq
    intro ck d5 aZ
    obtain ⟨bF, cO, y, ⟨cl, rfl⟩⟩ := aZ
    refine Qn c fun aI j c => ?_
    refine g ?_
    refine Qp (M := fun f' w' => (QI fun (au : Bool) (a9 : (List Int)) => ∃ (aH : PHeap) , PHeap.le bF aH ∧ St w0 aH (Res.box a 26 [n, o, p, q] :: Res.arr (U .i64) 3 b a9 :: H) w' ∧ Fx f' [(1, Vn), (2, Vq a), (6, b), (9, u), (10, Vb au), (41, u), (42, O ((am.length : Int))), (43, O ((a6 : Int)))]) aI) ?_ ?_
    ·refine Qdz j (fun bo j => ?_) fun bo j => ?_
     ·refine G ?_
      refine JE (n0 := 10) (qs 0 10 .done) JM (by kernel_rfl) (by kernel_rfl) (G ?_)
      refine Zn ((y.drew).f2) A3.h Z Z Z ⟨Z, ?_⟩
      refine G ?_
      refine Zn ((y.drew).f2) A3.h Z Z Z ⟨Z, ?_⟩
      refine Qn j fun dF ad j => ?_
      obtain ⟨cy, bY, a0⟩ := ((y.drew).f1).arr_at ad
      refine G ?_
      refine Qa S22.h Z a0 Z (Qb ad).1 (Qb ad).2.1 ⟨Z, ?_⟩
      refine G ?_
      refine Qf (F := (U .i64)) ((y.drew).f1) a0 A3.h Z Z Z ad (Sub.refl _) ?_
      intro dq b8
      obtain rfl := Qg.1 b8
      refine ⟨Z, ?_⟩
      refine Qn j fun dG aj j => ?_
      obtain ⟨cz, bZ, a1⟩ := ((y.drew).f1).arr_at aj
      refine G ?_
      refine Qa S22.h Z a1 Z (Qb aj).1 (Qb aj).2.1 ?_
      refine Qn j fun cP b9 j => ?_
      refine G ?_
      refine Qx (y.drew).f1 a1 A3.h Z Z Z Z (Qg.2 Z) b9 ?_
      intro d6 c6
      cases j
      refine G ?_
      exact fq
     cases j
     refine G ?_
     exact fq
    intro cm d7 ba
    obtain ⟨au, a9⟩ := aI
    replace c := Q7 c
    obtain ⟨df, cQ, c7, ⟨cn, rfl⟩⟩ := ba
    cases c
    refine G ?_
    exact fq
   intro co d8 aX
   obtain ⟨aa, ab⟩ := bH
   replace i := Q7 i
   obtain ⟨dg, cR, c8, ⟨cp, rfl⟩⟩ := aX
   cases i
   refine G ?_
   exact ⟨_, Z, fq⟩
  cases i
  refine G ?_
  exact ⟨_, .inr (bq (by intro _ h; cases h)), fq⟩
 rintro cq d9 ⟨bJ, a5, bb⟩
 have hm := a5.elim (bp _) (bk _)
 clear a5
 obtain ⟨aq, a7⟩ := bJ
 replace hm := Q7 hm
 obtain ⟨dh, cS, bj, ⟨cr, rfl⟩⟩ := bb
 cases hm
 refine G ?_
 refine ⟨_, KR Z, ?_⟩
 obtain ⟨di, cT, c9, cZ⟩ := bj.f1.freezeArr
 exact fq
instance F64_0 : FTy Tryz.prog 64 0 0 := ⟨by kernel_rfl⟩
instance F64_1 : FTy Tryz.prog 64 1 1 := ⟨by kernel_rfl⟩
theorem Kf {w0 w : World} {s : PHeap} {H : List Res} {a : pdb_Database} {ad : (List Int)} {i : Nat} {g : Value} {d : Value} {m : Value} {n : Value} {o : Value} {p : Value} {u : Value} {r : Int} (hm : QR a ad = some r) (hS : St w0 s (Res.box i 64 [g, d, O (a.system.States), O (a.system.Init), m, n, o, p] :: Res.arr (U .i64) 3 g a.vars :: Res.arr (U .i64) 3 d a.pattern :: H) w) (az : SliceRep (U .i64) s m a.system.Costs) (a0 : SliceRep encEdge s n a.system.Edges) (a1 : SliceRep encBool s o a.system.Goals) (a2 : SliceRep (U .i64) s p a.table) (x : SliceRep (U .i64) s u ad) :
  Calls Tryz.prog 10 #[Value.pointer (some ⟨i, 0, none⟩), u] w fun e w' => ∃ v, e = .returned v ∧ ((fun (ay : Int) => ∃ (ab : PHeap) , PHeap.le s ab ∧ St w0 ab (Res.box i 64 [g, d, O (a.system.States), O (a.system.Init), m, n, o, p] :: Res.arr (U .i64) 3 g a.vars :: Res.arr (U .i64) 3 d a.pattern :: H) w' ∧ v = O ay) r) := by
 unfold QR at hm
 refine Qd Tryz.func10 Z Z (G ?_)
 refine YX Tryz.underlying37 Z Z Z ?_
 refine Qn hm fun aW an hm => ?_
 refine G ?_
 refine Tc Z Z Z Z (Qdd an hS.f1 x).r ?_
 rintro _ aP ⟨aw, am, q, rfl⟩
 refine G ?_
 refine Qdz hm (fun ak hm => ?_) fun ak hm => ?_
 ·cases hm
  refine G ?_
  exact fr
 refine G ?_
 refine Q0 (q.f2) S22.h Z Z ?_
 refine Qn hm fun t ag hm => ?_
 refine G ?_
 refine QO (fun k' s' f' w' => (fun (t : Int) => ∃ (ac : PHeap) , PHeap.le aw ac ∧ St w0 ac (Res.box i 64 [g, d, O (a.system.States), O (a.system.Init), m, n, o, p] :: Res.arr (U .i64) 3 g a.vars :: Res.arr (U .i64) 3 d a.pattern :: H) w' ∧ Fx f' [(22, O (k' : Int)), (0, Vq i), (1, u), (5, O t), (20, d), (21, O ((a.pattern.length : Int)))]) s') ag ?_ ?_ ?_
 ·have aE := q.f2
  exact fq
 ·intro aF t aJ a8 aQ al ah c
  obtain ⟨ax, aa, b, ⟨a9, rfl⟩⟩ := ah
  refine Qn c fun aS j c => ?_
  obtain ⟨aC, a5, y⟩ := (b.f2).arr_at j
  refine G ?_
  refine Qa S22.h Z y Z (Qb j).1 (Qb j).2.1 (G ?_)
  refine Qf (F := (U .i64)) (b.f2) y A3.h Z Z Z j (Sub.refl _) ?_
  intro aL ao
  obtain rfl := Qg.1 ao
  refine G ?_
  refine JE (n0 := 14) (qs 0 14 .done) JM (by kernel_rfl) (by kernel_rfl) (G ?_)
  refine Zn (b.drew) A22.h Z Z Z ⟨Z, ?_⟩
  refine Qn c fun aT l c => ?_
  obtain ⟨aD, a6, z⟩ := ((b.drew).f1).arr_at l
  refine G ?_
  refine Qa S22.h Z z Z (Qb l).1 (Qb l).2.1 ⟨Z, ?_⟩
  refine G ?_
  refine Qf (F := (U .i64)) ((b.drew).f1) z A3.h Z Z Z l (Sub.refl _) ?_
  intro aM ap
  obtain rfl := Qg.1 ap
  refine ⟨Z, ?_⟩
  refine Qn c fun aU aq c => ?_
  refine G ?_
  refine Qy S22.h Z Z Z (x.mono (Zt am aa)) aq ?_
  intro a3 aH ae a7
  refine ⟨Z, ?_⟩
  refine G ?_
  refine Zw (E := (U .i64)) b.drew A3.h Z Z Z ae ?_
  intro aN ar
  obtain rfl := Qg.1 ar
  refine ⟨Z, ?_⟩
  cases c
  refine G ?_
  exact ⟨ax, aa, (((b.drew).f2).f2).f2, (Fx.mk (FxL.cons (QM al (q.f2).arr_le) fxl))⟩
 intro aA aR ai
 obtain ⟨aK, aG, aj, ⟨aB, rfl⟩⟩ := ai
 refine Qn hm fun aV au hm => ?_
 refine G ?_
 refine Jk Z Z Z au ?_
 intro a4 aI af
 refine G ?_
 refine Zw (E := (U .i64)) aj A3.h Z Z Z af ?_
 intro aO av
 obtain rfl := Qg.1 av
 cases hm
 refine G ?_
 exact fr
theorem Yl {w0 w : World} {s : PHeap} {H : List Res} {a : mergeshrink_Abstraction} {d : Nat} {b : Value} {c : Value} {f : Value} {r : Int} (hm : Jo a = some r) (hS : St w0 s (Res.box d 73 [b, c, f, Value.bool (a.exact)] :: Res.arr (U .i64) 3 b a.vars :: Res.arr encmergeshrink_stage 83 c a.stages :: H) w) (i : SliceRep (U .i64) s f a.distance) :
  Calls Tryz.prog 13 #[Value.pointer (some ⟨d, 0, none⟩)] w fun e w' => ∃ v, e = .returned v ∧ ((fun (h : Int) => ∃ (g : PHeap) , PHeap.le s g ∧ St w0 g (Res.box d 73 [b, c, f, Value.bool (a.exact)] :: Res.arr (U .i64) 3 b a.vars :: Res.arr encmergeshrink_stage 83 c a.stages :: H) w' ∧ v = O h) r) := by
 unfold Jo at hm
 refine Qd Tryz.func13 Z Z (G ?_)
 refine YX Tryz.underlying42 Z Z Z ?_
 cases hm
 refine G ?_
 exact fr
theorem Qbc {w0 w : World} {s : PHeap} {H : List Res} {t1 : Task} {pattern10 : (List Int)} {most13 : Int} {v2 : Value} {v4 : Value} {v6 : Value} {v8 : Value} {v11 : Value} {r : Bool} (hm : J6 t1 pattern10 most13 = some r) (hS : St w0 s (H) w) (a3 : SliceRep (U .i64) s v2 t1.Vars) (a5 : SliceRep (U .i64) s v4 t1.Init) (a7 : SliceRep encFact s v6 t1.Goal) (a9 : SliceRep encOp s v8 t1.Ops) (a12 : SliceRep (U .i64) s v11 pattern10) :
  Calls Tryz.prog 3 #[Value.agg #[v2, v4, v6, v8], v11, Value.int .u16 (most13)] w fun e w' => ∃ v, e = .returned v ∧ ((fun (y15 : Bool) => ∃ (dd : PHeap) , PHeap.le s dd ∧ St w0 dd (H) w' ∧ v = Value.bool (y15)) r) := by
 unfold J6 at hm
 refine Qd Tryz.func3 Z Z (G ?_)
 refine Exec.box (cs := [v2, v4, v6, v8]) hS Z Z Z ?_
 intro o j9 ee
 refine Qn hm fun aT ai hm => ?_
 refine g ?_
 refine Zc (Zc (Qp (M := fun f' w' => (fun (aT : Bool) => ∃ (de : PHeap) , PHeap.le s de ∧ St w0 de (Res.box o 26 [v2, v4, v6, v8] :: H) w' ∧ Fx f' [(1, v11), (2, Value.int .u16 (most13)), (3, Vq o), (44, Vb aT)]) aT) ?_ ?_))
 ·refine Qn ai fun kC fC ai => ?_
  refine G ?_
  refine Tc Z Z Z (Zi Z Qw) (Qi1 fC ee a3 a5 a7 a9).r ?_
  rintro _ jA ⟨co, bs, bn, rfl⟩
  refine G ?_
  refine J1 ai (fun bD ai => ?_) fun bD ai => ?_
  ·have hs := Zu ai
   subst aT
   refine G ?_
   exact ⟨co, bs, bn, (Fx.mk)⟩
  replace bD := Zk bD
  refine G ?_
  refine J1 ai (fun bE ai => ?_) fun bE ai => ?_
  ·have ht := Zu ai
   subst aT
   refine G ?_
   exact ⟨co, bs, bn, (Fx.mk)⟩
  replace bE := Zk bE
  refine G ?_
  refine J1 ai (fun bF ai => ?_) fun bF ai => ?_
  ·have hu := Zu ai
   subst aT
   refine G ?_
   exact ⟨co, bs, bn, (Fx.mk)⟩
  replace bF := Zk bF
  refine Qn ai fun kD fD ai => ?_
  refine G ?_
  refine Tc Z Z Z Qw (Y4 fD bn).r ?_
  rintro _ jB ⟨gw, fk, ef, rfl⟩
  have hv := Zu ai
  subst aT
  refine G ?_
  exact ⟨gw, (Zt bs fk), ef, (Fx.mk)⟩
 intro ia jC dU
 obtain ⟨df, a, cw, ⟨ib, rfl⟩⟩ := dU
 refine G ?_
 refine J1 hm (fun bG hm => ?_) fun bG hm => ?_
 ·refine Qn hm fun kE fE hm => ?_
  refine G ?_
  refine Tc Z Z Z Qw (Y4 fE cw).r ?_
  rintro _ jD ⟨gx, fl, eg, rfl⟩
  have hw := Zu hm
  subst r
  refine G ?_
  refine ⟨_, KR Z, ?_⟩
  exact ⟨gx, (Zt a fl), eg.drop, Z⟩
 replace bG := Zk bG
 refine Qn hm fun aP dC hm => ?_
 refine G ?_
 refine QO (fun k' s' f' w' => (fun (aP : (List Int)) => ∃ (dg : PHeap) (a2 : Value), PHeap.le df dg ∧ St w0 dg (Res.box o 26 [v2, v4, v6, v8] :: Res.arr (U .i64) 3 a2 aP :: H) w' ∧ Fx f' [(49, O (k' : Int)), (1, v11), (2, Value.int .u16 (most13)), (3, Vq o), (7, a2), (8, Vb true), (48, O ((t1.Vars.length : Int)))]) s') dC ?_ ?_ ?_
 ·have eh := cw.nilArr (U .i64) 3
  exact ⟨df, Vn, (Zv _), eh.f1, (Fx.mk)⟩
 ·intro br aP gy ic jE eR dI bZ
  obtain ⟨gz, a2, fm, ei, ⟨ie, rfl⟩⟩ := dI
  refine G ?_
  refine Exec.buildSlice (Te := 3) (cs := [O ((br : Int))]) ei Z (Qc (c := [O ((br : Int))]) (Qe Z Z) Qi) (fun _ => by kernel_rfl) ?_
  intro hh jF ej
  refine Qn bZ fun iP fF bZ => ?_
  refine G ?_
  refine Q5 (E := (U .i64)) (ys := [(br : Int)]) ej.f2 S22.h Z3 Z (by decide) Z Z Z Z ⟨[O ((br : Int))], [], Z, Z, Z⟩ Z fF ?_
  intro hb jG ek
  have hx := Zu bZ
  subst gy
  refine G ?_
  exact ⟨gz, hb, fm, ek.f1, (Fx.mk (FxL.cons (QM eR (SliceRep.le (a3.mono a))) fxl))⟩
 intro ig jH dJ
 obtain ⟨dh, a2, b, el, ⟨ih, rfl⟩⟩ := dJ
 refine Qn hm fun a4 dD hm => ?_
 refine G ?_
 refine QO (fun k' s' f' w' => (fun (a4 : Bool) => ∃ (di : PHeap) , PHeap.le dh di ∧ St w0 di (Res.box o 26 [v2, v4, v6, v8] :: Res.arr (U .i64) 3 a2 aP :: H) w' ∧ Fx f' [(60, O (k' : Int)), (1, v11), (2, Value.int .u16 (most13)), (3, Vq o), (7, a2), (8, Vb a4), (58, v8), (59, O ((t1.Ops.length : Int)))]) s') dD ?_ ?_ ?_
 ·have em := el.f1
  exact ⟨dh, (Zv _), em.f1, (Fx.mk)⟩
 ·intro cb a4 g0 ii jI eS dK bc
  obtain ⟨dj, cQ, cx, ⟨ij, rfl⟩⟩ := dK
  refine Qn bc fun aR fG bc => ?_
  refine G ?_
  refine Ju S24.h Z Z Z (a9.mono (Zt (Zt a b) cQ)) fG ?_
  intro hi iT d5
  refine G ?_
  refine Zw (E := encOp) cx A32.h Z Z Z d5 ?_
  intro j2 fH
  obtain ⟨d4, bi, rfl, gs, ch⟩ := KX.1 fH
  refine G ?_
  refine Exec.alloc (cs := [Value.string (⟨#[]⟩), O 0, Vn, Vn]) cx Z32 Z Z ?_
  intro hj jJ en
  refine G ?_
  refine Qq (ds := [Value.string (aR.Name), O (aR.Cost), d4, bi]) (es := [Value.string (aR.Name), O (aR.Cost), d4, bi]) en A32.h Z Z Z Z (Zj Z (Zj Z (Zj gs.one (Zj ch.one QU)))) (Nat.le_of_ble_eq_true Z) Z ?_
  intro jK eo
  refine Qn bc fun cg dE bc => ?_
  refine G ?_
  refine QO (fun k' s' f' w' => (fun (cg : Bool) => ∃ (dk : PHeap) , PHeap.le dj dk ∧ St w0 dk (Res.box o 26 [v2, v4, v6, v8] :: Res.arr (U .i64) 3 a2 aP :: H) w' ∧ Fx f' [(67, O (k' : Int)), (1, v11), (2, Value.int .u16 (most13)), (3, Vq o), (7, a2), (8, Vb cg), (58, v8), (59, O ((t1.Ops.length : Int))), (60, O ((cb : Int))), (65, bi), (66, O ((aR.Effs.length : Int)))]) s') dE ?_ ?_ ?_
  ·have ep := eo.drop
   exact ⟨dj, (Zv _), (ep.f1).f1, (Fx.mk)⟩
  ·intro cN cg g1 ik jL eT dL bd
   obtain ⟨dl, cR, cy, ⟨il, rfl⟩⟩ := dL
   refine Qn bd fun a8 fI bd => ?_
   refine G ?_
   refine Ju S30.h Z Z Z (ch.mono cR) fI ?_
   intro hk iU d6
   refine G ?_
   refine Zw (E := encEffect) cy A34.h Z Z Z d6 ?_
   intro j3 fJ
   obtain ⟨bb, rfl, ci⟩ := KG.1 fJ
   refine G ?_
   refine Exec.alloc (cs := [Vn, O 0, O 0]) cy Z34 Z Z ?_
   intro bm jM er
   refine G ?_
   refine Qq (ds := [bb, O (a8.Var), O (a8.Val)]) (es := [bb, O (a8.Var), O (a8.Val)]) er A34.h Z Z Z Z (Zj ci.one (Zj Z (Zj Z QU))) (Nat.le_of_ble_eq_true Z) Z ?_
   intro jN et
   refine Qn bd fun bh dF bd => ?_
   refine G ?_
   refine QO (fun k' s' f' w' => (fun (bh : Bool) => ∃ (dm : PHeap) , PHeap.le dl dm ∧ St w0 dm (Res.box o 26 [v2, v4, v6, v8] :: Res.arr (U .i64) 3 a2 aP :: Res.box bm 34 [bb, O (a8.Var), O (a8.Val)] :: H) w' ∧ Fx f' [(74, O (k' : Int)), (1, v11), (2, Value.int .u16 (most13)), (3, Vq o), (7, a2), (8, Vb bh), (13, Vq bm), (58, v8), (59, O ((t1.Ops.length : Int))), (60, O ((cb : Int))), (65, bi), (66, O ((aR.Effs.length : Int))), (67, O ((cN : Int))), (72, bb), (73, O ((a8.When.length : Int)))]) s') dF ?_ ?_ ?_
   ·have eu := et.f2
    exact ⟨dl, (Zv _), eu.f2, (Fx.mk)⟩
   ·intro fj bh g2 im jO eU dM ca
    obtain ⟨cp, cS, cz, ⟨io, rfl⟩⟩ := dM
    refine Qn ca fun bj fK ca => ?_
    refine G ?_
    refine Ju S23.h Z Z Z (ci.mono cS) fK ?_
    intro hl iV d7
    refine G ?_
    refine Zw (E := encFact) cz A36.h Z Z Z d7 ?_
    intro j4 fL
    obtain rfl := JH.1 fL
    refine G ?_
    refine Exec.alloc (cs := [O 0, O 0]) cz Z36 Z Z ?_
    intro hn jP ev
    refine G ?_
    refine Qq (ds := [O (bj.Var), O (bj.Val)]) (es := [O (bj.Var), O (bj.Val)]) ev A36.h Z Z Z Z (Zj Z (Zj Z QU)) (Nat.le_of_ble_eq_true Z) Z ?_
    intro jQ c0
    refine g ?_
    refine Qp (M := fun f' w' => ∃ (dn : PHeap) , PHeap.le cp dn ∧ St w0 dn (Res.box o 26 [v2, v4, v6, v8] :: Res.arr (U .i64) 3 a2 aP :: Res.box bm 34 [bb, O (a8.Var), O (a8.Val)] :: H) w' ∧ Fx f' [(1, v11), (2, Value.int .u16 (most13)), (3, Vq o), (7, a2), (8, Vb ((bh && decide (bj.Var = a8.Var)))), (13, Vq bm), (58, v8), (59, O ((t1.Ops.length : Int))), (60, O ((cb : Int))), (65, bi), (66, O ((aR.Effs.length : Int))), (67, O ((cN : Int))), (72, bb), (73, O ((a8.When.length : Int))), (74, O ((fj : Int)))]) ?_ ?_
    ·refine G ?_
     by_cases bo : bh = true
     ·refine G ?_
      exact ⟨cp, (Zv _), (((c0.drop).f2).f2).f2, (Fx.mk (FxL.cons Z (FxL.cons Z (FxL.cons Z (FxL.cons Z (FxL.cons (Zx (Qnh bo)).symm fxl))))))⟩
     replace bo := Zk bo
     refine G ?_
     exact ⟨cp, (Zv _), (((c0.drop).f2).f2).f2, (Fx.mk (FxL.cons Z (FxL.cons Z (FxL.cons Z (FxL.cons Z (FxL.cons (Zx (Qni bo)).symm fxl))))))⟩
    intro ip jR dV
    obtain ⟨g3, fn, ew, ⟨iq, rfl⟩⟩ := dV
    have hy := Zu ca
    subst g2
    refine G ?_
    exact ⟨g3, (Zt cS fn), ((ew.f2).f2).f2, (Fx.mk (FxL.cons (QM eU (SliceRep.le ci)) fxl))⟩
   intro ir jS dN
   obtain ⟨g4, fo, ex, ⟨it, rfl⟩⟩ := dN
   have hz := Zu bd
   subst g1
   refine G ?_
   exact ⟨g4, (Zt cR fo), (((ex.f2).drop).f1).f1, (Fx.mk (FxL.cons (QM eT (SliceRep.le ch)) fxl))⟩
  intro iu jT dO
  obtain ⟨g5, fp, ey, ⟨iv, rfl⟩⟩ := dO
  have h0 := Zu bc
  subst g0
  refine G ?_
  exact ⟨g5, (Zt cQ fp), (ey.f1).f1, (Fx.mk (FxL.cons (QM eS (SliceRep.le (a9.mono (Zt a b)))) fxl))⟩
 intro iw jU dP
 obtain ⟨je, j, ez, ⟨ix, rfl⟩⟩ := dP
 refine G ?_
 obtain ⟨jf, l, e0, cj⟩ := ez.f1.freezeArr
 refine Qn hm fun gX fM hm => ?_
 obtain ⟨ja, kF⟩ := gX
 replace hm := Q7 hm
 refine G ?_
 refine Tc Z Z Z (Zi Z (Zi Z (Zi Z Qw))) (Qdi fM e0 (a3.mono (Zt (Zt (Zt a b) j) l)) (a5.mono (Zt (Zt (Zt a b) j) l)) (a7.mono (Zt (Zt (Zt a b) j) l)) (a9.mono (Zt (Zt (Zt a b) j) l)) cj (SliceRep.nil _ _)).r ?_
 rintro _ jV eZ
 rcases eZ with ⟨m, rfl, jg, aE, aF, aG, aH, al, am, an, n, e1, rfl, cX, cY, cZ, da⟩ | ⟨rfl, jh, iQ, iM, rfl⟩
 ·replace hm := Qc1 hm
  refine Qn hm fun jx aX hm => ?_
  refine Qn hm fun gY fN hm => ?_
  obtain ⟨jb, b3⟩ := gY
  replace hm := Q7 hm
  refine G ?_
  refine Tc Z Z Z (Zi Z (Zi Z (Zi Z Qw))) (YU fN e1 (a3.mono (Zt (Zt (Zt (Zt a b) j) l) n)) (a5.mono (Zt (Zt (Zt (Zt a b) j) l) n)) (a7.mono (Zt (Zt (Zt (Zt a b) j) l) n)) (a9.mono (Zt (Zt (Zt (Zt a b) j) l) n)) (cj.mono n)).r ?_
  rintro _ jW fa
  rcases fa with ⟨y, rfl, ji, aI, ao, ap, aq, i, e2, rfl, aZ⟩ | ⟨rfl, jj, iR, iN, rfl⟩
  ·replace hm := Qc1 hm
   refine Qn hm fun jy aY hm => ?_
   refine G ?_
   refine Exec.rem Z Z Z (by decide) (G ?_)
   refine QbL (by rw [Tryz.underlying27]; rfl) Tryz.underlying3 Z Z ?_
   refine Qn hm fun gZ fO hm => ?_
   obtain ⟨jc, b4⟩ := gZ
   replace hm := Q7 hm
   refine G ?_
   refine Tc Z Z Z (Zi Z (Zi Z (Zi Z Qw))) (YU fO e2 (a3.mono (Zt (Zt (Zt (Zt (Zt a b) j) l) n) i)) (a5.mono (Zt (Zt (Zt (Zt (Zt a b) j) l) n) i)) (a7.mono (Zt (Zt (Zt (Zt (Zt a b) j) l) n) i)) (a9.mono (Zt (Zt (Zt (Zt (Zt a b) j) l) n) i)) (cj.mono (Zt n i))).r ?_
   rintro _ jX fb
   rcases fb with ⟨p, rfl, jk, aJ, ar, au, av, d, e3, rfl, aC⟩ | ⟨rfl, jl, iS, iO, rfl⟩
   ·replace hm := Qc1 hm
    refine Qn hm fun jz cW hm => ?_
    refine Qn hm fun ha fP hm => ?_
    obtain ⟨jd, aM⟩ := ha
    replace hm := Q7 hm
    refine G ?_
    refine Tc Z Z Z (Zi Z (Zi Z (Zi Z Qw))) (Qdi fP e3 (a3.mono (Zt (Zt (Zt (Zt (Zt (Zt a b) j) l) n) i) d)) (a5.mono (Zt (Zt (Zt (Zt (Zt (Zt a b) j) l) n) i) d)) (a7.mono (Zt (Zt (Zt (Zt (Zt (Zt a b) j) l) n) i) d)) (a9.mono (Zt (Zt (Zt (Zt (Zt (Zt a b) j) l) n) i) d)) (a12.mono (Zt (Zt (Zt (Zt (Zt (Zt a b) j) l) n) i) d)) (SliceRep.nil _ _)).r ?_
    rintro _ jY fc
    rcases fc with ⟨aj, rfl, jm, bv, bw, bx, bz, a6, aK, aL, ac, e4, rfl, ck, cl, cm, cn⟩ | ⟨rfl, jn, ad, e5, rfl⟩
    ·replace hm := Qc1 hm
     refine Qn hm fun j0 ag hm => ?_
     refine G ?_
     refine Qv (T := 52) Tryz.underlying39 Z Z Z (G ?_)
     refine JO Z (Zf Z (Zx (KZ (Ql aX)))) Z (Zm (v := K4 52 (b3)) Z Z (JO Z (Zf Z (Zx (KZ (Ql aX)))) Z (Qv (T := 52) Tryz.underlying39 Z Z Z (G ?_))))
     refine Y5 (v := Vb (b3.isSome)) Z (Zx (KZ (Ql aX))) Z (G ?_)
     refine JO Z (Zf Z (Zx (KZ (Ql aY)))) Z (Zm (v := K4 52 (b4)) Z Z (JO Z (Zf Z (Zx (KZ (Ql aY)))) Z (Qv (T := 52) Tryz.underlying39 Z Z Z (G ?_))))
     refine Y5 (v := Vb (b4.isSome)) Z (Zx (KZ (Ql aY))) Z (G ?_)
     refine YW (Zx (KZ (Ql cW))) ?_
     refine Qn hm fun b5 fQ hm => ?_
     refine G ?_
     refine Tc Z Z Z (Zi Z (Zi Z Qw)) (Qb4 fQ e4 (a3.mono (Zt (Zt (Zt (Zt (Zt (Zt (Zt a b) j) l) n) i) d) ac)) (a5.mono (Zt (Zt (Zt (Zt (Zt (Zt (Zt a b) j) l) n) i) d) ac)) (a7.mono (Zt (Zt (Zt (Zt (Zt (Zt (Zt a b) j) l) n) i) d) ac)) (a9.mono (Zt (Zt (Zt (Zt (Zt (Zt (Zt a b) j) l) n) i) d) ac))).r ?_
     rintro b0 jZ ⟨cq, _, q, e6, rfl, db⟩
     refine Qh3 hm fun cu dG cJ eX eP => ?_
     refine g ?_
     refine Qp (M := fun f' w' => ∃ s', (cu = .next s' ∨ cu = .brk s') ∧ (fun (_ : Unit) => ∃ (dp : PHeap) , PHeap.le cq dp ∧ St w0 dp (Res.box o 26 [v2, v4, v6, v8] :: Res.box al 64 [am, an, O (m.system.States), O (m.system.Init), aE, aF, aG, aH] :: Res.box ao 73 [ap, aq, aI, Vb (y.exact)] :: Res.box ar 73 [au, av, aJ, Vb (p.exact)] :: Res.box a6 64 [aK, aL, O (aj.system.States), O (aj.system.Init), bv, bw, bx, bz] :: Res.arr (U .i64) 3 am m.vars :: Res.arr (U .i64) 3 an m.pattern :: Res.arr (U .i64) 3 ap y.vars :: Res.arr encmergeshrink_stage 83 aq y.stages :: Res.arr (U .i64) 3 au p.vars :: Res.arr encmergeshrink_stage 83 av p.stages :: Res.arr (U .i64) 3 aK aj.vars :: Res.arr (U .i64) 3 aL aj.pattern :: H) w' ∧ Fx f' [(2, Value.int .u16 (most13)), (3, Vq o), (8, Vb a4), (16, Vq al), (18, Vq ao), (20, Vq ar), (22, Vq a6), (23, K4 52 (aM)), (128, b0), (129, O ((b5.length : Int)))]) s') ?_ ?_
     ·refine G ?_
      refine QF (fun k' s' f' w' => (fun (_ : Unit) => ∃ (dq : PHeap) , PHeap.le cq dq ∧ St w0 dq (Res.box o 26 [v2, v4, v6, v8] :: Res.box al 64 [am, an, O (m.system.States), O (m.system.Init), aE, aF, aG, aH] :: Res.box ao 73 [ap, aq, aI, Vb (y.exact)] :: Res.box ar 73 [au, av, aJ, Vb (p.exact)] :: Res.box a6 64 [aK, aL, O (aj.system.States), O (aj.system.Init), bv, bw, bx, bz] :: Res.arr (U .i64) 3 am m.vars :: Res.arr (U .i64) 3 an m.pattern :: Res.arr (U .i64) 3 ap y.vars :: Res.arr encmergeshrink_stage 83 aq y.stages :: Res.arr (U .i64) 3 au p.vars :: Res.arr encmergeshrink_stage 83 av p.stages :: Res.arr (U .i64) 3 aK aj.vars :: Res.arr (U .i64) 3 aL aj.pattern :: H) w' ∧ Fx f' [(130, O (k' : Int)), (2, Value.int .u16 (most13)), (3, Vq o), (8, Vb a4), (16, Vq al), (18, Vq ao), (20, Vq ar), (22, Vq a6), (23, K4 52 (aM)), (128, b0), (129, O ((b5.length : Int)))]) s') dG ?_ ?_ ?_
      ·have e7 := e6.f2
       exact ⟨cq, (Zv _), (((((((((((e7.f2).f5).f5).f8).f8).f11).f11).f8).f9).f10).f11).f12, (Fx.mk)⟩
      ·intro cO jr b7 iy ka eV dQ ae cL
       obtain ⟨jo, x, c1, ⟨iz, rfl⟩⟩ := dQ
       refine Qn ae fun aS fR ae => ?_
       refine G ?_
       refine Ju S22.h Z Z Z (db.mono x) fR ?_
       intro ho iW d8
       refine G ?_
       refine Zw (E := (U .i64)) c1 A3.h Z Z Z d8 ?_
       intro j5 fS
       obtain rfl := Qg.1 fS
       refine Qn ae fun kG fT ae => ?_
       refine G ?_
       refine Tc Z Z Z (Zi Z Qw) (QaG fT c1 (a3.mono (Zt (Zt (Zt (Zt (Zt (Zt (Zt (Zt (Zt a b) j) l) n) i) d) ac) q) x))).r ?_
       rintro j6 kb ⟨g6, _, z, c2, rfl, gu⟩
       refine Qn ae fun kA fU ae => ?_
       refine G ?_
       refine Ju S46.h Z Z Z gu fU ?_
       intro hp iX d9
       refine G ?_
       refine Zw (E := (Qm (U .i64))) c2 A22.h Z Z Z d9 ?_
       intro b1 fV
       have aD := QH.1 fV
       refine Qn ae fun aN t ae => ?_
       refine g ?_
       refine Zc (Zc (Qp (M := fun f' w' => (fun (aN : Bool) => ∃ (dr : PHeap) , PHeap.le g6 dr ∧ St w0 dr (Res.box o 26 [v2, v4, v6, v8] :: Res.box al 64 [am, an, O (m.system.States), O (m.system.Init), aE, aF, aG, aH] :: Res.box ao 73 [ap, aq, aI, Vb (y.exact)] :: Res.box ar 73 [au, av, aJ, Vb (p.exact)] :: Res.box a6 64 [aK, aL, O (aj.system.States), O (aj.system.Init), bv, bw, bx, bz] :: Res.arr (U .i64) 3 am m.vars :: Res.arr (U .i64) 3 an m.pattern :: Res.arr (U .i64) 3 ap y.vars :: Res.arr encmergeshrink_stage 83 aq y.stages :: Res.arr (U .i64) 3 au p.vars :: Res.arr encmergeshrink_stage 83 av p.stages :: Res.arr (U .i64) 3 aK aj.vars :: Res.arr (U .i64) 3 aL aj.pattern :: H) w' ∧ Fx f' [(2, Value.int .u16 (most13)), (3, Vq o), (8, Vb a4), (16, Vq al), (18, Vq ao), (20, Vq ar), (22, Vq a6), (23, K4 52 (aM)), (25, O aS), (26, b1), (128, b0), (129, O ((b5.length : Int))), (130, O ((cO : Int))), (169, Vb aN)]) aN) ?_ ?_))
       ·refine Qn t fun kH fW t => ?_
        refine G ?_
        refine Tc Z Z Z (Zi Z (Zi Z Qw)) (Kf fW ((c2.f6).f6).f3 (cX.mono (Zt (Zt (Zt (Zt (Zt i d) ac) q) x) z)) (cY.mono (Zt (Zt (Zt (Zt (Zt i d) ac) q) x) z)) (cZ.mono (Zt (Zt (Zt (Zt (Zt i d) ac) q) x) z)) (da.mono (Zt (Zt (Zt (Zt (Zt i d) ac) q) x) z)) aD).r ?_
        rintro _ kc ⟨g7, az, c3, rfl⟩
        refine G ?_
        refine J1 t (fun bH t => ?_) fun bH t => ?_
        ·have h1 := Zu t
         subst aN
         refine G ?_
         exact ⟨g7, az, ((((((((((((c3.f12).f12).f12).f12).f12).f12).f8).f8).f12).f12).f12).f11).f12, (Fx.mk)⟩
        replace bH := Zk bH
        refine Qn t fun kI fX t => ?_
        refine G ?_
        refine Tc Z Z Z (Zi Z (Zi Z Qw)) (Q4 fX ((c3.f8).f8).f6 (aZ.mono (Zt (Zt (Zt (Zt (Zt d ac) q) x) z) az)) (aD.mono az)).r ?_
        rintro _ kd ⟨g8, aA, b9, rfl⟩
        refine G ?_
        refine J1 t (fun bI t => ?_) fun bI t => ?_
        ·have h2 := Zu t
         subst aN
         refine G ?_
         exact ⟨g8, (Zt az aA), ((((((((((((b9.f12).f12).f12).f12).f6).f6).f9).f9).f12).f12).f10).f11).f12, (Fx.mk)⟩
        replace bI := Zk bI
        refine G ?_
        refine J1 t (fun bJ t => ?_) fun bJ t => ?_
        ·refine Qn t fun kJ fY t => ?_
         refine G ?_
         refine Tc Z Z Z (Zi Z (Zi Z Qw)) (Q4 fY ((b9.f2).f2).f2 (aZ.mono (Zt (Zt (Zt (Zt (Zt (Zt d ac) q) x) z) az) aA)) (aD.mono (Zt az aA))).r ?_
         rintro _ ke ⟨g9, bt, c4, rfl⟩
         refine G ?_
         refine J1 t (fun bK t => ?_) fun bK t => ?_
         ·have h3 := Zu t
          subst aN
          refine G ?_
          exact ⟨g9, (Zt (Zt az aA) bt), ((((((((((((c4.f12).f12).f12).f12).f6).f6).f9).f9).f12).f12).f10).f11).f12, (Fx.mk)⟩
         replace bK := Zk bK
         refine Qn t fun kK fZ t => ?_
         refine G ?_
         refine Tc Z Z Z (Zi Z (Zi Z Qw)) (Q4 fZ ((c4.f10).f10).f9 (aC.mono (Zt (Zt (Zt (Zt (Zt (Zt ac q) x) z) az) aA) bt)) (aD.mono (Zt (Zt az aA) bt))).r ?_
         rintro _ kf ⟨gA, fq, e8, rfl⟩
         have h4 := Zu t
         subst aN
         refine G ?_
         exact ⟨gA, (Zt (Zt (Zt az aA) bt) fq), ((((((((((((e8.f12).f12).f4).f4).f7).f7).f10).f10).f12).f9).f10).f11).f12, (Fx.mk)⟩
        replace bJ := Zk bJ
        refine Qn t fun kL ga t => ?_
        refine G ?_
        refine Tc Z Z Z (Zi Z (Zi Z Qw)) (Q4 ga ((b9.f10).f10).f9 (aC.mono (Zt (Zt (Zt (Zt (Zt ac q) x) z) az) aA)) (aD.mono (Zt az aA))).r ?_
        rintro _ kg ⟨gB, fr, e9, rfl⟩
        have h5 := Zu t
        subst aN
        refine G ?_
        exact ⟨gB, (Zt (Zt az aA) fr), ((((((((((((e9.f12).f12).f4).f4).f7).f7).f10).f10).f12).f9).f10).f11).f12, (Fx.mk)⟩
       intro i0 kh dW
       obtain ⟨dt, ab, bA, ⟨i1, rfl⟩⟩ := dW
       refine G ?_
       refine J1 ae (fun bp ae => ?_) fun bp ae => ?_
       ·have h6 := Zu ae
        subst b7
        have fd := cJ _ (cL (by intro _ h; cases h))
        have h7 := Zu fd
        subst r
        refine G ?_
        refine ⟨_, KR Z, ?_⟩
        exact ⟨dt, (Zt (Zt (Zt (Zt (Zt (Zt (Zt (Zt (Zt (Zt (Zt a b) j) l) n) i) d) ac) q) x) z) ab), ((((((((((((bA.drop).drop).drop).drop).drop).drop).drop).drop).drop).drop).drop).drop).drop, Z⟩
       replace bp := Zk bp
       refine Qn ae fun aU aa ae => ?_
       refine W_c Z bp (Qa4 (Jt (Ze (Zc (Qp (M := fun f' w' => (fun (aU : Bool) => ∃ (du : PHeap) , PHeap.le dt du ∧ St w0 du (Res.box o 26 [v2, v4, v6, v8] :: Res.box al 64 [am, an, O (m.system.States), O (m.system.Init), aE, aF, aG, aH] :: Res.box ao 73 [ap, aq, aI, Vb (y.exact)] :: Res.box ar 73 [au, av, aJ, Vb (p.exact)] :: Res.box a6 64 [aK, aL, O (aj.system.States), O (aj.system.Init), bv, bw, bx, bz] :: Res.arr (U .i64) 3 am m.vars :: Res.arr (U .i64) 3 an m.pattern :: Res.arr (U .i64) 3 ap y.vars :: Res.arr encmergeshrink_stage 83 aq y.stages :: Res.arr (U .i64) 3 au p.vars :: Res.arr encmergeshrink_stage 83 av p.stages :: Res.arr (U .i64) 3 aK aj.vars :: Res.arr (U .i64) 3 aL aj.pattern :: H) w' ∧ Fx f' [(2, Value.int .u16 (most13)), (3, Vq o), (8, Vb a4), (16, Vq al), (18, Vq ao), (20, Vq ar), (22, Vq a6), (23, K4 52 (aM)), (128, b0), (129, O ((b5.length : Int))), (130, O ((cO : Int))), (192, Vb aU)]) aU) ?_ ?_)))))
       ·refine G ?_
        refine J1 aa (fun bL aa => ?_) fun bL aa => ?_
        ·refine G ?_
         refine Tc Z Z Z (Zi Z Qw) (QY (QJ p) ((bA.f10).f10).f5 (aC.mono (Zt (Zt (Zt (Zt ac q) x) z) ab))).r ?_
         rintro _ ki ⟨jp, ax, c5, rfl⟩
         refine G ?_
         refine J1 aa (fun bM aa => ?_) fun bM aa => ?_
         ·refine Qn aa fun kM gb aa => ?_
          refine G ?_
          refine Tc Z Z Z (Zi Z (Zi Z Qw)) (Q4 gb ((c5.f2).f2).f2 (aC.mono (Zt (Zt (Zt (Zt (Zt ac q) x) z) ab) ax)) (aD.mono (Zt ab ax))).r ?_
          rintro _ kj ⟨gC, aQ, c6, rfl⟩
          refine G ?_
          refine J1 aa (fun bN aa => ?_) fun bN aa => ?_
          ·have h8 := Zu aa
           subst aU
           refine G ?_
           exact ⟨gC, (Zt ax aQ), ((((((((((((c6.f12).f12).f4).f4).f12).f12).f12).f12).f12).f9).f12).f12).f12, (Fx.mk)⟩
          replace bN := Zk bN
          refine G ?_
          refine Jl (T := 52) Tryz.underlying39 Z Z Z (G ?_)
          refine JO Z (Zf Z (Zx (Ql ag))) Z (Zm (v := Vq a6) Z Z (JO Z (Zf Z (Zx (Ql ag))) Z (Zm (v := b1) Z Z ?_)))
          refine Qn aa fun he gc aa => ?_
          refine JO Z (Zf Z (Zx (Ql ag))) Z (Tc Z Z Z (Zi Z (Zi Z Qw)) (Kf gc ((c6.f12).f12).f8 (ck.mono (Zt (Zt (Zt (Zt (Zt q x) z) ab) ax) aQ)) (cl.mono (Zt (Zt (Zt (Zt (Zt q x) z) ab) ax) aQ)) (cm.mono (Zt (Zt (Zt (Zt (Zt q x) z) ab) ax) aQ)) (cn.mono (Zt (Zt (Zt (Zt (Zt q x) z) ab) ax) aQ)) (aD.mono (Zt (Zt ab ax) aQ))).r ?_)
          rintro _ kk ⟨gD, fs, eA, rfl⟩
          refine JO Z (Zf Z (Zx (Ql ag))) Z (Zm (v := O aS) Z Z (JO Z (Zf Z (Zx (Ql ag))) Z (Exec.gtr Z Z Z (G ?_))))
          refine Zs (v := Vb (decide (aS < he))) Z (Zx (Ql ag)) Z ?_
          have h9 := Zu aa
          subst aU
          refine G ?_
          exact ⟨gD, (Zt (Zt ax aQ) fs), ((((((((((((eA.f2).f2).f5).f5).f12).f12).f12).f12).f8).f9).f12).f12).f12, (Fx.mk)⟩
         replace bM := Zk bM
         refine G ?_
         refine Jl (T := 52) Tryz.underlying39 Z Z Z (G ?_)
         refine JO Z (Zf Z (Zx (Ql ag))) Z (Zm (v := Vq a6) Z Z (JO Z (Zf Z (Zx (Ql ag))) Z (Zm (v := b1) Z Z ?_)))
         refine Qn aa fun hf gd aa => ?_
         refine JO Z (Zf Z (Zx (Ql ag))) Z (Tc Z Z Z (Zi Z (Zi Z Qw)) (Kf gd ((c5.f12).f12).f8 (ck.mono (Zt (Zt (Zt (Zt q x) z) ab) ax)) (cl.mono (Zt (Zt (Zt (Zt q x) z) ab) ax)) (cm.mono (Zt (Zt (Zt (Zt q x) z) ab) ax)) (cn.mono (Zt (Zt (Zt (Zt q x) z) ab) ax)) (aD.mono (Zt ab ax))).r ?_)
         rintro _ kl ⟨gE, ft, eB, rfl⟩
         refine JO Z (Zf Z (Zx (Ql ag))) Z (Zm (v := O aS) Z Z (JO Z (Zf Z (Zx (Ql ag))) Z (Exec.gtr Z Z Z (G ?_))))
         refine Zs (v := Vb (decide (aS < hf))) Z (Zx (Ql ag)) Z ?_
         have hA := Zu aa
         subst aU
         refine G ?_
         exact ⟨gE, (Zt ax ft), ((((((((((((eB.f2).f2).f5).f5).f12).f12).f12).f12).f8).f9).f12).f12).f12, (Fx.mk)⟩
        replace bL := Zk bL
        refine G ?_
        refine Jl (T := 52) Tryz.underlying39 Z Z Z (G ?_)
        refine JO Z (Zf Z (Zx (Ql ag))) Z (Zm (v := Vq a6) Z Z (JO Z (Zf Z (Zx (Ql ag))) Z (Zm (v := b1) Z Z ?_)))
        refine Qn aa fun hg gf aa => ?_
        refine JO Z (Zf Z (Zx (Ql ag))) Z (Tc Z Z Z (Zi Z (Zi Z Qw)) (Kf gf ((bA.f12).f12).f6 (ck.mono (Zt (Zt (Zt q x) z) ab)) (cl.mono (Zt (Zt (Zt q x) z) ab)) (cm.mono (Zt (Zt (Zt q x) z) ab)) (cn.mono (Zt (Zt (Zt q x) z) ab)) (aD.mono ab)).r ?_)
        rintro _ km ⟨gF, fu, eC, rfl⟩
        refine JO Z (Zf Z (Zx (Ql ag))) Z (Zm (v := O aS) Z Z (JO Z (Zf Z (Zx (Ql ag))) Z (Exec.gtr Z Z Z (G ?_))))
        refine Zs (v := Vb (decide (aS < hg))) Z (Zx (Ql ag)) Z ?_
        have hB := Zu aa
        subst aU
        refine G ?_
        exact ⟨gF, fu, ((((((((((((eC.f2).f2).f12).f12).f12).f12).f12).f12).f8).f12).f12).f12).f12, (Fx.mk)⟩
       intro i2 kn dX
       obtain ⟨dv, cT, c7, ⟨i3, rfl⟩⟩ := dX
       refine G ?_
       refine J1 ae (fun bO ae => ?_) fun bO ae => ?_
       ·have hC := Zu ae
        subst b7
        have fe := cJ _ (cL (by intro _ h; cases h))
        have hD := Zu fe
        subst r
        refine G ?_
        refine ⟨_, KR Z, ?_⟩
        exact ⟨dv, (Zt (Zt (Zt (Zt (Zt (Zt (Zt (Zt (Zt (Zt (Zt (Zt a b) j) l) n) i) d) ac) q) x) z) ab) cT), ((((((((((((c7.drop).drop).drop).drop).drop).drop).drop).drop).drop).drop).drop).drop).drop, Z⟩
       replace bO := Zk bO
       have hE := Zu ae
       subst b7
       refine G ?_
       refine ⟨_, Z, ?_⟩; exact ⟨dv, (Zt (Zt (Zt x z) ab) cT), ((((((((((((c7.f12).f12).f12).f12).f12).f12).f12).f12).f12).f12).f12).f12).f12, (Fx.mk (FxL.cons (QM eV (SliceRep.le db)) fxl))⟩
      intro js i4 ko dR fh
      obtain ⟨gG, fv, eD, ⟨i5, rfl⟩⟩ := dR
      refine G ?_
      refine ⟨_, .inl fh, ?_⟩; exact ⟨gG, fv, ((((((((((((eD.f12).f12).f12).f12).f12).f12).f12).f12).f12).f12).f12).f12).f12, (Fx.mk)⟩
     rintro i6 kp ⟨jt, cH, dY⟩
     have hm := cH.elim (eX _) (eP _)
     clear cH
     obtain ⟨gH, cc, eE, ⟨i7, rfl⟩⟩ := dY
     refine Qn hm fun bk be hm => ?_
     refine g ?_
     refine Zc (Qp (M := fun f' w' => (fun (bk : Bool) => ∃ (dw : PHeap) , PHeap.le gH dw ∧ St w0 dw (H) w' ∧ Fx f' [(6, Vb bk)]) bk) ?_ ?_)
     ·refine G ?_
      refine Tc Z Z Z (Zi Z Qw) (QY (QJ y) ((eE.f8).f8).f4 (aZ.mono (Zt (Zt (Zt d ac) q) cc))).r ?_
      rintro _ kq ⟨gI, cd, c8, rfl⟩
      refine G ?_
      refine J1 be (fun bP be => ?_) fun bP be => ?_
      ·refine G ?_
       refine Tc Z Z Z (Zi Z Qw) (Yl (Kg p) ((c8.f10).f10).f7 (aC.mono (Zt (Zt (Zt ac q) cc) cd))).r ?_
       rintro _ kr ⟨gJ, fw, eF, rfl⟩
       refine G ?_
       refine Exec.rem Z Z Z (by decide) (G ?_)
       refine QbL (by rw [Tryz.underlying27]; rfl) Tryz.underlying3 Z Z ?_
       have hF := Zu be
       subst bk
       refine G ?_
       exact ⟨gJ, (Zt cd fw), ((((((((((((eF.drop).drop).drop).drop).drop).drop).drop).drop).drop).drop).drop).drop).drop, (Fx.mk)⟩
      replace bP := Zk bP
      have hG := Zu be
      subst bk
      refine G ?_
      exact ⟨gI, cd, ((((((((((((c8.drop).drop).drop).drop).drop).drop).drop).drop).drop).drop).drop).drop).drop, (Fx.mk)⟩
     intro i8 ks dZ
     obtain ⟨gK, fx, eG, ⟨i9, rfl⟩⟩ := dZ
     have hH := Zu hm
     subst r
     refine G ?_
     refine ⟨_, KR Z, ?_⟩
     exact ⟨gK, (Zt (Zt (Zt (Zt (Zt (Zt (Zt (Zt (Zt (Zt a b) j) l) n) i) d) ac) q) cc) fx), eG, Z⟩
    replace hm := Qc2 hm
    refine Qn hm fun j1 ah hm => ?_
    refine G ?_
    refine Qv (T := 52) Tryz.underlying39 Z Z Z (G ?_)
    refine JO Z (Zf Z (Zx (KZ (Ql aX)))) Z (Zm (v := K4 52 (b3)) Z Z (JO Z (Zf Z (Zx (KZ (Ql aX)))) Z (Qv (T := 52) Tryz.underlying39 Z Z Z (G ?_))))
    refine Y5 (v := Vb (b3.isSome)) Z (Zx (KZ (Ql aX))) Z (G ?_)
    refine JO Z (Zf Z (Zx (KZ (Ql aY)))) Z (Zm (v := K4 52 (b4)) Z Z (JO Z (Zf Z (Zx (KZ (Ql aY)))) Z (Qv (T := 52) Tryz.underlying39 Z Z Z (G ?_))))
    refine Y5 (v := Vb (b4.isSome)) Z (Zx (KZ (Ql aY))) Z (G ?_)
    refine YW (Zx (KZ (Ql cW))) ?_
    refine Qn hm fun b6 gg hm => ?_
    refine G ?_
    refine Tc Z Z Z (Zi Z (Zi Z Qw)) (Qb4 gg e5 (a3.mono (Zt (Zt (Zt (Zt (Zt (Zt (Zt a b) j) l) n) i) d) ad)) (a5.mono (Zt (Zt (Zt (Zt (Zt (Zt (Zt a b) j) l) n) i) d) ad)) (a7.mono (Zt (Zt (Zt (Zt (Zt (Zt (Zt a b) j) l) n) i) d) ad)) (a9.mono (Zt (Zt (Zt (Zt (Zt (Zt (Zt a b) j) l) n) i) d) ad))).r ?_
    rintro b2 kt ⟨cr, _, ak, eH, rfl, dc⟩
    refine Qh3 hm fun cv dH cK eY eQ => ?_
    refine g ?_
    refine Qp (M := fun f' w' => ∃ s', (cv = .next s' ∨ cv = .brk s') ∧ (fun (_ : Unit) => ∃ (dx : PHeap) , PHeap.le cr dx ∧ St w0 dx (Res.box o 26 [v2, v4, v6, v8] :: Res.box al 64 [am, an, O (m.system.States), O (m.system.Init), aE, aF, aG, aH] :: Res.box ao 73 [ap, aq, aI, Vb (y.exact)] :: Res.box ar 73 [au, av, aJ, Vb (p.exact)] :: Res.arr (U .i64) 3 am m.vars :: Res.arr (U .i64) 3 an m.pattern :: Res.arr (U .i64) 3 ap y.vars :: Res.arr encmergeshrink_stage 83 aq y.stages :: Res.arr (U .i64) 3 au p.vars :: Res.arr encmergeshrink_stage 83 av p.stages :: H) w' ∧ Fx f' [(2, Value.int .u16 (most13)), (3, Vq o), (8, Vb a4), (16, Vq al), (18, Vq ao), (20, Vq ar), (22, Vp none), (23, K4 52 (aM)), (128, b2), (129, O ((b6.length : Int)))]) s') ?_ ?_
    ·refine G ?_
     refine QF (fun k' s' f' w' => (fun (_ : Unit) => ∃ (dy : PHeap) , PHeap.le cr dy ∧ St w0 dy (Res.box o 26 [v2, v4, v6, v8] :: Res.box al 64 [am, an, O (m.system.States), O (m.system.Init), aE, aF, aG, aH] :: Res.box ao 73 [ap, aq, aI, Vb (y.exact)] :: Res.box ar 73 [au, av, aJ, Vb (p.exact)] :: Res.arr (U .i64) 3 am m.vars :: Res.arr (U .i64) 3 an m.pattern :: Res.arr (U .i64) 3 ap y.vars :: Res.arr encmergeshrink_stage 83 aq y.stages :: Res.arr (U .i64) 3 au p.vars :: Res.arr encmergeshrink_stage 83 av p.stages :: H) w' ∧ Fx f' [(130, O (k' : Int)), (2, Value.int .u16 (most13)), (3, Vq o), (8, Vb a4), (16, Vq al), (18, Vq ao), (20, Vq ar), (22, Vp none), (23, K4 52 (aM)), (128, b2), (129, O ((b6.length : Int)))]) s') dH ?_ ?_ ?_
     ·have eI := eH.f2
      exact ⟨cr, (Zv _), ((((((((eI.f2).f5).f5).f8).f8).f6).f7).f8).f9, (Fx.mk)⟩
     ·intro cP ju b8 iA ku eW dS af cM
      obtain ⟨jq, ay, c9, ⟨iB, rfl⟩⟩ := dS
      refine Qn af fun hd gh af => ?_
      refine G ?_
      refine Ju S22.h Z Z Z (dc.mono ay) gh ?_
      intro hq iY dA
      refine G ?_
      refine Zw (E := (U .i64)) c9 A3.h Z Z Z dA ?_
      intro j7 gi
      obtain rfl := Qg.1 gi
      refine Qn af fun kN gj af => ?_
      refine G ?_
      refine Tc Z Z Z (Zi Z Qw) (QaG gj c9 (a3.mono (Zt (Zt (Zt (Zt (Zt (Zt (Zt (Zt (Zt a b) j) l) n) i) d) ad) ak) ay))).r ?_
      rintro j8 kv ⟨gL, _, a0, cA, rfl, gv⟩
      refine Qn af fun kB gk af => ?_
      refine G ?_
      refine Ju S46.h Z Z Z gv gk ?_
      intro hr iZ dB
      refine G ?_
      refine Zw (E := (Qm (U .i64))) cA A22.h Z Z Z dB ?_
      intro hc gl
      have ba := QH.1 gl
      refine Qn af fun aO u af => ?_
      refine g ?_
      refine Zc (Zc (Qp (M := fun f' w' => (fun (aO : Bool) => ∃ (dz : PHeap) , PHeap.le gL dz ∧ St w0 dz (Res.box o 26 [v2, v4, v6, v8] :: Res.box al 64 [am, an, O (m.system.States), O (m.system.Init), aE, aF, aG, aH] :: Res.box ao 73 [ap, aq, aI, Vb (y.exact)] :: Res.box ar 73 [au, av, aJ, Vb (p.exact)] :: Res.arr (U .i64) 3 am m.vars :: Res.arr (U .i64) 3 an m.pattern :: Res.arr (U .i64) 3 ap y.vars :: Res.arr encmergeshrink_stage 83 aq y.stages :: Res.arr (U .i64) 3 au p.vars :: Res.arr encmergeshrink_stage 83 av p.stages :: H) w' ∧ Fx f' [(2, Value.int .u16 (most13)), (3, Vq o), (8, Vb a4), (16, Vq al), (18, Vq ao), (20, Vq ar), (22, Vp none), (23, K4 52 (aM)), (25, O hd), (26, hc), (128, b2), (129, O ((b6.length : Int))), (130, O ((cP : Int))), (169, Vb aO)]) aO) ?_ ?_))
      ·refine Qn u fun kO gm u => ?_
       refine G ?_
       refine Tc Z Z Z (Zi Z (Zi Z Qw)) (Kf gm ((cA.f5).f5).f3 (cX.mono (Zt (Zt (Zt (Zt (Zt i d) ad) ak) ay) a0)) (cY.mono (Zt (Zt (Zt (Zt (Zt i d) ad) ak) ay) a0)) (cZ.mono (Zt (Zt (Zt (Zt (Zt i d) ad) ak) ay) a0)) (da.mono (Zt (Zt (Zt (Zt (Zt i d) ad) ak) ay) a0)) ba).r ?_
       rintro _ kw ⟨gM, a1, cB, rfl⟩
       refine G ?_
       refine J1 u (fun bQ u => ?_) fun bQ u => ?_
       ·have hI := Zu u
        subst aO
        refine G ?_
        exact ⟨gM, a1, (((((((((cB.f9).f9).f9).f9).f6).f6).f9).f9).f8).f9, (Fx.mk)⟩
       replace bQ := Zk bQ
       refine Qn u fun kP gn u => ?_
       refine G ?_
       refine Tc Z Z Z (Zi Z (Zi Z Qw)) (Q4 gn ((cB.f7).f7).f6 (aZ.mono (Zt (Zt (Zt (Zt (Zt d ad) ak) ay) a0) a1)) (ba.mono a1)).r ?_
       rintro _ kx ⟨gN, aB, bB, rfl⟩
       refine G ?_
       refine J1 u (fun bR u => ?_) fun bR u => ?_
       ·have hJ := Zu u
        subst aO
        refine G ?_
        exact ⟨gN, (Zt a1 aB), (((((((((bB.f9).f9).f4).f4).f7).f7).f9).f7).f8).f9, (Fx.mk)⟩
       replace bR := Zk bR
       refine G ?_
       refine J1 u (fun bS u => ?_) fun bS u => ?_
       ·refine Qn u fun kQ go u => ?_
        refine G ?_
        refine Tc Z Z Z (Zi Z (Zi Z Qw)) (Q4 go ((bB.f2).f2).f2 (aZ.mono (Zt (Zt (Zt (Zt (Zt (Zt d ad) ak) ay) a0) a1) aB)) (ba.mono (Zt a1 aB))).r ?_
        rintro _ ky ⟨gO, bu, cC, rfl⟩
        refine G ?_
        refine J1 u (fun bT u => ?_) fun bT u => ?_
        ·have hK := Zu u
         subst aO
         refine G ?_
         exact ⟨gO, (Zt (Zt a1 aB) bu), (((((((((cC.f9).f9).f4).f4).f7).f7).f9).f7).f8).f9, (Fx.mk)⟩
        replace bT := Zk bT
        refine Qn u fun kR gp u => ?_
        refine G ?_
        refine Tc Z Z Z (Zi Z (Zi Z Qw)) (Q4 gp ((cC.f9).f9).f9 (aC.mono (Zt (Zt (Zt (Zt (Zt (Zt ad ak) ay) a0) a1) aB) bu)) (ba.mono (Zt (Zt a1 aB) bu))).r ?_
        rintro _ kz ⟨gP, fy, eJ, rfl⟩
        have hL := Zu u
        subst aO
        refine G ?_
        exact ⟨gP, (Zt (Zt (Zt a1 aB) bu) fy), (((((((((eJ.f2).f2).f5).f5).f8).f8).f6).f7).f8).f9, (Fx.mk)⟩
       replace bS := Zk bS
       refine Qn u fun kS gq u => ?_
       refine G ?_
       refine Tc Z Z Z (Zi Z (Zi Z Qw)) (Q4 gq ((bB.f9).f9).f9 (aC.mono (Zt (Zt (Zt (Zt (Zt ad ak) ay) a0) a1) aB)) (ba.mono (Zt a1 aB))).r ?_
       rintro _ k0 ⟨gQ, fz, eK, rfl⟩
       have hM := Zu u
       subst aO
       refine G ?_
       exact ⟨gQ, (Zt (Zt a1 aB) fz), (((((((((eK.f2).f2).f5).f5).f8).f8).f6).f7).f8).f9, (Fx.mk)⟩
      intro iC k1 ea
      obtain ⟨ct, aW, bC, ⟨iD, rfl⟩⟩ := ea
      refine G ?_
      refine J1 af (fun bq af => ?_) fun bq af => ?_
      ·have hN := Zu af
       subst b8
       have ff := cK _ (cM (by intro _ h; cases h))
       have hO := Zu ff
       subst r
       refine G ?_
       refine ⟨_, KR Z, ?_⟩
       exact ⟨ct, (Zt (Zt (Zt (Zt (Zt (Zt (Zt (Zt (Zt (Zt (Zt a b) j) l) n) i) d) ad) ak) ay) a0) aW), (((((((((bC.drop).drop).drop).drop).drop).drop).drop).drop).drop).drop, Z⟩
      replace bq := Zk bq
      refine Qn af fun aV aw af => ?_
      refine W_c Z bq (Qa4 (Jt (Ze (Zc (Qp (M := fun f' w' => (fun (aV : Bool) => ∃ (d0 : PHeap) , PHeap.le ct d0 ∧ St w0 d0 (Res.box o 26 [v2, v4, v6, v8] :: Res.box al 64 [am, an, O (m.system.States), O (m.system.Init), aE, aF, aG, aH] :: Res.box ao 73 [ap, aq, aI, Vb (y.exact)] :: Res.box ar 73 [au, av, aJ, Vb (p.exact)] :: Res.arr (U .i64) 3 am m.vars :: Res.arr (U .i64) 3 an m.pattern :: Res.arr (U .i64) 3 ap y.vars :: Res.arr encmergeshrink_stage 83 aq y.stages :: Res.arr (U .i64) 3 au p.vars :: Res.arr encmergeshrink_stage 83 av p.stages :: H) w' ∧ Fx f' [(2, Value.int .u16 (most13)), (3, Vq o), (8, Vb a4), (16, Vq al), (18, Vq ao), (20, Vq ar), (22, Vp none), (23, K4 52 (aM)), (128, b2), (129, O ((b6.length : Int))), (130, O ((cP : Int))), (192, Vb aV)]) aV) ?_ ?_)))))
      ·refine G ?_
       refine J1 aw (fun bU aw => ?_) fun bU aw => ?_
       ·refine G ?_
        refine Tc Z Z Z (Zi Z Qw) (QY (QJ p) ((bC.f9).f9).f5 (aC.mono (Zt (Zt (Zt (Zt ad ak) ay) a0) aW))).r ?_
        rintro _ k2 ⟨gR, bg, cD, rfl⟩
        refine G ?_
        refine J1 aw (fun bV aw => ?_) fun bV aw => ?_
        ·refine Qn aw fun kT gr aw => ?_
         refine G ?_
         refine Tc Z Z Z (Zi Z (Zi Z Qw)) (Q4 gr ((cD.f2).f2).f2 (aC.mono (Zt (Zt (Zt (Zt (Zt ad ak) ay) a0) aW) bg)) (ba.mono (Zt aW bg))).r ?_
         rintro _ k3 ⟨d1, cU, cE, rfl⟩
         refine G ?_
         refine J1 aw (fun bW aw => ?_) fun bW aw => ?_
         ·have hP := Zu aw
          subst aV
          refine G ?_
          exact ⟨d1, (Zt bg cU), (((((((((cE.f2).f2).f9).f9).f9).f9).f6).f9).f9).f9, (Fx.mk)⟩
         replace bW := Zk bW
         refine G ?_
         refine Jl (T := 52) Tryz.underlying39 Z Z Z (G ?_)
         refine Zl Z (Zf Z (Zx (Kj (Ql ah)))) Z Z (Zl Z (Zf Z (Zx (Kj (Ql ah)))) Z Z (Zl Z (Zf Z (Zx (Kj (Ql ah)))) Z Z (Zl Z (Zf Z (Zx (Kj (Ql ah)))) Z Z (Zl Z (Zf Z (Zx (Kj (Ql ah)))) Z Z (G ?_)))))
         refine Y5 (v := Vb false) Z (Zx (Kj (Ql ah))) Z ?_
         have hQ := Zu aw
         subst aV
         refine G ?_
         exact ⟨d1, (Zt bg cU), (((((((((cE.f2).f2).f9).f9).f9).f9).f6).f9).f9).f9, (Fx.mk)⟩
        replace bV := Zk bV
        refine G ?_
        refine Jl (T := 52) Tryz.underlying39 Z Z Z (G ?_)
        refine Zl Z (Zf Z (Zx (Kj (Ql ah)))) Z Z (Zl Z (Zf Z (Zx (Kj (Ql ah)))) Z Z (Zl Z (Zf Z (Zx (Kj (Ql ah)))) Z Z (Zl Z (Zf Z (Zx (Kj (Ql ah)))) Z Z (Zl Z (Zf Z (Zx (Kj (Ql ah)))) Z Z (G ?_)))))
        refine Y5 (v := Vb false) Z (Zx (Kj (Ql ah))) Z ?_
        have hR := Zu aw
        subst aV
        refine G ?_
        exact ⟨gR, bg, (((((((((cD.f2).f2).f9).f9).f9).f9).f6).f9).f9).f9, (Fx.mk)⟩
       replace bU := Zk bU
       refine G ?_
       refine Jl (T := 52) Tryz.underlying39 Z Z Z (G ?_)
       refine Zl Z (Zf Z (Zx (Kj (Ql ah)))) Z Z (Zl Z (Zf Z (Zx (Kj (Ql ah)))) Z Z (Zl Z (Zf Z (Zx (Kj (Ql ah)))) Z Z (Zl Z (Zf Z (Zx (Kj (Ql ah)))) Z Z (Zl Z (Zf Z (Zx (Kj (Ql ah)))) Z Z (G ?_)))))
       refine Y5 (v := Vb false) Z (Zx (Kj (Ql ah))) Z ?_
       have hT := Zu aw
       subst aV
       refine G ?_
       exact ⟨ct, (Zv _), (((((((((bC.f9).f9).f9).f9).f9).f9).f9).f9).f9).f9, (Fx.mk)⟩
      intro iE k4 eb
      obtain ⟨d2, cV, cF, ⟨iF, rfl⟩⟩ := eb
      refine G ?_
      refine J1 af (fun bX af => ?_) fun bX af => ?_
      ·have hU := Zu af
       subst b8
       have fg := cK _ (cM (by intro _ h; cases h))
       have hV := Zu fg
       subst r
       refine G ?_
       refine ⟨_, KR Z, ?_⟩
       exact ⟨d2, (Zt (Zt (Zt (Zt (Zt (Zt (Zt (Zt (Zt (Zt (Zt (Zt a b) j) l) n) i) d) ad) ak) ay) a0) aW) cV), (((((((((cF.drop).drop).drop).drop).drop).drop).drop).drop).drop).drop, Z⟩
      replace bX := Zk bX
      have hW := Zu af
      subst b8
      refine G ?_
      refine ⟨_, Z, ?_⟩; exact ⟨d2, (Zt (Zt (Zt ay a0) aW) cV), (((((((((cF.f9).f9).f9).f9).f9).f9).f9).f9).f9).f9, (Fx.mk (FxL.cons (QM eW (SliceRep.le dc)) fxl))⟩
     intro jv iG k5 dT fi
     obtain ⟨gS, f0, eL, ⟨iH, rfl⟩⟩ := dT
     refine G ?_
     refine ⟨_, .inl fi, ?_⟩; exact ⟨gS, f0, (((((((((eL.f9).f9).f9).f9).f9).f9).f9).f9).f9).f9, (Fx.mk)⟩
    rintro iI k6 ⟨jw, cI, ec⟩
    have hm := cI.elim (eY _) (eQ _)
    clear cI
    obtain ⟨gT, ce, eM, ⟨iJ, rfl⟩⟩ := ec
    refine Qn hm fun bl bf hm => ?_
    refine g ?_
    refine Zc (Qp (M := fun f' w' => (fun (bl : Bool) => ∃ (d3 : PHeap) , PHeap.le gT d3 ∧ St w0 d3 (H) w' ∧ Fx f' [(6, Vb bl)]) bl) ?_ ?_)
    ·refine G ?_
     refine Tc Z Z Z (Zi Z Qw) (QY (QJ y) ((eM.f7).f7).f4 (aZ.mono (Zt (Zt (Zt d ad) ak) ce))).r ?_
     rintro _ k7 ⟨gU, cf, cG, rfl⟩
     refine G ?_
     refine J1 bf (fun bY bf => ?_) fun bY bf => ?_
     ·refine G ?_
      refine Tc Z Z Z (Zi Z Qw) (Yl (Kg p) ((cG.f9).f9).f7 (aC.mono (Zt (Zt (Zt ad ak) ce) cf))).r ?_
      rintro _ k8 ⟨gV, fA, eN, rfl⟩
      refine G ?_
      refine Exec.rem Z Z Z (by decide) (G ?_)
      refine QbL (by rw [Tryz.underlying27]; rfl) Tryz.underlying3 Z Z ?_
      have hX := Zu bf
      subst bl
      refine G ?_
      exact ⟨gV, (Zt cf fA), (((((((((eN.drop).drop).drop).drop).drop).drop).drop).drop).drop).drop, (Fx.mk)⟩
     replace bY := Zk bY
     have hY := Zu bf
     subst bl
     refine G ?_
     exact ⟨gU, cf, (((((((((cG.drop).drop).drop).drop).drop).drop).drop).drop).drop).drop, (Fx.mk)⟩
    intro iK k9 ed
    obtain ⟨gW, fB, eO, ⟨iL, rfl⟩⟩ := ed
    have hZ := Zu hm
    subst r
    refine G ?_
    refine ⟨_, KR Z, ?_⟩
    exact ⟨gW, (Zt (Zt (Zt (Zt (Zt (Zt (Zt (Zt (Zt (Zt a b) j) l) n) i) d) ad) ak) ce) fB), eO, Z⟩
   replace hm := Qc2 hm
   cases hm
  replace hm := Qc2 hm
  cases hm
 replace hm := Qc2 hm
 cases hm
end Go.Pw
