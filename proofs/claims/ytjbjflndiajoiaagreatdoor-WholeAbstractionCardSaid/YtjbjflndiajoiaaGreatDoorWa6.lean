/- -/
import Derived.Test.YtjbjflndiajoiaaGreatDoorLC
import Derived.Test.YtjbjflndiajoiaaGreatDoorLD
import Derived.Test.YtjbjflndiajoiaaGreatDoorWa5
import Derived.Test.YtjbjflndiajoiaaGreatDoorWaDl
set_option maxRecDepth 100000
set_option maxHeartbeats 4000000
set_option linter.unusedVariables false
namespace Go.Pw
open Go.Proofs
attribute [local irreducible] Exec WL W andThen Qax DL QX
theorem Qgs {w0 w : World} {s : PHeap} {H : List Res} {l : System} {j : Int} {ah : Value} {ai : Value} {aj : Value} {r : (List Int) × (Option Int)} (hm : Qaf l j = some r) (hS : St w0 s (H) w) (aD : SliceRep (U .i64) s ah l.Costs) (aE : SliceRep encEdge s ai l.Edges) (aF : SliceRep encBool s aj l.Goals) :
  Calls Tryz.prog 81 #[Value.agg #[O (l.States), O (l.Init), ah, ai, aj], O j] w fun e w' => ∃ v, e = .returned v ∧ ((QI fun (b6 : (List Int)) (b7 : (Option Int)) => ∃ (a2 : PHeap) (aA : Value), PHeap.le s a2 ∧ St w0 a2 (Res.arr (U .i64) 3 aA b6 :: H) w' ∧ v = Value.tuple #[aA, K4 52 (b7)]) r) := by
 unfold Qaf at hm
 refine Qd Tryz.func81 Z Z (G ?_)
 refine Kq Z Z ?_
 intro an cC aS
 obtain ⟨b1, bi, hm⟩ := V hm
 obtain ⟨aC, cX⟩ := b1
 replace hm := Q7 hm
 refine G ?_
 refine Tc Z Z Z Z (Qba bi aS aD aE aF).r ?_
 rintro _ cD ⟨c1, a, ck, aw, rfl⟩
 refine G ?_
 refine Qv (T := 52) Tryz.underlying39 Z Z Z (G ?_)
 rcases Qs hm with ⟨aZ, hm⟩ | ⟨aZ, hm⟩
 ·cases hm
  refine G ?_
  refine ⟨_, QaL Z, ?_⟩
  have ca := aw.nilArr (U .i64) 3
  exact fq
 refine G ?_
 refine Qd2 Z Z Z (G ?_)
 refine QbE Z Z Z ?_
 obtain ⟨cY, bj, hm⟩ := V hm
 refine G ?_
 refine Tc Z Z Z Z (YY bj aw).r ?_
 rintro _ cE ⟨bu, cl, aT, rfl⟩
 obtain ⟨cm, bk, hm⟩ := V hm
 refine G ?_
 refine JJ (E := encBool) aT S56.h Z4 Z Z Z Z bk ?_
 intro aB cF y
 refine G ?_
 refine Q0 (y.f1) S22.h Z Z ?_
 obtain ⟨ab, aH, hm⟩ := V hm
 refine G ?_
 refine QO (fun k' s' f' w' => (fun (ab : (List Bool)) => ∃ (a3 : PHeap) , PHeap.le bu a3 ∧ St w0 a3 (Res.box an 58 [O (l.States), O (l.Init), ah, ai, aj] :: Res.arr (U .i64) 3 a aC :: Res.arr encBool 4 aB ab :: H) w' ∧ Fx f' [(32, O (k' : Int)), (1, O (max 1 (min j 4096))), (2, Vq an), (6, a), (8, aB), (30, a), (31, O ((aC.length : Int)))]) s') aH ?_ ?_ ?_
 ·have cb := y.f1
  exact fq
 ·intro cj ab c2 bF cG bd aK c
  obtain ⟨bv, bh, p, ⟨bG, rfl⟩⟩ := aK
  obtain ⟨cT, x, c⟩ := V c
  obtain ⟨bV, b9, ap⟩ := (p.f1).arr_at x
  refine G ?_
  refine Qa S22.h Z ap Z (Qb x).1 (Qb x).2.1 (G ?_)
  refine Qf (F := (U .i64)) (p.f1) ap A3.h Z Z Z x (Sub.refl _) ?_
  intro c8 bl
  obtain rfl := Qg.1 bl
  obtain ⟨cU, bm, c⟩ := V c
  refine G ?_
  refine Jk Z Z Z bm ?_
  intro b8 c0 aG
  refine G ?_
  refine Zw (E := encBool) p A4.h Z Z Z aG ?_
  intro c9 bn
  obtain rfl := Jc.1 bn
  obtain ⟨cV, af, c⟩ := V c
  obtain ⟨bW, bA, aq⟩ := (p.f2).arr_at af
  refine G ?_
  refine Qa S56.h Z aq Z (Qb af).1 (Qb af).2.1 ?_
  obtain ⟨cn, bo, c⟩ := V c
  refine G ?_
  refine Qx p.f2 aq A4.h Z Z Z Z (Jc.2 Z) bo ?_
  intro cH aU
  cases c
  refine G ?_
  exact ⟨bv, bh, (aU.f2).f2, (Fx.mk (FxL.cons (QM bd (y.f1).arr_le) fxl))⟩
 intro bH cI aL
 obtain ⟨a4, co, aV, ⟨bI, rfl⟩⟩ := aL
 obtain ⟨ao, aI, ci, bf, aY⟩ := Qr hm
 refine Zc (Zd (g ?_))
 refine Zc (YW (Zx (decide_eq_false (by omega))) (Qjp (QcY (QcY (Qf0 (Ze (Zc (Qp (M := fun f' w' => ∃ s', (ao = .next s' ∨ ao = .brk s') ∧ (QI fun (a0 : (List Int)) (a1 : (List Bool)) => ∃ (a5 : PHeap) (ak : Value), PHeap.le a4 a5 ∧ St w0 a5 (Res.arr (U .i64) 3 a a0 :: Res.arr encBool 4 ak a1 :: H) w' ∧ Fx f' [(1, O (max 1 (min j 4096))), (6, a), (8, ak)]) s') ?_ ?_))))))))
 ·refine G ?_
  refine KA (fun s' f' w' => (QI fun (q : (List Int)) (t : (List Bool)) => ∃ (a6 : PHeap) (i : Value), PHeap.le a4 a6 ∧ St w0 a6 (Res.arr (U .i64) 3 a q :: Res.arr encBool 4 i t :: H) w' ∧ Fx f' [(1, O (max 1 (min j 4096))), (6, a), (8, i)]) s') aI ?_ ?_
  ·have cc := aV.drop
   exact fq
  intro b2 bB bJ cJ aM b bg
  obtain ⟨q, t⟩ := b2
  replace b := Q7 b
  obtain ⟨c3, i, cp, ax, ⟨bK, rfl⟩⟩ := aM
  refine G ?_
  refine Q0 (ax.f1) S56.h Z Z (G ?_)
  rcases Qs b with ⟨ba, b⟩ | ⟨ba, b⟩
  ·obtain ⟨b3, bp, b⟩ := V b
   obtain ⟨al, am⟩ := b3
   replace b := Q7 b
   refine G ?_
   refine Tc Z Z Z Z (QfO bp ax.f1).r ?_
   rintro _ cK ⟨bw, cq, z, rfl⟩
   refine G ?_
   refine Q0 (z.f1) S22.h Z Z ?_
   obtain ⟨ac, aJ, b⟩ := V b
   refine G ?_
   refine QO (fun k' s' f' w' => (fun (ac : (List Int)) => ∃ (a7 : PHeap) , PHeap.le bw a7 ∧ St w0 a7 (Res.arr (U .i64) 3 a ac :: Res.arr encBool 4 i t :: H) w' ∧ Fx f' [(57, O (k' : Int)), (1, O (max 1 (min j 4096))), (6, a), (8, i), (11, O al), (12, O am), (55, a), (56, O ((q.length : Int)))]) s') aJ ?_ ?_ ?_
   ·have cd := z.f1
    exact fq
   ·intro aa ac c4 bL cL be aN m
    obtain ⟨bx, cr, u, ⟨bM, rfl⟩⟩ := aN
    obtain ⟨b5, o, m⟩ := V m
    obtain ⟨bX, bC, ar⟩ := u.arr_at o
    refine G ?_
    refine Qa S22.h Z ar Z (Qb o).1 (Qb o).2.1 (G ?_)
    refine Qf (F := (U .i64)) (u) ar A3.h Z Z Z o (Sub.refl _) ?_
    intro cA bq
    obtain rfl := Qg.1 bq
    obtain ⟨ad, n, m⟩ := V m
    refine g ?_
    refine Zc (Zc (Zd (g ?_)))
    refine Qp (M := fun f' w' => (fun (ad : (List Int)) => ∃ (a8 : PHeap) , PHeap.le bx a8 ∧ St w0 a8 (Res.arr (U .i64) 3 a ad :: Res.arr encBool 4 i t :: H) w' ∧ Fx f' [(1, O (max 1 (min j 4096))), (6, a), (8, i), (11, O al), (12, O am), (13, O ((aa : Int))), (14, O b5), (55, a), (56, O ((q.length : Int))), (57, O ((aa : Int)))]) ad) ?_ ?_
    ·rcases Qs n with ⟨bb, n⟩ | ⟨bb, n⟩
     ·obtain ⟨bY, bD, au⟩ := u.arr_at o
      refine G ?_
      refine Qa S22.h Z au Z (Qb o).1 (Qb o).2.1 ?_
      obtain ⟨cs, br, n⟩ := V n
      refine G ?_
      refine Qx u au A3.h Z Z Z Z (Qg.2 Z) br ?_
      intro cM ce
      cases n
      refine G ?_
      exact fq
     cases n
     refine G ?_
     exact fq
    intro bN cN aP
    obtain ⟨bz, ct, ay, ⟨bO, rfl⟩⟩ := aP
    obtain ⟨ae, d, m⟩ := V m
    refine g ?_
    refine Zc (Zd (g ?_))
    refine Qp (M := fun f' w' => (fun (ae : (List Int)) => ∃ (a9 : PHeap) , PHeap.le bz a9 ∧ St w0 a9 (Res.arr (U .i64) 3 a ae :: Res.arr encBool 4 i t :: H) w' ∧ Fx f' [(1, O (max 1 (min j 4096))), (6, a), (8, i), (11, O al), (12, O am), (55, a), (56, O ((q.length : Int))), (57, O ((aa : Int)))]) ae) ?_ ?_
    ·rcases Qs d with ⟨bc, d⟩ | ⟨bc, d⟩
     ·obtain ⟨cW, ag, d⟩ := V d
      obtain ⟨bZ, bE, av⟩ := ay.arr_at ag
      refine G ?_
      refine Qa S22.h Z av Z (Qb ag).1 (Qb ag).2.1 ?_
      obtain ⟨cu, bs, d⟩ := V d
      refine G ?_
      refine Qx ay av A3.h Z Z Z Z (Qg.2 Z) bs ?_
      intro cO cf
      cases d
      refine G ?_
      exact fq
     cases d
     refine G ?_
     exact fq
    intro bP cP aQ
    obtain ⟨b0, cv, aW, ⟨bQ, rfl⟩⟩ := aQ
    cases m
    refine G ?_
    exact ⟨b0, lq, (aW.f1).f1, (Fx.mk (FxL.cons (QM be (z.f1).arr_le) fxl))⟩
   intro bR cQ aO
   obtain ⟨c5, cw, aX, ⟨bS, rfl⟩⟩ := aO
   obtain ⟨cx, bt, b⟩ := V b
   refine G ?_
   refine Tc Z Z Z Z (Qog bt aX.f1).r ?_
   rintro cB cR ⟨c6, _, cy, cg, rfl⟩
   cases b
   refine G ?_
   exact ⟨_, Z, fq⟩
  cases b
  refine G ?_
  exact ⟨_, .inr (bg (by intro _ h; cases h)), fq⟩
 rintro bT cS ⟨b4, az, aR⟩
 have hm := az.elim (bf _) (aY _)
 clear az
 obtain ⟨a0, a1⟩ := b4
 replace hm := Q7 hm
 obtain ⟨c7, ak, cz, ch, ⟨bU, rfl⟩⟩ := aR
 cases hm
 refine G ?_
 refine ⟨_, QaL Z, ?_⟩
 exact fq
instance F73_3 : FTy Tryz.prog 73 3 3 := ⟨by kernel_rfl⟩
theorem Qbb {w0 w : World} {s : PHeap} {H : List Res} {a : (List Int)} {b : Value} {r : Int} (hm : Jj a = some r) (hS : St w0 s (Res.arr (U .i64) 3 b a :: H) w) :
  Calls Tryz.prog 83 #[b] w fun e w' => ∃ v, e = .returned v ∧ ((fun (f : Int) => ∃ (c : PHeap) , PHeap.le s c ∧ St w0 c (Res.arr (U .i64) 3 b a :: H) w' ∧ v = O f) r) := by
 unfold Jj at hm
 refine Qd Tryz.func83 Z Z ?_
 obtain ⟨k, d, hm⟩ := V hm
 refine G ?_
 refine Tc Z Z Z Z (YY d hS).r ?_
 rintro _ j ⟨i, h, g, rfl⟩
 cases hm
 refine G ?_
 exact fr
theorem Qez {w0 w : World} {s : PHeap} {H : List Res} {b : (List Int)} {i : Int} {c : Value} {r : Int × Bool} (hm : Kn b i = some r) (hS : St w0 s (Res.arr (U .i64) 3 c b :: H) w) :
  Calls Tryz.prog 120 #[c, O i] w fun e w' => ∃ v, e = .returned v ∧ ((QI fun (aX : Int) (aY : Bool) => ∃ (ah : PHeap) , PHeap.le s ah ∧ St w0 ah (Res.arr (U .i64) 3 c b :: H) w' ∧ v = Value.tuple #[O aX, Value.bool (aY)]) r) := by
 unfold Kn at hm
 refine Qd Tryz.func120 Z Z (G ?_)
 refine Q0 (hS) S22.h Z Z (G ?_)
 rcases Qs hm with ⟨a7, hm⟩ | ⟨a7, hm⟩
 ·cases hm
  refine G ?_
  refine ⟨_, QaL Z, ?_⟩
  exact fq
 obtain ⟨b2, aM, hm⟩ := V hm
 refine G ?_
 refine JJ (E := encBool) hS S56.h Z4 Z Z Z Z aM ?_
 intro j bO q
 refine G ?_
 refine Q0 (q.f1) S22.h Z Z ?_
 obtain ⟨x, ar, aF, aB, a5⟩ := Qr hm
 refine g ?_
 refine Qp (M := fun f' w' => ∃ s', (x = .next s' ∨ x = .brk s') ∧ (QI fun (m : Int) (ag : (List Bool)) => ∃ (ai : PHeap) , PHeap.le s ai ∧ St w0 ai (Res.arr (U .i64) 3 c b :: Res.arr encBool 4 j ag :: H) w' ∧ Fx f' [(1, O i), (6, j), (7, O m), (18, c), (19, O ((b.length : Int)))]) s') ?_ ?_
 ·refine G ?_
  refine QF (fun k' s' f' w' => (QI fun (n : Int) (l : (List Bool)) => ∃ (aj : PHeap) , PHeap.le s aj ∧ St w0 aj (Res.arr (U .i64) 3 c b :: Res.arr encBool 4 j l :: H) w' ∧ Fx f' [(20, O (k' : Int)), (1, O i), (6, j), (7, O n), (18, c), (19, O ((b.length : Int)))]) s') ar ?_ ?_ ?_
  ·have bu := q.f1
   exact fq
  ·intro aL aU ba be bP aA av a aH
   obtain ⟨n, l⟩ := aU
   replace a := Q7 a
   obtain ⟨ak, b3, t, ⟨bf, rfl⟩⟩ := av
   obtain ⟨p, o, a⟩ := V a
   obtain ⟨bs, bb, aa⟩ := t.arr_at o
   refine G ?_
   refine Qa S22.h Z aa Z (Qb o).1 (Qb o).2.1 (G ?_)
   refine Qf (F := (U .i64)) (t) aa A3.h Z Z Z o (Sub.refl _) ?_
   intro bM aN
   obtain rfl := Qg.1 aN
   refine g ?_
   refine Zc (Zc (Qp (M := fun f' w' => ∃ (al : PHeap) , PHeap.le ak al ∧ St w0 al (Res.arr (U .i64) 3 c b :: Res.arr encBool 4 j l :: H) w' ∧ Fx f' [(1, O i), (6, j), (7, O n), (9, O p), (18, c), (19, O ((b.length : Int))), (20, O ((aL : Int))), (30, Vb (((decide (p < 0)) || decide (i ≤ p))))]) ?_ ?_))
   ·refine G ?_
    rcases tf (decide (p < 0)) with ad | ad
    ·refine G ?_
     exact fq
    refine G ?_
    exact ⟨ak, (Zv _), (t.f1).f1, (Fx.mk (FxL.cons Z (FxL.cons Z (FxL.cons Z (FxL.cons Z (FxL.cons Z (FxL.cons Z (FxL.cons Z (FxL.cons (Zx (QjR ad)).symm fxl)))))))))⟩
   intro bg bQ az
   obtain ⟨aT, b4, ac, ⟨bh, rfl⟩⟩ := az
   refine G ?_
   rcases Qs a with ⟨a8, a⟩ | ⟨a8, a⟩
   ·cases a
    have aD := aF _ (aH (by intro _ h; cases h))
    cases aD
    refine G ?_
    refine ⟨_, QaL Z, ?_⟩
    exact fq
   obtain ⟨bX, u, a⟩ := V a
   obtain ⟨bt, bc, ab⟩ := (ac.f1).arr_at u
   refine G ?_
   refine Qa S56.h Z ab Z (Qb u).1 (Qb u).2.1 ?_
   obtain ⟨b5, aO, a⟩ := V a
   refine G ?_
   refine Qx ac.f1 ab A4.h Z Z Z Z (Jc.2 Z) aO ?_
   intro bR a2
   refine G ?_
   refine QbE Z Z Z ?_
   cases a
   refine G ?_
   refine ⟨_, Z, ?_⟩; exact ⟨aT, lq, a2.f1, (Fx.mk (FxL.cons (QM aA (q.f1).arr_le) fxl))⟩
  intro aV bi bS aw aI
  obtain ⟨n, l⟩ := aV
  obtain ⟨bE, b6, bv, ⟨bj, rfl⟩⟩ := aw
  refine G ?_
  exact ⟨_, .inl aI, fq⟩
 rintro bk bT ⟨aW, ae, a0⟩
 have hm := ae.elim (aB _) (a5 _)
 clear ae
 obtain ⟨m, ag⟩ := aW
 replace hm := Q7 hm
 obtain ⟨bF, b7, a3, ⟨bl, rfl⟩⟩ := a0
 refine G ?_
 obtain ⟨am, b8, bw, aS⟩ := a3.f1.freezeArr
 obtain ⟨y, aP, hm⟩ := V hm
 refine G ?_
 refine Qi8 S56.h Z Z Z aS aP ?_
 intro ap bD
 obtain ⟨z, au, aG, aC, a6⟩ := Qr hm
 refine g ?_
 refine Qp (M := fun f' w' => ∃ s', (z = .next s' ∨ z = .brk s') ∧ (fun (_ : Unit) => ∃ (an : PHeap) , PHeap.le am an ∧ St w0 an (Res.arr (U .i64) 3 c b :: H) w' ∧ Fx f' [(7, O m), (41, ap), (42, O ((y.length : Int)))]) s') ?_ ?_
 ·refine G ?_
  refine QF (fun k' s' f' w' => (fun (_ : Unit) => ∃ (ao : PHeap) , PHeap.le am ao ∧ St w0 ao (Res.arr (U .i64) 3 c b :: H) w' ∧ Fx f' [(43, O (k' : Int)), (7, O m), (41, ap), (42, O ((y.length : Int)))]) s') au ?_ ?_ ?_
  ·exact fq
  ·intro b1 bJ bd bm bU b0 ax d aJ
   obtain ⟨bG, b9, a4, ⟨bn, rfl⟩⟩ := ax
   obtain ⟨bY, aQ, d⟩ := V d
   refine G ?_
   refine Jk Z Z Z aQ ?_
   intro aZ bC aq
   refine G ?_
   refine Zw (E := encBool) a4 A4.h Z Z Z aq ?_
   intro bN aR
   obtain rfl := Jc.1 aR
   refine G ?_
   rcases Qs d with ⟨a9, d⟩ | ⟨a9, d⟩
   ·cases d
    have aE := aG _ (aJ (by intro _ h; cases h))
    cases aE
    refine G ?_
    refine ⟨_, QaL Z, ?_⟩
    exact fq
   cases d
   refine G ?_
   exact ⟨_, Z, fq⟩
  intro bK bo bV ay aK
  obtain ⟨bH, bA, bx, ⟨bp, rfl⟩⟩ := ay
  refine G ?_
  exact ⟨_, .inl aK, fq⟩
 rintro bq bW ⟨bL, af, a1⟩
 have hm := af.elim (aC _) (a6 _)
 clear af
 obtain ⟨bI, bB, bz, ⟨br, rfl⟩⟩ := a1
 cases hm
 refine G ?_
 refine ⟨_, QaL Z, ?_⟩
 exact fq
theorem QeI {w0 w : World} {s : PHeap} {H : List Res} {a : Edge} {b : Edge} {r : Int} (hm : Qb0 a b = some r) (hS : St w0 s (H) w) :
  Calls Tryz.prog 149 #[Value.agg #[O (a.From), O (a.Label), O (a.To)], Value.agg #[O (b.From), O (b.Label), O (b.To)]] w fun e w' => ∃ v, e = .returned v ∧ ((fun (p : Int) => ∃ (d : PHeap) , PHeap.le s d ∧ St w0 d (H) w' ∧ v = O p) r) := by
 unfold Qb0 at hm
 refine Qd Tryz.func149 Z Z (G ?_)
 refine Kq Z Z ?_
 intro q aj x
 refine G ?_
 refine Kq Z Z ?_
 intro t ak f
 refine G ?_
 refine JE (n0 := 17) (qs 0 4 (qs 5 4 (qs 10 4 (.e 4 [5, 6, 7, 8, 10, 11, 12, 13] (.e 9 [10, 11, 12, 13] (.e 14 [] (.e 15 [] (.e 16 [] .done)))))))) JM (by kernel_rfl) (by kernel_rfl) ?_
 have g := f.drew
 refine G ?_
 refine Tc Z Z Z Z (Jq (Je a.From b.From) g).r ?_
 rintro _ al ⟨ae, z, h, rfl⟩
 refine ⟨agq, ?_⟩
 refine G ?_
 refine Tc Z Z Z Z (Jq (Je a.Label b.Label) h).r ?_
 rintro _ am ⟨af, aa, i, rfl⟩
 refine ⟨agq, ?_⟩
 refine G ?_
 refine Tc Z Z Z Z (Jq (Je a.To b.To) i).r ?_
 rintro _ an ⟨ag, ab, j, rfl⟩
 refine ⟨agq, ?_⟩
 refine G ?_
 refine Exec.buildSlice (Te := 3) (cs := [O ((Qj a.From b.From)), O ((Qj a.Label b.Label)), O ((Qj a.To b.To))]) j Z (Qc (c := [O ((Qj a.From b.From))]) (Qe Z Z) (Qc (c := [O ((Qj a.Label b.Label))]) (Qe Z Z) (Qc (c := [O ((Qj a.To b.To))]) (Qe Z Z) Qi))) (fun _ => by kernel_rfl) ?_
 intro u ao k
 refine ⟨agq, ?_⟩
 have l := St.boxArr (E := (U .i64)) (xs := [(Qj a.From b.From), (Qj a.Label b.Label), (Qj a.To b.To)]) k ⟨[O ((Qj a.From b.From))], [O ((Qj a.Label b.Label)), O ((Qj a.To b.To))], rfl, rfl, ⟨[O ((Qj a.Label b.Label))], [O ((Qj a.To b.To))], rfl, rfl, ⟨[O ((Qj a.To b.To))], [], rfl, rfl, rfl⟩⟩⟩ (by simp [maxLen])
 obtain ⟨ah, ac, m, o⟩ := l.freezeArr
 obtain ⟨aq, n, hm⟩ := V hm
 refine G ?_
 refine Tc Z Z Z Z (Qcm n m o).r ?_
 rintro _ ap ⟨ai, ad, y, rfl⟩
 refine ⟨agq, ?_⟩
 cases hm
 refine G ?_
 exact fr
end Go.Pw
