/- -/
import Derived.Test.YtjbjflndiajoiaaGreatDoorLC
import Derived.Test.YtjbjflndiajoiaaGreatDoorLD
import Derived.Test.YtjbjflndiajoiaaGreatDoorWa4
import Derived.Test.YtjbjflndiajoiaaGreatDoorWaY
set_option maxRecDepth 100000
set_option maxHeartbeats 4000000
set_option linter.unusedVariables false
namespace Go.Pw
open Go.Proofs
attribute [local irreducible] Exec WL W andThen Qax DL QX
instance A232 : ATy Tryz.prog 232 true 2 := ⟨by kernel_rfl⟩
theorem Qpu : Qhm Tryz.prog 232 2 = true := by kernel_rfl
theorem Qav {w0 w : World} {s : PHeap} {H : List Res} {t : (List Arr2_int)} {b : Value} {r : Nat × (List Arr2_int)} (hm : Jp t = some r) (hS : St w0 s (Res.arr encArr2_int 232 b t :: H) w) :
  Calls Tryz.prog 148 #[b] w fun e w' => ∃ v, e = .returned v ∧ ((QI fun (bt : Nat) (bd : (List Arr2_int)) => ∃ (a5 : PHeap) (aC : Value), PHeap.le s a5 ∧ St w0 a5 (Res.arr encArr2_int 232 b bd :: H) w' ∧ v = aC ∧ SubOf 2 b aC 0 bt) r) := by
 unfold Jp at hm
 refine Qd Tryz.func148 Z Z (G ?_)
 refine Q0 (hS) S231.h Z Z (G ?_)
 rcases Qs hm with ⟨an, hm⟩ | ⟨an, hm⟩
 ·cases hm
  refine G ?_
  refine ⟨_, KR Z, ?_⟩
  exact ⟨s, b, (Zv _), hS, Z, (Or.inl ⟨Z, Z, hS.arr_shape⟩)⟩
 obtain ⟨ac, aK, bb, aY, aS⟩ := Qr hm
 refine W_c Z an (Qa4 (Jt (Ze (Zc (Zc (Zd (g ?_)))))))
 refine Qp (M := fun f' w' => ∃ s', (ac = .next s' ∨ ac = .brk s') ∧ (fun (ar : Int) => ∃ (a6 : PHeap) , PHeap.le s a6 ∧ St w0 a6 (Res.arr encArr2_int 232 b t :: H) w' ∧ Fx f' [(0, b), (3, O ar)]) s') ?_ ?_
 ·refine G ?_
  refine KA (fun s' f' w' => (fun (au : Int) => ∃ (a7 : PHeap) , PHeap.le s a7 ∧ St w0 a7 (Res.arr encArr2_int 232 b t :: H) w' ∧ Fx f' [(0, b), (3, O au)]) s') aK ?_ ?_
  ·exact fq
  intro au aH b5 cc aM a aq
  obtain ⟨aa, be, u, ⟨b6, rfl⟩⟩ := aM
  refine G ?_
  refine Q0 (u) S231.h Z Z (G ?_)
  rcases Qs a with ⟨aU, a⟩ | ⟨aU, a⟩
  ·refine G ?_
   refine JE (n0 := 10) (qs 0 10 .done) JM (by kernel_rfl) (by kernel_rfl) ?_
   have j := u.drew
   obtain ⟨aD, l, a⟩ := V a
   obtain ⟨bF, bu, ae⟩ := j.arr_at l
   refine G ?_
   refine Qa S231.h Z ae Z (Qb l).1 (Qb l).2.1 ⟨Z, ?_⟩
   refine G ?_
   refine Qf (F := encArr2_int) (j) ae A232.h Z Z Z l (Sub.refl _) ?_
   intro bW bg
   obtain rfl := K7.1 bg
   refine ⟨Z, ?_⟩
   obtain ⟨aE, m, a⟩ := V a
   obtain ⟨bG, bv, af⟩ := j.arr_at m
   refine G ?_
   refine Qa S231.h Z af Z (Qb m).1 (Qb m).2.1 ⟨Z, ?_⟩
   refine G ?_
   refine Qf (F := encArr2_int) (j) af A232.h Z Z Z m (Sub.refl _) ?_
   intro bX bh
   obtain rfl := K7.1 bh
   refine ⟨Z, ?_⟩
   refine G ?_
   refine QjN (xs := [aD.a0, aD.a1]) (ys := [aE.a0, aE.a1]) Qpu Z Z Z Z Z Z Z ⟨Z, ?_⟩
   refine G ?_
   rcases Qs a with ⟨aV, a⟩ | ⟨aV, a⟩
   ·obtain ⟨bS, n, a⟩ := V a
    refine G ?_
    refine Yn (j) S231.h Z Z Z n ?_
    intro ab k
    obtain ⟨ad, aL, bN, aZ, aT⟩ := Qr a
    refine g ?_
    refine Zc (Zc (Zd (g ?_)))
    refine Qp (M := fun f' w' => ∃ s', (ad = .next s' ∨ ad = .brk s') ∧ (un3 fun (av : Int) (aw : Int) (az : (List Arr2_int)) => ∃ (a8 : PHeap) , PHeap.le aa a8 ∧ St w0 a8 (Res.arr encArr2_int 232 b az :: H) w' ∧ Fx f' [(0, b), (3, O av), (4, ab), (5, O aw)]) s') ?_ ?_
    ·refine G ?_
     refine KA (fun s' f' w' => (un3 fun (ax : Int) (x : Int) (a2 : (List Arr2_int)) => ∃ (a9 : PHeap) , PHeap.le aa a9 ∧ St w0 a9 (Res.arr encArr2_int 232 b a2 :: H) w' ∧ Fx f' [(0, b), (3, O ax), (4, ab), (5, O x)]) s') aL ?_ ?_
     ·exact fq
     intro bq bw b7 cd aN c bc
     obtain ⟨ax, x, a2⟩ := bq
     replace c := QaM c
     obtain ⟨bn, bO, aR, ⟨b8, rfl⟩⟩ := aN
     refine G ?_
     refine Qbr S231.h k Z Z (G ?_)
     rcases Qs c with ⟨aW, c⟩ | ⟨aW, c⟩
     ·refine G ?_
      refine JE (n0 := 10) (qs 0 10 .done) JM (by kernel_rfl) (by kernel_rfl) ?_
      have i := aR.drew
      obtain ⟨aF, o, c⟩ := V c
      obtain ⟨bH, bx, ag⟩ := i.arr_at (QB o).2.2
      refine G ?_
      refine JQ S231.h (KV n).1 k ag Z Z Z (QB o).1 (QB o).2.1 ⟨Z, ?_⟩
      refine G ?_
      refine Qf (F := encArr2_int) (i) ag A232.h Z Z Z (QB o).2.2 (Sub.refl _) ?_
      intro bY bi
      obtain rfl := K7.1 bi
      refine ⟨Z, ?_⟩
      obtain ⟨aG, p, c⟩ := V c
      obtain ⟨bI, bz, ah⟩ := i.arr_at (QB p).2.2
      refine G ?_
      refine JQ S231.h (KV n).1 k ah Z Z Z (QB p).1 (QB p).2.1 ⟨Z, ?_⟩
      refine G ?_
      refine Qf (F := encArr2_int) (i) ah A232.h Z Z Z (QB p).2.2 (Sub.refl _) ?_
      intro bZ bj
      obtain rfl := K7.1 bj
      refine ⟨Z, ?_⟩
      refine G ?_
      refine QjM (xs := [aF.a0, aF.a1]) (ys := [aG.a0, aG.a1]) Qpu Z Z Z Z Z Z Z ⟨Z, ?_⟩
      obtain ⟨aB, d, c⟩ := V c
      refine g ?_
      refine Qp (M := fun f' w' => (QI fun (ay : Int) (a3 : (List Arr2_int)) => ∃ (aA : PHeap) , PHeap.le bn aA ∧ St w0 aA (Res.arr encArr2_int 232 b a3 :: H) w' ∧ Fx f' [(0, b), (3, O ay), (4, ab), (5, O x)]) aB) ?_ ?_
      ·rcases Qs d with ⟨aX, d⟩ | ⟨aX, d⟩
       ·obtain ⟨cj, q, d⟩ := V d
        obtain ⟨bJ, b0, ai⟩ := i.arr_at (QB q).2.2
        refine G ?_
        refine JQ S231.h (KV n).1 k ai Z Z Z (QB q).1 (QB q).2.1 (G ?_)
        refine Qf (F := encArr2_int) (i) ai A232.h Z Z Z (QB q).2.2 (Sub.refl _) ?_
        intro ca bk
        obtain rfl := K7.1 bk
        obtain ⟨ck, z, d⟩ := V d
        obtain ⟨bK, b1, aj⟩ := i.arr_at z
        refine G ?_
        refine Qa S231.h Z aj Z (Qb z).1 (Qb z).2.1 ?_
        obtain ⟨bP, bl, d⟩ := V d
        refine G ?_
        refine Qx i aj A232.h Z Z Z Z (K7.2 Z) bl ?_
        intro ce bL
        cases d
        refine G ?_
        exact fq
       cases d
       refine G ?_
       exact fq
      intro b9 cf aO
      obtain ⟨ay, a3⟩ := aB
      replace c := Q7 c
      obtain ⟨bV, bQ, bM, ⟨bA, rfl⟩⟩ := aO
      cases c
      refine G ?_
      exact ⟨_, Z, fq⟩
     cases c
     refine G ?_
     exact ⟨_, .inr (bc (by intro _ h; cases h)), fq⟩
    rintro bB cg ⟨br, ao, aP⟩
    have a := ao.elim (aZ _) (aT _)
    clear ao
    obtain ⟨av, aw, az⟩ := br
    replace a := QaM a
    obtain ⟨bo, bR, ak, ⟨bC, rfl⟩⟩ := aP
    obtain ⟨bT, a4, a⟩ := V a
    refine G ?_
    refine Yn (ak) S231.h Z Z Z a4 ?_
    intro cb aI
    refine G ?_
    refine Qbz (E := encArr2_int) (y := (⟨0, 0⟩ : Arr2_int)) ak aI (KV a4).2.2.2.2.2 S231.h Qp8 ⟨[O 0], [O 0], Z, Z, Z⟩ Z Z ?_
    intro ch al
    obtain ⟨bU, bm, a⟩ := V a
    refine G ?_
    refine QaY (al) S231.h Z Z Z bm ?_
    intro bs aJ
    cases a
    have ba := bb _ (aq (by intro _ h; cases h))
    have b2 := Zu ba
    subst r
    refine G ?_
    refine ⟨_, KR Z, ?_⟩
    exact ⟨bo, bs, lq, al, Z, aJ⟩
   cases a
   refine G ?_
   exact ⟨_, Z, fq⟩
  have b3 := Zu a
  subst aH
  refine G ?_
  refine ⟨_, .inr (aq (by intro _ h; cases h)), ?_⟩; exact ⟨aa, be, u, (Fx.mk)⟩
 rintro bD ci ⟨ar, ap, aQ⟩
 have hm := ap.elim (aY _) (aS _)
 clear ap
 obtain ⟨bp, bf, am, ⟨bE, rfl⟩⟩ := aQ
 have b4 := Zu hm
 subst r
 refine G ?_
 refine ⟨_, KR Z, ?_⟩
 exact ⟨bp, b, bf, am, Z, (Or.inl ⟨Z, Z, am.arr_shape⟩)⟩
theorem QeH {w0 w : World} {s : PHeap} {H : List Res} {j : System} {p : (List Int)} {ap : Value} {ah : Value} {aq : Value} {i : Value} {r : (List Int) × Int} (hm : Yd j p = some r) (hS : St w0 s (Res.arr (U .i64) 3 i p :: H) w) (bT : SliceRep (U .i64) s ap j.Costs) (bU : SliceRep encEdge s ah j.Edges) (bV : SliceRep encBool s aq j.Goals) :
  Calls Tryz.prog 119 #[Value.agg #[O (j.States), O (j.Init), ap, ah, aq], i] w fun e w' => ∃ v, e = .returned v ∧ ((QI fun (bQ : (List Int)) (bR : Int) => ∃ (aH : PHeap) (aL : Value), PHeap.le s aH ∧ St w0 aH (Res.arr (U .i64) 3 i p :: Res.arr (U .i64) 3 aL bQ :: H) w' ∧ v = Value.tuple #[aL, O bR]) r) := by
 unfold Yd at hm
 refine Qd Tryz.func119 Z Z (G ?_)
 refine Kq Z Z ?_
 intro ar d1 aW
 obtain ⟨cH, br, hm⟩ := V hm
 refine G ?_
 refine Qbx (F := encArr2_int) (T2 := 232) aW S230.h QqO Z Z Z br ?_
 intro m cD d2 aX
 obtain ⟨z, aN, hm⟩ := V hm
 refine G ?_
 refine QO (fun k' s' f' w' => (fun (z : (List (List Arr2_int))) => ∃ (aI : PHeap) (l : List Value), PHeap.le s aI ∧ St w0 aI (Res.arr (U .i64) 3 i p :: Res.box ar 58 [O (j.States), O (j.Init), ap, ah, aq] :: Res.arr encRaw 231 m l :: Res.rows encArr2_int 232 l z :: H) w' ∧ Fx f' [(21, O (k' : Int)), (1, i), (2, Vq ar), (6, m), (19, ah), (20, O ((j.Edges.length : Int)))]) s') aN ?_ ?_ ?_
 ·have c5 := aX.f2
  exact fq
 ·intro cF z dj ck d3 cC aQ d
  obtain ⟨dk, l, cI, a1, ⟨cl, rfl⟩⟩ := aQ
  obtain ⟨n, bs, d⟩ := V d
  refine G ?_
  refine Jk Z Z Z bs ?_
  intro bW dd aM
  refine G ?_
  refine Zw (E := encEdge) a1 A100.h Z Z Z aM ?_
  intro dv bt
  obtain rfl := Jz.1 bt
  refine G ?_
  refine Exec.alloc (cs := [O 0, O 0, O 0]) a1 QeW Z Z ?_
  intro bX d4 c6
  refine G ?_
  refine KJ Z Z Z ?_
  intro d5 aY
  refine G ?_
  refine JE (n0 := 18) (qs 0 16 (.e 16 [0, 1, 2, 3, 4, 5, 6, 7] (.e 17 [0, 1, 2] .done))) JM (by kernel_rfl) (by kernel_rfl) ?_
  have x := aY.drew
  obtain ⟨df, a7, d⟩ := V d
  obtain ⟨c3, g, av, _⟩ := (((x.f4).f4).f1).rows_at a7
  obtain ⟨cx, ca, t⟩ := ((x.f4).f4).arr_at g
  refine G ?_
  refine Qa S230.h Z t Z (Qb g).1 (Qb g).2.1 ⟨Z, ?_⟩
  refine G ?_
  refine Qf (F := encRaw) ((x.f4).f4) t A231.h Z Z Z g (Sub.refl _) ?_
  intro bN a8
  replace a8 := (K5.1 a8).1
  subst bN
  refine ⟨Z, ?_⟩
  obtain ⟨o, ae, d⟩ := V d
  obtain ⟨cy, cb, aw⟩ := (x.f1).arr_at ae
  refine G ?_
  refine Qa S22.h Z aw Z (Qb ae).1 (Qb ae).2.1 ⟨Z, ?_⟩
  refine G ?_
  refine Qf (F := (U .i64)) (x.f1) aw A3.h Z Z Z ae (Sub.refl _) ?_
  intro dw bu
  obtain rfl := Qg.1 bu
  refine ⟨Z, ?_⟩
  refine G ?_
  refine Exec.build Z (Qc (c := [O (n.Label)]) (Qe Z Z) (Qc (c := [O o]) (Qe Z Z) Qi)) (v := Value.agg #[O (n.Label), O o]) (fun _ => by kernel_rfl) ⟨Z, ?_⟩
  refine G ?_
  refine Exec.buildSlice (Te := 232) (cs := [O (n.Label), O o]) x Z (Qc (c := [O (n.Label), O o]) (Qe Z Z) Qi) (fun _ => by kernel_rfl) ?_
  intro bY d6 ab
  refine ⟨(Qh (Q1 Z Z (Zm (v := m) Z Z ⟨Z, Z⟩)) (Qh (Q1 Z Z (Zp F100_0.h Z Z Z ⟨Z, Z⟩)) (Qh (Q1 Z Z (Zn (ab.f1) A3.h Z Z Z ⟨Z, Z⟩)) (Qh (Q1 Z Z (Zm (v := m) Z Z ⟨Z, Z⟩)) (Qh (Q1 Z Z (Zp F100_0.h Z Z Z ⟨Z, Z⟩)) (Qh (Q1 Z Z (Zn (ab.f1) A3.h Z Z Z ⟨Z, Z⟩)) (Qh (Q1 Z Z (Qa S230.h Z t Z (Qb g).1 (Qb g).2.1 ⟨Z, Z⟩)) (Qh (Q1 Z Z (Qf (F := encRaw) ((ab.f5).f5) t A231.h Z Z Z g (Sub.refl _) (fun _ q => ⟨Z, (K5.1 q).1⟩))) J5)))))))), ?_⟩
  have aZ := (((ab.f5).f5).f1).rows_split av (Qb a7).2.2
  obtain ⟨cJ, bv, d⟩ := V d
  refine G ?_
  refine Q5 (E := encArr2_int) (ys := [(⟨n.Label, o⟩ : Arr2_int)]) (aZ.f3).f1 S231.h Qp8 Z (by decide) Z Z Z Z ⟨[O (n.Label), O o], [], Z, ⟨[O (n.Label)], [O o], Z, Z, Z⟩, Z⟩ Z bv ?_
  intro dx d7 ba
  refine ⟨agq, ?_⟩
  refine G ?_
  refine Qa S230.h Z t Z (Qb g).1 (Qb g).2.1 ?_
  obtain ⟨cK, bw, d⟩ := V d
  refine G ?_
  refine Qbw ((ba.f2).f2).f2 av t A231.h Z Z Z Z bw ?_
  intro cE d8 c7
  cases d
  refine G ?_
  exact fq
 intro cm d9 aR
 obtain ⟨bE, l, cL, bb, ⟨cn, rfl⟩⟩ := aR
 obtain ⟨cM, bx, hm⟩ := V hm
 refine G ?_
 refine JJ (E := encStr) bb S198.h Z9 Z Z Z Z bx ?_
 intro ai dA y
 refine G ?_
 refine QiB ((y.f4).f4) ((y.f4).f4).f1.rows_len S230.h Z Z ?_
 obtain ⟨bJ, aO, hm⟩ := V hm
 refine G ?_
 refine QO (fun k' s' f' w' => (QI fun (ad : (List ByteArray)) (am : (List (List Arr2_int))) => ∃ (aJ : PHeap) , PHeap.le bE aJ ∧ St w0 aJ (Res.arr (U .i64) 3 i p :: Res.arr encStr 9 ai ad :: Res.arr encRaw 231 m l :: Res.rows encArr2_int 232 l am :: H) w' ∧ Fx f' [(50, O (k' : Int)), (1, i), (9, ai), (48, m), (49, O ((z.length : Int)))]) s') aO ?_ ?_ ?_
 ·have c8 := (y.f2).drop
  exact fq
 ·intro a6 bK bF co dB bo aS a
  obtain ⟨ad, am⟩ := bK
  replace a := Q7 a
  obtain ⟨dl, cN, ac, ⟨cp, rfl⟩⟩ := aS
  obtain ⟨dg, a9, a⟩ := V a
  obtain ⟨c4, aa, u, _⟩ := (((ac.f3).f3).f1).rows_at a9
  obtain ⟨cz, cc, ax⟩ := ((ac.f3).f3).arr_at aa
  refine G ?_
  refine Qa S230.h Z ax Z (Qb aa).1 (Qb aa).2.1 (G ?_)
  refine Qf (F := encRaw) ((ac.f3).f3) ax A231.h Z Z Z aa (Sub.refl _) ?_
  intro bO aA
  replace aA := (K5.1 aA).1
  subst bO
  refine G ?_
  have bc := (((ac.f3).f3).f1).rows_split u (Qb a9).2.2
  obtain ⟨cO, bz, a⟩ := V a
  refine G ?_
  refine Tc Z Z Z Z (Qiv bz bc).r ?_
  rintro _ dC ⟨dm, cP, bd, rfl⟩
  obtain ⟨cQ, aB, a⟩ := V a
  have a2 := (((bd.f2).f2).f2).rows_back u (QaU aB).2.1
  rw [← (QaU aB).2.2] at a2
  refine G ?_
  refine Exec.alloc (cs := [Vp none, Vn]) a2.f1 Qqf Z Z ?_
  intro au dD be
  have aj := St.bld_close (.inl rfl) ((QgF (E := U .u8) (Te := 5) be).perm (.swap _ _ _))
  obtain ⟨dS, af, a⟩ := V a
  obtain ⟨c0, cd, ay⟩ := (aj.f3).arr_at af
  refine G ?_
  refine Qa S22.h Z ay Z (Qb af).1 (Qb af).2.1 (G ?_)
  refine Qf (F := (U .i64)) (aj.f3) ay A3.h Z Z Z af (Sub.refl _) ?_
  intro dy b0
  obtain rfl := Qg.1 b0
  obtain ⟨dV, b1, a⟩ := V a
  refine G ?_
  refine Tc Z Z Z Z (Kk b1 aj).r ?_
  rintro _ dE ⟨dn, cR, bf, rfl⟩
  obtain ⟨cS, b2, a⟩ := V a
  refine G ?_
  refine Tc Z Z Z Z (YT b2 bf).r ?_
  rintro _ dF ⟨rfl, bg⟩
  obtain ⟨dh, b3, a⟩ := V a
  refine G ?_
  have bh := (((bg.f2).f2).f1).rows_split u (Qb b3).2.2
  obtain ⟨bL, b4, a⟩ := V a
  obtain ⟨bS, cT⟩ := bL
  replace a := Q7 a
  refine G ?_
  refine Tc Z Z Z Z (Qav b4 bh).r ?_
  rintro bP dG ⟨bG, _, cU, bi, rfl, aG⟩
  obtain ⟨bq, aC, a⟩ := V a
  have a3 := (((bi.f2).f2).f2).rows_back u (QaU aC).2.1
  rw [← (QaU aC).2.2] at a3
  refine G ?_
  refine Qbr S231.h aG Z Z ?_
  obtain ⟨du, b5, a⟩ := V a
  obtain ⟨an, aP, a⟩ := V a
  refine G ?_
  refine QO (fun k' s' f' w' => (fun (an : (List Int)) => ∃ (aK : PHeap) , PHeap.le bG aK ∧ St w0 aK (Res.arr (U .i64) 3 i p :: Res.arr encStr 9 ai ad :: Res.bld 173 5 au an :: Res.arr encRaw 231 m l :: Res.rows encArr2_int 232 l bq :: H) w' ∧ Fx f' [(66, O (k' : Int)), (1, i), (9, ai), (10, O ((a6 : Int))), (12, Vq au), (48, m), (49, O ((z.length : Int))), (50, O ((a6 : Int))), (64, bP), (65, O ((bS : Int)))]) s') aP ?_ ?_ ?_
  ·have c9 := (a3.f1).f2
   exact fq
  ·intro cG an dp cq dH bp aT b
   obtain ⟨dq, cV, ak, ⟨cr, rfl⟩⟩ := aT
   obtain ⟨di, aD, b⟩ := V b
   obtain ⟨dT, ag, b⟩ := V b
   obtain ⟨c1, ce, az⟩ := ((((ak.f4).f4).f1).rows_split u (Qb aD).2.2).arr_at (QB ag).2.2
   refine G ?_
   refine JQ S231.h (Int.le_refl 0) aG az Z Z Z (QB ag).1 (QB ag).2.1 (G ?_)
   refine Qf (F := encArr2_int) ((((ak.f4).f4).f1).rows_split u (Qb aD).2.2) az A232.h Z Z Z (QB ag).2.2 (Sub.refl _) ?_
   intro dz b6
   obtain rfl := K7.1 b6
   refine G ?_
   refine Exec.alloc (cs := [O 0, O 0]) ak Qp8 Z Z ?_
   intro bZ dI cA
   refine G ?_
   refine KJ Z Z Z ?_
   intro dJ al
   refine G ?_
   refine JE (n0 := 10) (.q 0 (.q 1 (.q 5 (.q 6 (.e 2 [5, 6] (.q 3 (.q 4 (.e 7 [3, 4] (.q 8 (.e 9 [] .done)))))))))) JM (by kernel_rfl) (by kernel_rfl) (G ?_)
   refine JV Tryz.underlying232 A3.h Z Z Z (by decide) Z ⟨Z, ?_⟩
   refine G ?_
   refine Zn (al.drew) A3.h Z Z Z ⟨Z, ?_⟩
   refine G ?_
   refine JV Tryz.underlying232 A3.h Z Z Z (by decide) Z ⟨Z, ?_⟩
   refine G ?_
   refine Zn (al.drew) A3.h Z Z Z ⟨Z, ?_⟩
   obtain ⟨dW, b7, b⟩ := V b
   refine G ?_
   refine Tc Z Z Z Z (Kk b7 al.drew).r ?_
   rintro _ dK ⟨dr, cW, a4, rfl⟩
   refine ⟨(Qh (Q1 Z Z (JV Tryz.underlying232 A3.h Z Z Z (by decide) Z ⟨Z, Z⟩)) (Qh (Q1 Z Z (Zn (a4) A3.h Z Z Z ⟨Z, Z⟩)) J5)), ?_⟩
   obtain ⟨cf, aE, b⟩ := V b
   refine G ?_
   refine J2 Z Z Z aE ⟨Z, ?_⟩
   obtain ⟨cg, aF, b⟩ := V b
   refine G ?_
   refine J2 Z Z Z aF ⟨Z, ?_⟩
   obtain ⟨dX, b8, b⟩ := V b
   refine G ?_
   refine Tc Z Z Z Z (Kk b8 a4).r ?_
   rintro _ dL ⟨bH, cX, bj, rfl⟩
   refine ⟨(Qh (Q1 Z Z (J2 Z Z Z aE ⟨Z, Z⟩)) (Qh (Q1 Z Z (J2 Z Z Z aF ⟨Z, Z⟩)) J5)), ?_⟩
   obtain ⟨ch, b9, b⟩ := V b
   refine G ?_
   refine J2 Z Z Z b9 ⟨Z, ?_⟩
   obtain ⟨cY, bA, b⟩ := V b
   refine G ?_
   refine Tc Z Z Z Z (YT bA bj.f3).r ?_
   rintro _ dM ⟨rfl, bk⟩
   refine ⟨agq, ?_⟩
   cases b
   refine G ?_
   exact ⟨bH, lq, ((((((bk.f1).drop).f4).f4).f2).f4).f4, (Fx.mk (FxL.cons (QM bp (by have h := Ql b5; simp at h; simp only [maxLen]; omega)) fxl))⟩
  intro ct dN aU
  obtain ⟨bI, cZ, bl, ⟨cu, rfl⟩⟩ := aU
  obtain ⟨de, bB, a⟩ := V a
  refine G ?_
  refine Tc Z Z Z Z (Qeu bB bl.f2).r ?_
  rintro _ dO ⟨rfl, a5⟩
  obtain ⟨dU, ao, a⟩ := V a
  obtain ⟨c2, ci, a0⟩ := (a5.f1).arr_at ao
  refine G ?_
  refine Qa S198.h Z a0 Z (Qb ao).1 (Qb ao).2.1 ?_
  obtain ⟨da, bC, a⟩ := V a
  refine G ?_
  refine Qx a5.f1 a0 A9.h Z Z Z Z (Qff.2 Z) bC ?_
  intro dP bm
  have cj := Zu a
  subst bF
  refine G ?_
  exact ⟨bI, lq, (((bm.f3).f3).f2).f3, (Fx.mk (FxL.cons (QM bo (by have h := ((y.f4).f4).f1.rows_len; have h2 := ((y.f4).f4).arr_le; omega)) fxl))⟩
 intro cv dQ aV
 obtain ⟨ad, am⟩ := bJ
 replace hm := Q7 hm
 obtain ⟨ds, db, bn, ⟨cw, rfl⟩⟩ := aV
 obtain ⟨bM, bD, hm⟩ := V hm
 obtain ⟨dY, dZ⟩ := bM
 replace hm := Q7 hm
 refine G ?_
 refine Tc Z Z Z Z (QbB bD bn.f1).r ?_
 rintro _ dR ⟨dt, d0, dc, cB, rfl⟩
 cases hm
 refine G ?_
 refine ⟨_, QaL Z, ?_⟩
 exact fq
theorem Qba {w0 w : World} {s : PHeap} {H : List Res} {a : System} {j : Value} {l : Value} {i : Value} {r : (List Int) × (Option Int)} (hm : JK a = some r) (hS : St w0 s (H) w) (al : SliceRep (U .i64) s j a.Costs) (am : SliceRep encEdge s l a.Edges) (an : SliceRep encBool s i a.Goals) :
  Calls Tryz.prog 82 #[Value.agg #[O (a.States), O (a.Init), j, l, i]] w fun e w' => ∃ v, e = .returned v ∧ ((QI fun (aM : (List Int)) (aN : (Option Int)) => ∃ (ae : PHeap) (aj : Value), PHeap.le s ae ∧ St w0 ae (Res.arr (U .i64) 3 aj aM :: H) w' ∧ v = Value.tuple #[aj, K4 52 (aN)]) r) := by
 unfold JK at hm
 refine Qd Tryz.func82 Z Z (G ?_)
 refine Kq Z Z ?_
 intro d b4 ax
 obtain ⟨bG, a9, hm⟩ := V hm
 refine G ?_
 refine Tc Z Z Z Z (Yb a9 ax al am an).r ?_
 rintro _ b5 ⟨aG, bi, y, rfl⟩
 refine G ?_
 rcases Qs hm with ⟨a3, hm⟩ | ⟨a3, hm⟩
 ·refine G ?_
  refine Exec.makeInterface C52 Z Z ?_
  cases hm
  refine G ?_
  refine ⟨_, QaL Z, ?_⟩
  have ba := y.nilArr (U .i64) 3
  exact fq
 obtain ⟨bj, aA, hm⟩ := V hm
 refine G ?_
 refine JJ (E := encStr) y S198.h Z9 Z Z Z Z aA ?_
 intro ak b6 ay
 obtain ⟨m, ap, hm⟩ := V hm
 refine G ?_
 refine QO (fun k' s' f' w' => (fun (m : (List ByteArray)) => ∃ (af : PHeap) , PHeap.le aG af ∧ St w0 af (Res.box d 58 [O (a.States), O (a.Init), j, l, i] :: Res.arr encStr 9 ak m :: H) w' ∧ Fx f' [(21, O (k' : Int)), (1, Vq d), (4, ak), (19, i), (20, O ((a.Goals.length : Int)))]) s') ap ?_ ?_ ?_
 ·have bb := ay.f1
  exact fq
 ·intro bh m bt aR b7 bg ar c
  obtain ⟨bu, bk, z, ⟨aS, rfl⟩⟩ := ar
  obtain ⟨aL, aB, c⟩ := V c
  refine G ?_
  refine Jk Z Z Z aB ?_
  intro aO bs ao
  refine G ?_
  refine Zw (E := encBool) z A4.h Z Z Z ao ?_
  intro b1 aC
  obtain rfl := Jc.1 aC
  refine G ?_
  refine Tc Z Z Z Z (QdO (Qb3 aL) z).r ?_
  rintro _ b8 ⟨bv, bl, aa, rfl⟩
  obtain ⟨bF, n, c⟩ := V c
  obtain ⟨aZ, aP, x⟩ := (aa.f1).arr_at n
  refine G ?_
  refine Qa S198.h Z x Z (Qb n).1 (Qb n).2.1 ?_
  obtain ⟨bm, aD, c⟩ := V c
  refine G ?_
  refine Qx aa.f1 x A9.h Z Z Z Z (Qff.2 Z) aD ?_
  intro b9 bc
  cases c
  refine G ?_
  exact fq
 intro aT bA au
 obtain ⟨bw, bn, az, ⟨aU, rfl⟩⟩ := au
 obtain ⟨aH, aE, hm⟩ := V hm
 obtain ⟨bH, bI⟩ := aH
 replace hm := Q7 hm
 refine G ?_
 refine Tc Z Z Z Z (QbB aE az.f1).r ?_
 rintro _ bB ⟨ag, b2, bo, a0, rfl⟩
 obtain ⟨q, aq, a7, a5, a2⟩ := Qr hm
 refine g ?_
 refine Qp (M := fun f' w' => ∃ s', (q = .next s' ∨ q = .brk s') ∧ (QI fun (t : (List Int)) (ac : Int) => ∃ (ah : PHeap) (o : Value), PHeap.le ag ah ∧ St w0 ah (Res.box d 58 [O (a.States), O (a.Init), j, l, i] :: Res.arr (U .i64) 3 o t :: H) w' ∧ Fx f' [(1, Vq d), (7, o), (8, O ac)]) s') ?_ ?_
 ·refine G ?_
  refine KA (fun s' f' w' => (QI fun (u : (List Int)) (ad : Int) => ∃ (ai : PHeap) (p : Value), PHeap.le ag ai ∧ St w0 ai (Res.box d 58 [O (a.States), O (a.Init), j, l, i] :: Res.arr (U .i64) 3 p u :: H) w' ∧ Fx f' [(1, Vq d), (7, p), (8, O ad)]) s') aq ?_ ?_
  ·have bd := a0.drop
   exact fq
  intro aI aQ aV bC av b a8
  obtain ⟨u, ad⟩ := aI
  replace b := Q7 b
  obtain ⟨bx, p, bp, a1, ⟨aW, rfl⟩⟩ := av
  obtain ⟨aJ, aF, b⟩ := V b
  obtain ⟨bJ, bK⟩ := aJ
  replace b := Q7 b
  refine G ?_
  refine Tc Z Z Z Z (QeH aF a1.f1 rq rq rq).r ?_
  rintro _ bD ⟨bz, b3, bq, be, rfl⟩
  refine G ?_
  rcases Qs b with ⟨a4, b⟩ | ⟨a4, b⟩
  ·cases b
   have a6 := a7 _ (a8 (by intro _ h; cases h))
   cases a6
   refine G ?_
   refine ⟨_, QaL Z, ?_⟩
   exact fq
  cases b
  refine G ?_
  exact ⟨_, Z, fq⟩
 rintro aX bE ⟨aK, ab, aw⟩
 have hm := ab.elim (a5 _) (a2 _)
 clear ab
 obtain ⟨t, ac⟩ := aK
 replace hm := Q7 hm
 obtain ⟨b0, o, br, bf, ⟨aY, rfl⟩⟩ := aw
 refine ?_
 cases hm
theorem YY {w0 w : World} {s : PHeap} {H : List Res} {c : (List Int)} {b : Value} {r : Int} (hm : Js c = some r) (hS : St w0 s (Res.arr (U .i64) 3 b c :: H) w) :
  Calls Tryz.prog 114 #[b] w fun e w' => ∃ v, e = .returned v ∧ ((fun (ar : Int) => ∃ (y : PHeap) , PHeap.le s y ∧ St w0 y (Res.arr (U .i64) 3 b c :: H) w' ∧ v = O ar) r) := by
 unfold Js at hm
 refine Qd Tryz.func114 Z Z (G ?_)
 refine Q0 (hS) S22.h Z Z ?_
 obtain ⟨ao, d, hm⟩ := V hm
 refine g ?_
 refine Qp (M := fun f' w' => (fun (_ : Unit) => ∃ (z : PHeap) , PHeap.le s z ∧ St w0 z (Res.arr (U .i64) 3 b c :: H) w' ∧ Fx f' [(0, b)]) ao) ?_ ?_
 ·rcases Qs d with ⟨ai, d⟩ | ⟨ai, d⟩
  ·refine G ?_
   cases d
  cases d
  refine G ?_
  exact fq
 intro ax aE af
 obtain ⟨aa, a7, o, ⟨ay, rfl⟩⟩ := af
 obtain ⟨aH, i, hm⟩ := V hm
 obtain ⟨a3, au, m⟩ := o.arr_at i
 refine G ?_
 refine Qa S22.h Z m Z (Qb i).1 (Qb i).2.1 (G ?_)
 refine Qf (F := (U .i64)) (o) m A3.h Z Z Z i (Sub.refl _) ?_
 intro aC am
 obtain rfl := Qg.1 am
 obtain ⟨l, ad, a6, ak, ah⟩ := Qr hm
 refine g ?_
 refine Zc (Zc (Zd (g ?_)))
 refine Qp (M := fun f' w' => ∃ s', (l = .next s' ∨ l = .brk s') ∧ (QI fun (u : Int) (q : Int) => ∃ (ab : PHeap) , PHeap.le aa ab ∧ St w0 ab (Res.arr (U .i64) 3 b c :: H) w' ∧ Fx f' [(0, b), (3, O u), (4, O q)]) s') ?_ ?_
 ·refine G ?_
  refine KA (fun s' f' w' => (QI fun (x : Int) (t : Int) => ∃ (ac : PHeap) , PHeap.le aa ac ∧ St w0 ac (Res.arr (U .i64) 3 b c :: H) w' ∧ Fx f' [(0, b), (3, O x), (4, O t)]) s') ad ?_ ?_
  ·exact fq
  intro ap av az aF ae a al
  obtain ⟨x, t⟩ := ap
  replace a := Q7 a
  obtain ⟨aA, a8, k, ⟨a0, rfl⟩⟩ := ae
  refine G ?_
  refine Q0 (k) S22.h Z Z (G ?_)
  rcases Qs a with ⟨aj, a⟩ | ⟨aj, a⟩
  ·obtain ⟨aI, j, a⟩ := V a
   obtain ⟨a4, aw, n⟩ := k.arr_at j
   refine G ?_
   refine Qa S22.h Z n Z (Qb j).1 (Qb j).2.1 (G ?_)
   refine Qf (F := (U .i64)) (k) n A3.h Z Z Z j (Sub.refl _) ?_
   intro aD an
   obtain rfl := Qg.1 an
   refine G ?_
   refine QbE Z Z Z ?_
   cases a
   refine G ?_
   exact ⟨_, Z, fq⟩
  cases a
  refine G ?_
  exact ⟨_, .inr (al (by intro _ h; cases h)), fq⟩
 rintro a1 aG ⟨aq, p, ag⟩
 have hm := p.elim (ak _) (ah _)
 clear p
 obtain ⟨u, q⟩ := aq
 replace hm := Q7 hm
 obtain ⟨aB, a9, a5, ⟨a2, rfl⟩⟩ := ag
 cases hm
 refine G ?_
 exact fr
theorem QfO {w0 w : World} {s : PHeap} {H : List Res} {c : (List Bool)} {b : Value} {r : Int × Int} (hm : YG c = some r) (hS : St w0 s (Res.arr encBool 4 b c :: H) w) :
  Calls Tryz.prog 115 #[b] w fun e w' => ∃ v, e = .returned v ∧ ((QI fun (a5 : Int) (a6 : Int) => ∃ (ac : PHeap) , PHeap.le s ac ∧ St w0 ac (Res.arr encBool 4 b c :: H) w' ∧ v = Value.tuple #[O a5, O a6]) r) := by
 unfold YG at hm
 refine Qd Tryz.func115 Z Z (G ?_)
 refine Q0 (hS) S56.h Z Z ?_
 obtain ⟨m, ak, a0, aw, aq⟩ := Qr hm
 refine g ?_
 refine Qp (M := fun f' w' => ∃ s', (m = .next s' ∨ m = .brk s') ∧ (fun (ab : Int) => ∃ (ad : PHeap) , PHeap.le s ad ∧ St w0 ad (Res.arr encBool 4 b c :: H) w' ∧ Fx f' [(0, b), (4, O ab)]) s') ?_ ?_
 ·refine G ?_
  refine KA (fun s' f' w' => (fun (j : Int) => ∃ (ae : PHeap) , PHeap.le s ae ∧ St w0 ae (Res.arr encBool 4 b c :: H) w' ∧ Fx f' [(0, b), (4, O j)]) s') ak ?_ ?_
  ·exact fq
  intro j a7 aB aV am d x
  obtain ⟨af, aO, aL, ⟨aC, rfl⟩⟩ := am
  refine G ?_
  rcases Qs d with ⟨q, d⟩ | ⟨q, d⟩
  ·obtain ⟨n, al, a1, ax, ar⟩ := Qr d
   refine W_c Z q (Qo1 (Jt (Ze (Zc (Qcv (Zc (Zd (g ?_))))))))
   refine Qp (M := fun f' w' => ∃ s', (n = .next s' ∨ n = .brk s') ∧ (fun (z : Int) => ∃ (ag : PHeap) , PHeap.le af ag ∧ St w0 ag (Res.arr encBool 4 b c :: H) w' ∧ Fx f' [(0, b), (4, O j), (5, O z)]) s') ?_ ?_
   ·refine G ?_
    refine KA (fun s' f' w' => (fun (aa : Int) => ∃ (ah : PHeap) , PHeap.le af ah ∧ St w0 ah (Res.arr encBool 4 b c :: H) w' ∧ Fx f' [(0, b), (4, O j), (5, O aa)]) s') al ?_ ?_
    ·exact fq
    intro aa aj aD aW an a y
    obtain ⟨ai, a2, i, ⟨aE, rfl⟩⟩ := an
    refine G ?_
    rcases Qs a with ⟨au, a⟩ | ⟨au, a⟩
    ·refine G ?_
     refine JE (n0 := 9) (qs 0 9 .done) JM (by kernel_rfl) (by kernel_rfl) ?_
     obtain ⟨aZ, k, a⟩ := V a
     obtain ⟨aJ, a8, o⟩ := (i.drew).arr_at k
     refine G ?_
     refine Qa S56.h Z o Z (Qb k).1 (Qb k).2.1 ⟨Z, ?_⟩
     refine G ?_
     refine Qf (F := encBool) (i.drew) o A4.h Z Z Z k (Sub.refl _) ?_
     intro aT a3
     obtain rfl := Jc.1 a3
     refine ⟨Z, ?_⟩
     obtain ⟨ba, l, a⟩ := V a
     obtain ⟨aK, a9, p⟩ := (i.drew).arr_at l
     refine G ?_
     refine Qa S56.h Z p Z (Qb l).1 (Qb l).2.1 ⟨Z, ?_⟩
     refine G ?_
     refine Qf (F := encBool) (i.drew) p A4.h Z Z Z l (Sub.refl _) ?_
     intro aU a4
     obtain rfl := Jc.1 a4
     refine ⟨Z, ?_⟩
     refine G ?_
     refine QiE Tryz.underlying4 Z Z Z ⟨Z, ?_⟩
     refine G ?_
     rcases Qs a with ⟨av, a⟩ | ⟨av, a⟩
     ·cases a
      have ay := a1 _ (y (by intro _ h; cases h))
      cases ay
      have az := a0 _ (x (by intro _ h; cases h))
      cases az
      refine G ?_
      refine ⟨_, QaL Z, ?_⟩
      exact ⟨ai, lq, i.drew, (QeF Z Z)⟩
     have aA := Zu a
     subst aj
     refine G ?_
     refine ⟨_, Z, ?_⟩; exact ⟨ai, a2, i.drew, (Fx.mk)⟩
    cases a
    refine G ?_
    exact ⟨_, .inr (y (by intro _ h; cases h)), fq⟩
   rintro aF aX ⟨z, t, ao⟩
   have d := t.elim (ax _) (ar _)
   clear t
   obtain ⟨aR, aP, aM, ⟨aG, rfl⟩⟩ := ao
   cases d
   refine G ?_
   exact ⟨_, Z, fq⟩
  cases d
  refine G ?_
  exact ⟨_, .inr (x (by intro _ h; cases h)), fq⟩
 rintro aH aY ⟨ab, u, ap⟩
 have hm := u.elim (aw _) (aq _)
 clear u
 obtain ⟨aS, aQ, aN, ⟨aI, rfl⟩⟩ := ap
 cases hm
 refine G ?_
 refine ⟨_, QaL Z, ?_⟩
 exact fq
end Go.Pw
