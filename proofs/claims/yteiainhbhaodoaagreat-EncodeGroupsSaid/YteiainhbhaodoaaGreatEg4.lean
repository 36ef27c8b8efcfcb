/- -/
import Derived.Test.YteiainhbhaodoaaGreatL29
import Derived.Test.YteiainhbhaodoaaGreatL61
import Derived.Test.YteiainhbhaodoaaGreatEg3
import Derived.Test.YteiainhbhaodoaaGreatEgX
set_option maxRecDepth 100000
set_option maxHeartbeats 4000000
set_option linter.unusedVariables false
namespace Go.Pw
open Go.Proofs
attribute [local irreducible] Exec WL W andThen YR DL Jh
theorem Qk0 : QbD Tryz.prog 51 2 = true := by kernel_rfl
theorem Ye {w0 w : World} {s : PHeap} {H : List Res} {t : (List Fact)} {b : Value} {r : Nat × (List Fact)} (hm : QT t = some r) (hS : St w0 s (Res.arr encFact 51 b t :: H) w) :
  Calls Tryz.prog 79 #[b] w fun e w' => ∃ v, e = .returned v ∧ ((QO fun (br : Nat) (bb : (List Fact)) => ∃ (a3 : PHeap) (aA : Value), PHeap.le s a3 ∧ St w0 a3 (Res.arr encFact 51 b bb :: H) w' ∧ v = aA ∧ SubOf 2 b aA 0 br) r) := by
 unfold QT at hm
 refine Ql Tryz.func79 Z Z (G ?_)
 refine Q2 (hS) S24.h Z Z (G ?_)
 rcases Qv hm with ⟨an, hm⟩ | ⟨an, hm⟩
 ·cases hm
  refine G ?_
  refine ⟨_, Qa5 Z, ?_⟩
  exact ⟨s, b, (Zv _), hS, Z, (Or.inl ⟨Z, Z, hS.arr_shape⟩)⟩
 obtain ⟨ac, aI, aZ, aW, aQ⟩ := Qu hm
 refine W_c Z an (Qbk (JG (Ze (Zc (Zc (Zd (g ?_)))))))
 refine Qs (M := fun f' w' => ∃ s', (ac = .next s' ∨ ac = .brk s') ∧ (fun (ar : Int) => ∃ (a4 : PHeap) , PHeap.le s a4 ∧ St w0 a4 (Res.arr encFact 51 b t :: H) w' ∧ Fx f' [(0, b), (3, O ar)]) s') ?_ ?_
 ·refine G ?_
  refine Ym (fun s' f' w' => (fun (au : Int) => ∃ (a5 : PHeap) , PHeap.le s a5 ∧ St w0 a5 (Res.arr encFact 51 b t :: H) w' ∧ Fx f' [(0, b), (3, O au)]) s') aI ?_ ?_
  ·exact fq
  intro au aF b3 ca aK a aq
  obtain ⟨aa, bc, u, ⟨b4, rfl⟩⟩ := aK
  refine G ?_
  refine Q2 (u) S24.h Z Z (G ?_)
  rcases Qv a with ⟨aS, a⟩ | ⟨aS, a⟩
  ·refine G ?_
   refine KM (n0 := 10) (qs 0 10 .done) KL (by kernel_rfl) (by kernel_rfl) ?_
   have j := u.drew
   obtain ⟨aB, l, a⟩ := Zg a
   obtain ⟨bD, bs, ae⟩ := j.arr_at l
   refine G ?_
   refine Qn S24.h Z ae Z (Qr l).1 (Qr l).2.1 ⟨Z, ?_⟩
   refine G ?_
   refine Qz (F := encFact) (j) ae A51.h Z Z Z l (Sub.refl _) ?_
   intro bU be
   obtain rfl := Ju.1 be
   refine ⟨Z, ?_⟩
   obtain ⟨aC, m, a⟩ := Zg a
   obtain ⟨bE, bt, af⟩ := j.arr_at m
   refine G ?_
   refine Qn S24.h Z af Z (Qr m).1 (Qr m).2.1 ⟨Z, ?_⟩
   refine G ?_
   refine Qz (F := encFact) (j) af A51.h Z Z Z m (Sub.refl _) ?_
   intro bV bf
   obtain rfl := Ju.1 bf
   refine ⟨Z, ?_⟩
   refine G ?_
   refine Qf2 (xs := [aB.Var, aB.Val]) (ys := [aC.Var, aC.Val]) Qk0 Z Z Z Z Z Z Z ⟨Z, ?_⟩
   refine G ?_
   rcases Qv a with ⟨aT, a⟩ | ⟨aT, a⟩
   ·obtain ⟨bQ, n, a⟩ := Zg a
    refine G ?_
    refine QcS (j) S24.h Z Z Z n ?_
    intro ab k
    obtain ⟨ad, aJ, bL, aX, aR⟩ := Qu a
    refine g ?_
    refine Zc (Zc (Zd (g ?_)))
    refine Qs (M := fun f' w' => ∃ s', (ad = .next s' ∨ ad = .brk s') ∧ (un3 fun (av : Int) (aw : Int) (az : (List Fact)) => ∃ (a6 : PHeap) , PHeap.le aa a6 ∧ St w0 a6 (Res.arr encFact 51 b az :: H) w' ∧ Fx f' [(0, b), (3, O av), (4, ab), (5, O aw)]) s') ?_ ?_
    ·refine G ?_
     refine Ym (fun s' f' w' => (un3 fun (ax : Int) (x : Int) (a0 : (List Fact)) => ∃ (a7 : PHeap) , PHeap.le aa a7 ∧ St w0 a7 (Res.arr encFact 51 b a0 :: H) w' ∧ Fx f' [(0, b), (3, O ax), (4, ab), (5, O x)]) s') aJ ?_ ?_
     ·exact fq
     intro bo bu b5 cb aL c ba
     obtain ⟨ax, x, a0⟩ := bo
     replace c := QbP c
     obtain ⟨bl, bM, aP, ⟨b6, rfl⟩⟩ := aL
     refine G ?_
     refine Qgn S24.h k Z Z (G ?_)
     rcases Qv c with ⟨aU, c⟩ | ⟨aU, c⟩
     ·refine G ?_
      refine KM (n0 := 10) (qs 0 10 .done) KL (by kernel_rfl) (by kernel_rfl) ?_
      have i := aP.drew
      obtain ⟨aD, o, c⟩ := Zg c
      obtain ⟨bF, bv, ag⟩ := i.arr_at (Kr o).2.2
      refine G ?_
      refine Qbe S24.h (Qc0 n).1 k ag Z Z Z (Kr o).1 (Kr o).2.1 ⟨Z, ?_⟩
      refine G ?_
      refine Qz (F := encFact) (i) ag A51.h Z Z Z (Kr o).2.2 (Sub.refl _) ?_
      intro bW bg
      obtain rfl := Ju.1 bg
      refine ⟨Z, ?_⟩
      obtain ⟨aE, p, c⟩ := Zg c
      obtain ⟨bG, bw, ah⟩ := i.arr_at (Kr p).2.2
      refine G ?_
      refine Qbe S24.h (Qc0 n).1 k ah Z Z Z (Kr p).1 (Kr p).2.1 ⟨Z, ?_⟩
      refine G ?_
      refine Qz (F := encFact) (i) ah A51.h Z Z Z (Kr p).2.2 (Sub.refl _) ?_
      intro bX bh
      obtain rfl := Ju.1 bh
      refine ⟨Z, ?_⟩
      refine G ?_
      refine QcW (xs := [aD.Var, aD.Val]) (ys := [aE.Var, aE.Val]) Qk0 Z Z Z Z Z Z Z ⟨Z, ?_⟩
      obtain ⟨a9, d, c⟩ := Zg c
      refine g ?_
      refine Qs (M := fun f' w' => (QO fun (ay : Int) (a1 : (List Fact)) => ∃ (a8 : PHeap) , PHeap.le bl a8 ∧ St w0 a8 (Res.arr encFact 51 b a1 :: H) w' ∧ Fx f' [(0, b), (3, O ay), (4, ab), (5, O x)]) a9) ?_ ?_
      ·rcases Qv d with ⟨aV, d⟩ | ⟨aV, d⟩
       ·obtain ⟨ch, q, d⟩ := Zg d
        obtain ⟨bH, bx, ai⟩ := i.arr_at (Kr q).2.2
        refine G ?_
        refine Qbe S24.h (Qc0 n).1 k ai Z Z Z (Kr q).1 (Kr q).2.1 (G ?_)
        refine Qz (F := encFact) (i) ai A51.h Z Z Z (Kr q).2.2 (Sub.refl _) ?_
        intro bY bi
        obtain rfl := Ju.1 bi
        obtain ⟨ci, z, d⟩ := Zg d
        obtain ⟨bI, bz, aj⟩ := i.arr_at z
        refine G ?_
        refine Qn S24.h Z aj Z (Qr z).1 (Qr z).2.1 ?_
        obtain ⟨bN, bj, d⟩ := Zg d
        refine G ?_
        refine Js i aj A51.h Z Z Z Z (Ju.2 Z) bj ?_
        intro cc bJ
        cases d
        refine G ?_
        exact fq
       cases d
       refine G ?_
       exact fq
      intro b7 cd aM
      obtain ⟨ay, a1⟩ := a9
      replace c := Q3 c
      obtain ⟨bT, bO, bK, ⟨b8, rfl⟩⟩ := aM
      cases c
      refine G ?_
      exact ⟨_, Z, fq⟩
     cases c
     refine G ?_
     exact ⟨_, .inr (ba (by intro _ h; cases h)), fq⟩
    rintro b9 ce ⟨bp, ao, aN⟩
    have a := ao.elim (aX _) (aR _)
    clear ao
    obtain ⟨av, aw, az⟩ := bp
    replace a := QbP a
    obtain ⟨bm, bP, ak, ⟨bA, rfl⟩⟩ := aN
    obtain ⟨bR, a2, a⟩ := Zg a
    refine G ?_
    refine QcS (ak) S24.h Z Z Z a2 ?_
    intro bZ aG
    refine G ?_
    refine Qfu (E := encFact) (y := (⟨0, 0⟩ : Fact)) ak aG (Qc0 a2).2.2.2.2.2 S24.h Z51 ⟨[O 0], [O 0], Z, Z, Z⟩ Z Z ?_
    intro cf al
    obtain ⟨bS, bk, a⟩ := Zg a
    refine G ?_
    refine QgU (al) S24.h Z Z Z bk ?_
    intro bq aH
    cases a
    have aY := aZ _ (aq (by intro _ h; cases h))
    have b0 := Zu aY
    subst r
    refine G ?_
    refine ⟨_, Qa5 Z, ?_⟩
    exact ⟨bm, bq, lq, al, Z, aH⟩
   cases a
   refine G ?_
   exact ⟨_, Z, fq⟩
  have b1 := Zu a
  subst aF
  refine G ?_
  refine ⟨_, .inr (aq (by intro _ h; cases h)), ?_⟩; exact ⟨aa, bc, u, (Fx.mk)⟩
 rintro bB cg ⟨ar, ap, aO⟩
 have hm := ap.elim (aW _) (aQ _)
 clear ap
 obtain ⟨bn, bd, am, ⟨bC, rfl⟩⟩ := aO
 have b2 := Zu hm
 subst r
 refine G ?_
 refine ⟨_, Qa5 Z, ?_⟩
 exact ⟨bn, b, bd, am, Z, (Or.inl ⟨Z, Z, am.arr_shape⟩)⟩
theorem K6 {w0 w : World} {s : PHeap} {H : List Res} {a : encode_encoder} {af : Cond} {ay : (List Int)} {aX : (List Int)} {aN : (List Fact)} {m : Nat} {p : Value} {q : Value} {t : Value} {u : Value} {x : Value} {b : Value} {d : Value} {i : Value} {j : Value} {aq : Value} {ar : Value} {a6 : Value} {ah : Value} {ai : Value} {aV : Value} {r : (List Fact) × Bool} (hm : QB a af ay aX aN = some r) (hS : St w0 s (Res.box m 67 [p, q, t, u, x, b, d, i, j] :: Res.arr (Qc .i64) 3 b a.vars :: Res.arr encFact 51 d a.atoms :: Res.arr encBool 4 i a.grouped :: Res.arr (Qc .i64) 3 j a.fluents :: H) w) (co : SliceRep encAtom s p a.g.Atoms) (aZ : SliceRep encGFluent s q a.g.Fluents) (cp : SliceRep (Qc .i64) s t a.g.Init) (cq : SliceRep encCond s u a.g.Goal) (cr : SliceRep encGOp s x a.g.Ops) (ct : SliceRep (Qc .i64) s aq af.Pos) (cu : SliceRep (Qc .i64) s ar af.Neg) (cv : SliceRep encGTest s a6 af.Tests) (cw : SliceRep (Qc .i64) s ah ay) (ba : SliceRep (Qc .i64) s ai aX) (bb : SliceRep encFact s aV aN) :
  Calls Tryz.prog 53 #[Value.pointer (some ⟨m, 0, none⟩), Value.agg #[aq, ar, a6], ah, ai, aV] w fun e w' => ∃ v, e = .returned v ∧ ((QO fun (cm : (List Fact)) (cn : Bool) => ∃ (a5 : PHeap) (aW : Value), PHeap.le s a5 ∧ St w0 a5 (Res.box m 67 [p, q, t, u, x, b, d, i, j] :: Res.arr (Qc .i64) 3 b a.vars :: Res.arr encFact 51 d a.atoms :: Res.arr encBool 4 i a.grouped :: Res.arr (Qc .i64) 3 j a.fluents :: H) w' ∧ v = Value.tuple #[aW, Value.bool (cn)] ∧ SliceRep encFact a5 aW cm) r) := by
 unfold QB at hm
 refine Ql Tryz.func53 Z Z (G ?_)
 refine JH Z Z ?_
 intro a7 dO bt
 obtain ⟨ej, bF, hm⟩ := Zg hm
 refine G ?_
 refine Tc Z Z Z Z (Qb2 bF bt bb).r ?_
 rintro dE dP ⟨cc, _, az, bu, rfl⟩
 obtain ⟨a0, bh, hm⟩ := Zg hm
 refine G ?_
 refine QS (fun k' s' f' w' => (fun (a0 : (List Fact)) => ∃ (aO : PHeap) (au : Value), PHeap.le cc aO ∧ St w0 aO (Res.box m 67 [p, q, t, u, x, b, d, i, j] :: Res.arr (Qc .i64) 3 b a.vars :: Res.arr encFact 51 d a.atoms :: Res.arr encBool 4 i a.grouped :: Res.arr (Qc .i64) 3 j a.fluents :: Res.box a7 85 [aq, ar, a6] :: Res.arr encFact 51 au a0 :: H) w' ∧ Fx f' [(25, O (k' : Int)), (0, Vq m), (2, ah), (3, ai), (6, Vq a7), (12, au), (23, aq), (24, O ((af.Pos.length : Int)))]) s') bh ?_ ?_ ?_
 ·have da := bu.f1
  exact fq
 ·intro dl a0 d3 cF dQ di bl ab
  obtain ⟨d4, au, dp, aj, ⟨cG, rfl⟩⟩ := bl
  obtain ⟨eg, bG, ab⟩ := Zg ab
  refine G ?_
  refine QI Z Z Z bG ?_
  intro cx dx bc
  refine G ?_
  refine Zw (E := (Qc .i64)) aj A3.h Z Z Z bc ?_
  intro dF bH
  obtain rfl := Qm.1 bH
  obtain ⟨o, al, ab⟩ := Zg ab
  obtain ⟨cV, c5, aA⟩ := (aj.f2).arr_at al
  refine G ?_
  refine Qn S24.h Z aA Z (Qr al).1 (Qr al).2.1 (G ?_)
  refine Qz (F := encFact) (aj.f2) aA A51.h Z Z Z al (Sub.refl _) ?_
  intro dG bI
  obtain rfl := Ju.1 bI
  refine G ?_
  refine Exec.buildSlice (Te := 51) (cs := [O (o.Var), O (o.Val)]) aj Z (Qd (c := [O (o.Var), O (o.Val)]) (Qf Z Z) Qg) (fun _ => by kernel_rfl) ?_
  intro cy dR bv
  obtain ⟨dq, bJ, ab⟩ := Zg ab
  refine G ?_
  refine Qh (E := encFact) (ys := [o]) bv.f7 S24.h Z51 Z (by decide) Z Z Z Z ⟨[O (o.Var), O (o.Val)], [], Z, ⟨[O (o.Var)], [O (o.Val)], Z, Z, Z⟩, Z⟩ Z bJ ?_
  intro dH dS db
  cases ab
  refine G ?_
  exact fq
 intro cH dT bm
 obtain ⟨cd, au, a1, bw, ⟨cI, rfl⟩⟩ := bm
 obtain ⟨a2, bi, hm⟩ := Zg hm
 refine G ?_
 refine QS (fun k' s' f' w' => (fun (a2 : (List Fact)) => ∃ (aP : PHeap) (av : Value), PHeap.le cd aP ∧ St w0 aP (Res.box m 67 [p, q, t, u, x, b, d, i, j] :: Res.arr (Qc .i64) 3 b a.vars :: Res.arr encFact 51 d a.atoms :: Res.arr encBool 4 i a.grouped :: Res.arr (Qc .i64) 3 j a.fluents :: Res.arr encFact 51 av a2 :: H) w' ∧ Fx f' [(43, O (k' : Int)), (0, Vq m), (2, ah), (3, ai), (12, av), (41, ar), (42, O ((af.Neg.length : Int)))]) s') bi ?_ ?_ ?_
 ·have dc := (bw.f5).drop
  exact fq
 ·intro dm a2 d5 cJ dU dj bn ac
  obtain ⟨d6, av, dr, ak, ⟨cK, rfl⟩⟩ := bn
  obtain ⟨eh, bK, ac⟩ := Zg ac
  refine G ?_
  refine QI Z Z Z bK ?_
  intro cz dy bd
  refine G ?_
  refine Zw (E := (Qc .i64)) ak A3.h Z Z Z bd ?_
  intro dI bL
  obtain rfl := Qm.1 bL
  obtain ⟨y, am, ac⟩ := Zg ac
  obtain ⟨cW, c6, aB⟩ := (ak.f2).arr_at am
  refine G ?_
  refine Qn S24.h Z aB Z (Qr am).1 (Qr am).2.1 (G ?_)
  refine Qz (F := (Qc .i64)) (ak.f2) aB A3.h Z Z Z am (Sub.iso (Sub.fst (Sub.refl _))) ?_
  intro cg bM
  obtain rfl : cg = O (y.Var) := Qm.1 bM
  refine G ?_
  refine Exec.build Z (Qd (c := [O (y.Var)]) (Qf Z Z) Qg) (v := Value.agg #[O (y.Var), O 0]) (fun _ => by kernel_rfl) (G ?_)
  refine Exec.buildSlice (Te := 51) (cs := [O (y.Var), O 0]) ak Z (Qd (c := [O (y.Var), O 0]) (Qf Z Z) Qg) (fun _ => by kernel_rfl) ?_
  intro c0 dV bx
  obtain ⟨ds, bN, ac⟩ := Zg ac
  refine G ?_
  refine Qh (E := encFact) (ys := [(⟨y.Var, 0⟩ : Fact)]) bx.f6 S24.h Z51 Z (by decide) Z Z Z Z ⟨[O (y.Var), O 0], [], Z, ⟨[O (y.Var)], [O 0], Z, Z, Z⟩, Z⟩ Z bN ?_
  intro dJ dW dd
  cases ac
  refine G ?_
  exact fq
 intro cL dX bo
 obtain ⟨ce, av, a3, bz, ⟨cM, rfl⟩⟩ := bo
 obtain ⟨a4, bj, hm⟩ := Zg hm
 refine G ?_
 refine QS (fun k' s' f' w' => (fun (a4 : (List Fact)) => ∃ (aQ : PHeap) (aw : Value), PHeap.le ce aQ ∧ St w0 aQ (Res.box m 67 [p, q, t, u, x, b, d, i, j] :: Res.arr (Qc .i64) 3 b a.vars :: Res.arr encFact 51 d a.atoms :: Res.arr encBool 4 i a.grouped :: Res.arr (Qc .i64) 3 j a.fluents :: Res.arr encFact 51 aw a4 :: H) w' ∧ Fx f' [(62, O (k' : Int)), (0, Vq m), (3, ai), (12, aw), (60, ah), (61, O ((ay.length : Int)))]) s') bj ?_ ?_ ?_
 ·have de := bz.f5
  exact fq
 ·intro dn a4 d7 cN dY dk bp n
  obtain ⟨d8, aw, aK, aF, ⟨cO, rfl⟩⟩ := bp
  obtain ⟨ei, bO, n⟩ := Zg n
  refine G ?_
  refine QI Z Z Z bO ?_
  intro c1 dz be
  refine G ?_
  refine Zw (E := (Qc .i64)) aF A3.h Z Z Z be ?_
  intro dK bP
  obtain rfl := Qm.1 bP
  refine G ?_
  refine KM (n0 := 25) (qs 0 23 (.e 23 [0] (.e 24 [] .done))) KL (by kernel_rfl) (by kernel_rfl) ?_
  have ag := aF.drew
  obtain ⟨ad, an, n⟩ := Zg n
  obtain ⟨cX, c7, aC⟩ := (ag.f4).arr_at an
  refine G ?_
  refine Qn S22.h Z aC Z (Qr an).1 (Qr an).2.1 ⟨Z, ?_⟩
  refine G ?_
  refine Qz (F := (Qc .i64)) (ag.f4) aC A3.h Z Z Z an (Sub.refl _) ?_
  intro dL bQ
  obtain rfl := Qm.1 bQ
  refine ⟨Z, ?_⟩
  obtain ⟨ae, bR, n⟩ := Zg n
  refine G ?_
  refine Q1 S22.h Z Z Z (ba.mono (Zt (Zt (Zt az a1) a3) aK)) bR ?_
  intro c2 d0 bf cA
  refine ⟨Z, ?_⟩
  refine G ?_
  refine Zw (E := (Qc .i64)) ag A3.h Z Z Z bf ?_
  intro dM bS
  obtain rfl := Qm.1 bS
  refine ⟨Z, ?_⟩
  obtain ⟨z, bT, n⟩ := Zg n
  refine G ?_
  refine Q1 S40.h Z Z Z (aZ.mono (Zt (Zt (Zt az a1) a3) aK)) bT ?_
  intro c3 d1 bg cB
  refine ⟨Z, ?_⟩
  refine G ?_
  refine Zw (E := (Qc .i64)) ag A3.h Z Z Z (bg.sub (Sub.iso (QD (Sub.fst (Sub.refl _)) Z)) Z) ?_
  intro ch bU
  obtain rfl : ch = O (z.Lo) := Qm.1 bU
  refine ⟨Z, ?_⟩
  refine G ?_
  refine Exec.build Z (Qd (c := [O ad]) (Qf Z Z) (Qd (c := [O (IntKind.i64.wrap (ae - z.Lo))]) (Qf Z Z) Qg)) (v := Value.agg #[O ad, O (IntKind.i64.wrap (ae - z.Lo))]) (fun _ => by kernel_rfl) ⟨Z, ?_⟩
  refine G ?_
  refine Exec.buildSlice (Te := 51) (cs := [O ad, O (IntKind.i64.wrap (ae - z.Lo))]) ag Z (Qd (c := [O ad, O (IntKind.i64.wrap (ae - z.Lo))]) (Qf Z Z) Qg) (fun _ => by kernel_rfl) ?_
  intro c4 dZ b0
  refine ⟨agq, ?_⟩
  obtain ⟨dt, bV, n⟩ := Zg n
  refine G ?_
  refine Qh (E := encFact) (ys := [(⟨ad, IntKind.i64.wrap (ae - z.Lo)⟩ : Fact)]) b0.f6 S24.h Z51 Z (by decide) Z Z Z Z ⟨[O ad, O (IntKind.i64.wrap (ae - z.Lo))], [], Z, ⟨[O ad], [O (IntKind.i64.wrap (ae - z.Lo))], Z, Z, Z⟩, Z⟩ Z bV ?_
  intro dN ea df
  refine ⟨agq, ?_⟩
  cases n
  refine G ?_
  exact fq
 intro cP eb bq
 obtain ⟨d9, aw, bC, b1, ⟨cQ, rfl⟩⟩ := bq
 obtain ⟨du, bW, hm⟩ := Zg hm
 refine G ?_
 refine Tc Z Z Z Z (QcM bW b1.f5).r ?_
 rintro _ ec ⟨dA, bD, b2, rfl⟩
 obtain ⟨cf, bX, hm⟩ := Zg hm
 obtain ⟨aY, aL⟩ := cf
 replace hm := Q3 hm
 refine G ?_
 refine Tc Z Z Z Z (Ye bX b2).r ?_
 rintro ax ed ⟨aR, _, bE, b3, rfl, cb⟩
 obtain ⟨dD, bY, hm⟩ := Zg hm
 have b4 := b3.arr_head cb (by simpa using QbC bY)
 obtain ⟨a8, bk, bB, b9, b6⟩ := Qu hm
 refine g ?_
 refine Zc (Zc (Zd (g ?_)))
 refine Qs (M := fun f' w' => ∃ s', (a8 = .next s' ∨ a8 = .brk s') ∧ (fun (aI : Int) => ∃ (aS : PHeap) , PHeap.le aR aS ∧ St w0 aS (Res.box m 67 [p, q, t, u, x, b, d, i, j] :: Res.arr (Qc .i64) 3 b a.vars :: Res.arr encFact 51 d a.atoms :: Res.arr encBool 4 i a.grouped :: Res.arr (Qc .i64) 3 j a.fluents :: Res.arr encFact 51 ax (aL.take aY) :: H) w' ∧ Fx f' [(12, ax), (19, O aI)]) s') ?_ ?_
 ·refine G ?_
  refine Ym (fun s' f' w' => (fun (aJ : Int) => ∃ (aT : PHeap) , PHeap.le aR aT ∧ St w0 aT (Res.box m 67 [p, q, t, u, x, b, d, i, j] :: Res.arr (Qc .i64) 3 b a.vars :: Res.arr encFact 51 d a.atoms :: Res.arr encBool 4 i a.grouped :: Res.arr (Qc .i64) 3 j a.fluents :: Res.arr encFact 51 ax (aL.take aY) :: H) w' ∧ Fx f' [(12, ax), (19, O aJ)]) s') bk ?_ ?_
  ·have dg := b4.f5
   exact fq
  intro aJ a9 cR ee br l aH
  obtain ⟨aU, aM, aa, ⟨cS, rfl⟩⟩ := br
  refine G ?_
  refine Q2 (aa.f5) S24.h Z Z (G ?_)
  rcases Qv l with ⟨b7, l⟩ | ⟨b7, l⟩
  ·refine G ?_
   refine KM (n0 := 12) (qs 0 12 .done) KL (by kernel_rfl) (by kernel_rfl) ?_
   obtain ⟨ck, ao, l⟩ := Zg l
   obtain ⟨cY, c8, aD⟩ := ((aa.drew).f5).arr_at ao
   refine G ?_
   refine Qn S24.h Z aD Z (Qr ao).1 (Qr ao).2.1 ⟨Z, ?_⟩
   refine G ?_
   refine Qz (F := (Qc .i64)) ((aa.drew).f5) aD A3.h Z Z Z ao (Sub.iso (Sub.fst (Sub.refl _))) ?_
   intro ci bZ
   obtain rfl : ci = O (ck.Var) := Qm.1 bZ
   refine ⟨Z, ?_⟩
   obtain ⟨cl, ap, l⟩ := Zg l
   obtain ⟨cZ, c9, aE⟩ := ((aa.drew).f5).arr_at ap
   refine G ?_
   refine Qn S24.h Z aE Z (Qr ap).1 (Qr ap).2.1 ⟨Z, ?_⟩
   refine G ?_
   refine Qz (F := (Qc .i64)) ((aa.drew).f5) aE A3.h Z Z Z ap (Sub.iso (Sub.fst (Sub.refl _))) ?_
   intro cj ca
   obtain rfl : cj = O (cl.Var) := Qm.1 ca
   refine ⟨Z, ?_⟩
   refine G ?_
   rcases Qv l with ⟨b8, l⟩ | ⟨b8, l⟩
   ·have cC := Zu l
    subst a9
    have bA := bB _ (aH (by intro _ h; cases h))
    have cD := Zu bA
    subst r
    refine G ?_
    refine ⟨_, Qbv Z, ?_⟩
    exact ⟨aU, Vn, (Zt (Zt (Zt (Zt (Zt (Zt az a1) a3) bC) bD) bE) aM), (((((((aa.drew).f5).drop).f4).f4).f4).f4).f4, (QfM Z Z), (SliceRep.nil _ _)⟩
   have cE := Zu l
   subst a9
   refine G ?_
   refine ⟨_, Z, ?_⟩; exact ⟨aU, aM, ((((((aa.drew).f5).f5).f5).f5).f5).f5, (Fx.mk)⟩
  cases l
  refine G ?_
  exact ⟨_, .inr (aH (by intro _ h; cases h)), fq⟩
 rintro cT ef ⟨aI, aG, bs⟩
 have hm := aG.elim (b9 _) (b6 _)
 clear aG
 obtain ⟨dB, dv, b5, ⟨cU, rfl⟩⟩ := bs
 cases hm
 refine G ?_
 refine ⟨_, Qbv Z, ?_⟩
 obtain ⟨dC, dw, dh, d2⟩ := b5.f5.freezeArr
 exact fq
theorem Qbg {w0 w : World} {s : PHeap} {H : List Res} {b : (List Fact)} {c : Value} {r : (List Fact)} (hm : K5 b = some r) (hS : St w0 s (Res.arr encFact 51 c b :: H) w) :
  Calls Tryz.prog 76 #[c] w fun e w' => ∃ v, e = .returned v ∧ ((fun (p : (List Fact)) => ∃ (f : PHeap) (g : Value), PHeap.le s f ∧ St w0 f (Res.arr encFact 51 c b :: Res.arr encFact 51 g p :: H) w' ∧ v = g) r) := by
 unfold K5 at hm
 refine Ql Tryz.func76 Z Z ?_
 obtain ⟨i, y, t, j, m⟩ := hS.nilShape
 refine G ?_
 refine Kp Tryz.underlying24 Z j Z (G ?_)
 rcases tf (i.isNone) with a | a
 ·have n := m a
  replace hm := (show (some []) = ((app 16 [] b).bind fun d => some d) from by simp [n, app]).trans hm
  refine YT ((Zx a)) ?_
  cases hm
  refine G ?_
  refine ⟨_, Qa5 Z, ?_⟩
  have u := hS.nilArr encFact 51
  exact fq
 refine KQ ((Zx a)) (G ?_)
 refine Exec.buildSlice (Te := 51) (cs := []) hS Z Qg (fun _ => by kernel_rfl) ?_
 intro q aa k
 refine G ?_
 have l := St.boxArr (E := encFact) (xs := []) k rfl (by simp [maxLen])
 obtain ⟨d, o, hm⟩ := Zg hm
 refine G ?_
 refine Qcd (E := encFact) (l.f1).f1 S24.h Z51 Z (by decide) Z Z Z o ?_
 intro z ab x
 cases hm
 refine G ?_
 exact fr
theorem Qbh {w0 w : World} {s : PHeap} {H : List Res} {a : encode_encoder} {ah : Cond} {a0 : (List Int)} {aX : (List Int)} {p : (List Fact)} {m : Nat} {q : Value} {t : Value} {u : Value} {x : Value} {y : Value} {b : Value} {d : Value} {i : Value} {j : Value} {au : Value} {av : Value} {a8 : Value} {aj : Value} {ak : Value} {z : Value} {r : (List Fact) × Bool} (hm : Jd a ah a0 aX p = some r) (hS : St w0 s (Res.box m 67 [q, t, u, x, y, b, d, i, j] :: Res.arr (Qc .i64) 3 b a.vars :: Res.arr encFact 51 d a.atoms :: Res.arr encBool 4 i a.grouped :: Res.arr (Qc .i64) 3 j a.fluents :: Res.arr encFact 51 z p :: H) w) (cn : SliceRep encAtom s q a.g.Atoms) (aZ : SliceRep encGFluent s t a.g.Fluents) (co : SliceRep (Qc .i64) s u a.g.Init) (cp : SliceRep encCond s x a.g.Goal) (cq : SliceRep encGOp s y a.g.Ops) (cr : SliceRep (Qc .i64) s au ah.Pos) (ct : SliceRep (Qc .i64) s av ah.Neg) (cu : SliceRep encGTest s a8 ah.Tests) (cv : SliceRep (Qc .i64) s aj a0) (ba : SliceRep (Qc .i64) s ak aX) :
  Calls Tryz.prog 53 #[Value.pointer (some ⟨m, 0, none⟩), Value.agg #[au, av, a8], aj, ak, z] w fun e w' => ∃ v, e = .returned v ∧ ((QO fun (cl : (List Fact)) (cm : Bool) => ∃ (a7 : PHeap) (aW : Value), PHeap.le s a7 ∧ St w0 a7 (Res.box m 67 [q, t, u, x, y, b, d, i, j] :: Res.arr (Qc .i64) 3 b a.vars :: Res.arr encFact 51 d a.atoms :: Res.arr encBool 4 i a.grouped :: Res.arr (Qc .i64) 3 j a.fluents :: Res.arr encFact 51 z p :: H) w' ∧ v = Value.tuple #[aW, Value.bool (cm)] ∧ SliceRep encFact a7 aW cl) r) := by
 unfold Jd at hm
 refine Ql Tryz.func53 Z Z (G ?_)
 refine JH Z Z ?_
 intro a9 dN bs
 obtain ⟨ei, bE, hm⟩ := Zg hm
 refine G ?_
 refine Tc Z Z Z Z (Qbg bE bs.f6).r ?_
 rintro dD dO ⟨cb, _, a1, bt, rfl⟩
 obtain ⟨a2, bg, hm⟩ := Zg hm
 refine G ?_
 refine QS (fun k' s' f' w' => (fun (a2 : (List Fact)) => ∃ (aP : PHeap) (aw : Value), PHeap.le cb aP ∧ St w0 aP (Res.box m 67 [q, t, u, x, y, b, d, i, j] :: Res.arr (Qc .i64) 3 b a.vars :: Res.arr encFact 51 d a.atoms :: Res.arr encBool 4 i a.grouped :: Res.arr (Qc .i64) 3 j a.fluents :: Res.arr encFact 51 z p :: Res.box a9 85 [au, av, a8] :: Res.arr encFact 51 aw a2 :: H) w' ∧ Fx f' [(25, O (k' : Int)), (0, Vq m), (2, aj), (3, ak), (6, Vq a9), (12, aw), (23, au), (24, O ((ah.Pos.length : Int)))]) s') bg ?_ ?_ ?_
 ·have cZ := bt.f1
  exact fq
 ·intro dk a2 d2 cE dP dh bk ad
  obtain ⟨d3, aw, dn, al, ⟨cF, rfl⟩⟩ := bk
  obtain ⟨ef, bF, ad⟩ := Zg ad
  refine G ?_
  refine QI Z Z Z bF ?_
  intro cw dw bb
  refine G ?_
  refine Zw (E := (Qc .i64)) al A3.h Z Z Z bb ?_
  intro dE bG
  obtain rfl := Qm.1 bG
  obtain ⟨o, an, ad⟩ := Zg ad
  obtain ⟨cU, c4, aC⟩ := (al.f2).arr_at an
  refine G ?_
  refine Qn S24.h Z aC Z (Qr an).1 (Qr an).2.1 (G ?_)
  refine Qz (F := encFact) (al.f2) aC A51.h Z Z Z an (Sub.refl _) ?_
  intro dF bH
  obtain rfl := Ju.1 bH
  refine G ?_
  refine Exec.buildSlice (Te := 51) (cs := [O (o.Var), O (o.Val)]) al Z (Qd (c := [O (o.Var), O (o.Val)]) (Qf Z Z) Qg) (fun _ => by kernel_rfl) ?_
  intro cx dQ bu
  obtain ⟨dp, bI, ad⟩ := Zg ad
  refine G ?_
  refine Qh (E := encFact) (ys := [o]) bu.f8 S24.h Z51 Z (by decide) Z Z Z Z ⟨[O (o.Var), O (o.Val)], [], Z, ⟨[O (o.Var)], [O (o.Val)], Z, Z, Z⟩, Z⟩ Z bI ?_
  intro dG dR da
  cases ad
  refine G ?_
  exact fq
 intro cG dS bl
 obtain ⟨cc, aw, a3, bv, ⟨cH, rfl⟩⟩ := bl
 obtain ⟨a4, bh, hm⟩ := Zg hm
 refine G ?_
 refine QS (fun k' s' f' w' => (fun (a4 : (List Fact)) => ∃ (aQ : PHeap) (ax : Value), PHeap.le cc aQ ∧ St w0 aQ (Res.box m 67 [q, t, u, x, y, b, d, i, j] :: Res.arr (Qc .i64) 3 b a.vars :: Res.arr encFact 51 d a.atoms :: Res.arr encBool 4 i a.grouped :: Res.arr (Qc .i64) 3 j a.fluents :: Res.arr encFact 51 z p :: Res.arr encFact 51 ax a4 :: H) w' ∧ Fx f' [(43, O (k' : Int)), (0, Vq m), (2, aj), (3, ak), (12, ax), (41, av), (42, O ((ah.Neg.length : Int)))]) s') bh ?_ ?_ ?_
 ·have db := (bv.f6).drop
  exact fq
 ·intro dl a4 d4 cI dT di bm ae
  obtain ⟨d5, ax, dq, am, ⟨cJ, rfl⟩⟩ := bm
  obtain ⟨eg, bJ, ae⟩ := Zg ae
  refine G ?_
  refine QI Z Z Z bJ ?_
  intro cy dx bc
  refine G ?_
  refine Zw (E := (Qc .i64)) am A3.h Z Z Z bc ?_
  intro dH bK
  obtain rfl := Qm.1 bK
  obtain ⟨aa, ao, ae⟩ := Zg ae
  obtain ⟨cV, c5, aD⟩ := (am.f2).arr_at ao
  refine G ?_
  refine Qn S24.h Z aD Z (Qr ao).1 (Qr ao).2.1 (G ?_)
  refine Qz (F := (Qc .i64)) (am.f2) aD A3.h Z Z Z ao (Sub.iso (Sub.fst (Sub.refl _))) ?_
  intro cf bL
  obtain rfl : cf = O (aa.Var) := Qm.1 bL
  refine G ?_
  refine Exec.build Z (Qd (c := [O (aa.Var)]) (Qf Z Z) Qg) (v := Value.agg #[O (aa.Var), O 0]) (fun _ => by kernel_rfl) (G ?_)
  refine Exec.buildSlice (Te := 51) (cs := [O (aa.Var), O 0]) am Z (Qd (c := [O (aa.Var), O 0]) (Qf Z Z) Qg) (fun _ => by kernel_rfl) ?_
  intro cz dU bw
  obtain ⟨dr, bM, ae⟩ := Zg ae
  refine G ?_
  refine Qh (E := encFact) (ys := [(⟨aa.Var, 0⟩ : Fact)]) bw.f7 S24.h Z51 Z (by decide) Z Z Z Z ⟨[O (aa.Var), O 0], [], Z, ⟨[O (aa.Var)], [O 0], Z, Z, Z⟩, Z⟩ Z bM ?_
  intro dI dV dc
  cases ae
  refine G ?_
  exact fq
 intro cK dW bn
 obtain ⟨cd, ax, a5, bx, ⟨cL, rfl⟩⟩ := bn
 obtain ⟨a6, bi, hm⟩ := Zg hm
 refine G ?_
 refine QS (fun k' s' f' w' => (fun (a6 : (List Fact)) => ∃ (aR : PHeap) (ay : Value), PHeap.le cd aR ∧ St w0 aR (Res.box m 67 [q, t, u, x, y, b, d, i, j] :: Res.arr (Qc .i64) 3 b a.vars :: Res.arr encFact 51 d a.atoms :: Res.arr encBool 4 i a.grouped :: Res.arr (Qc .i64) 3 j a.fluents :: Res.arr encFact 51 z p :: Res.arr encFact 51 ay a6 :: H) w' ∧ Fx f' [(62, O (k' : Int)), (0, Vq m), (3, ak), (12, ay), (60, aj), (61, O ((a0.length : Int)))]) s') bi ?_ ?_ ?_
 ·have dd := bx.f6
  exact fq
 ·intro dm a6 d6 cM dX dj bo n
  obtain ⟨d7, ay, aM, aH, ⟨cN, rfl⟩⟩ := bo
  obtain ⟨eh, bN, n⟩ := Zg n
  refine G ?_
  refine QI Z Z Z bN ?_
  intro c0 dy bd
  refine G ?_
  refine Zw (E := (Qc .i64)) aH A3.h Z Z Z bd ?_
  intro dJ bO
  obtain rfl := Qm.1 bO
  refine G ?_
  refine KM (n0 := 25) (qs 0 23 (.e 23 [0] (.e 24 [] .done))) KL (by kernel_rfl) (by kernel_rfl) ?_
  have ai := aH.drew
  obtain ⟨af, ap, n⟩ := Zg n
  obtain ⟨cW, c6, aE⟩ := (ai.f4).arr_at ap
  refine G ?_
  refine Qn S22.h Z aE Z (Qr ap).1 (Qr ap).2.1 ⟨Z, ?_⟩
  refine G ?_
  refine Qz (F := (Qc .i64)) (ai.f4) aE A3.h Z Z Z ap (Sub.refl _) ?_
  intro dK bP
  obtain rfl := Qm.1 bP
  refine ⟨Z, ?_⟩
  obtain ⟨ag, bQ, n⟩ := Zg n
  refine G ?_
  refine Q1 S22.h Z Z Z (ba.mono (Zt (Zt (Zt a1 a3) a5) aM)) bQ ?_
  intro c1 dz be c9
  refine ⟨Z, ?_⟩
  refine G ?_
  refine Zw (E := (Qc .i64)) ai A3.h Z Z Z be ?_
  intro dL bR
  obtain rfl := Qm.1 bR
  refine ⟨Z, ?_⟩
  obtain ⟨ab, bS, n⟩ := Zg n
  refine G ?_
  refine Q1 S40.h Z Z Z (aZ.mono (Zt (Zt (Zt a1 a3) a5) aM)) bS ?_
  intro c2 d0 bf cA
  refine ⟨Z, ?_⟩
  refine G ?_
  refine Zw (E := (Qc .i64)) ai A3.h Z Z Z (bf.sub (Sub.iso (QD (Sub.fst (Sub.refl _)) Z)) Z) ?_
  intro cg bT
  obtain rfl : cg = O (ab.Lo) := Qm.1 bT
  refine ⟨Z, ?_⟩
  refine G ?_
  refine Exec.build Z (Qd (c := [O af]) (Qf Z Z) (Qd (c := [O (IntKind.i64.wrap (ag - ab.Lo))]) (Qf Z Z) Qg)) (v := Value.agg #[O af, O (IntKind.i64.wrap (ag - ab.Lo))]) (fun _ => by kernel_rfl) ⟨Z, ?_⟩
  refine G ?_
  refine Exec.buildSlice (Te := 51) (cs := [O af, O (IntKind.i64.wrap (ag - ab.Lo))]) ai Z (Qd (c := [O af, O (IntKind.i64.wrap (ag - ab.Lo))]) (Qf Z Z) Qg) (fun _ => by kernel_rfl) ?_
  intro c3 dY bz
  refine ⟨agq, ?_⟩
  obtain ⟨ds, bU, n⟩ := Zg n
  refine G ?_
  refine Qh (E := encFact) (ys := [(⟨af, IntKind.i64.wrap (ag - ab.Lo)⟩ : Fact)]) bz.f7 S24.h Z51 Z (by decide) Z Z Z Z ⟨[O af, O (IntKind.i64.wrap (ag - ab.Lo))], [], Z, ⟨[O af], [O (IntKind.i64.wrap (ag - ab.Lo))], Z, Z, Z⟩, Z⟩ Z bU ?_
  intro dM dZ de
  refine ⟨agq, ?_⟩
  cases n
  refine G ?_
  exact fq
 intro cO ea bp
 obtain ⟨d8, ay, bB, b0, ⟨cP, rfl⟩⟩ := bp
 obtain ⟨dt, bV, hm⟩ := Zg hm
 refine G ?_
 refine Tc Z Z Z Z (QcM bV b0.f6).r ?_
 rintro _ eb ⟨d9, bC, b1, rfl⟩
 obtain ⟨ce, bW, hm⟩ := Zg hm
 obtain ⟨aY, aN⟩ := ce
 replace hm := Q3 hm
 refine G ?_
 refine Tc Z Z Z Z (Ye bW b1).r ?_
 rintro az ec ⟨aS, _, bD, b2, rfl, ca⟩
 obtain ⟨dC, bX, hm⟩ := Zg hm
 have b3 := b2.arr_head ca (by simpa using QbC bX)
 obtain ⟨aA, bj, bA, b8, b5⟩ := Qu hm
 refine g ?_
 refine Zc (Zc (Zd (g ?_)))
 refine Qs (M := fun f' w' => ∃ s', (aA = .next s' ∨ aA = .brk s') ∧ (fun (aK : Int) => ∃ (aT : PHeap) , PHeap.le aS aT ∧ St w0 aT (Res.box m 67 [q, t, u, x, y, b, d, i, j] :: Res.arr (Qc .i64) 3 b a.vars :: Res.arr encFact 51 d a.atoms :: Res.arr encBool 4 i a.grouped :: Res.arr (Qc .i64) 3 j a.fluents :: Res.arr encFact 51 z p :: Res.arr encFact 51 az (aN.take aY) :: H) w' ∧ Fx f' [(12, az), (19, O aK)]) s') ?_ ?_
 ·refine G ?_
  refine Ym (fun s' f' w' => (fun (aL : Int) => ∃ (aU : PHeap) , PHeap.le aS aU ∧ St w0 aU (Res.box m 67 [q, t, u, x, y, b, d, i, j] :: Res.arr (Qc .i64) 3 b a.vars :: Res.arr encFact 51 d a.atoms :: Res.arr encBool 4 i a.grouped :: Res.arr (Qc .i64) 3 j a.fluents :: Res.arr encFact 51 z p :: Res.arr encFact 51 az (aN.take aY) :: H) w' ∧ Fx f' [(12, az), (19, O aL)]) s') bj ?_ ?_
  ·have df := b3.f6
   exact fq
  intro aL aB cQ ed bq l aJ
  obtain ⟨aV, aO, ac, ⟨cR, rfl⟩⟩ := bq
  refine G ?_
  refine Q2 (ac.f6) S24.h Z Z (G ?_)
  rcases Qv l with ⟨b6, l⟩ | ⟨b6, l⟩
  ·refine G ?_
   refine KM (n0 := 12) (qs 0 12 .done) KL (by kernel_rfl) (by kernel_rfl) ?_
   obtain ⟨cj, aq, l⟩ := Zg l
   obtain ⟨cX, c7, aF⟩ := ((ac.drew).f6).arr_at aq
   refine G ?_
   refine Qn S24.h Z aF Z (Qr aq).1 (Qr aq).2.1 ⟨Z, ?_⟩
   refine G ?_
   refine Qz (F := (Qc .i64)) ((ac.drew).f6) aF A3.h Z Z Z aq (Sub.iso (Sub.fst (Sub.refl _))) ?_
   intro ch bY
   obtain rfl : ch = O (cj.Var) := Qm.1 bY
   refine ⟨Z, ?_⟩
   obtain ⟨ck, ar, l⟩ := Zg l
   obtain ⟨cY, c8, aG⟩ := ((ac.drew).f6).arr_at ar
   refine G ?_
   refine Qn S24.h Z aG Z (Qr ar).1 (Qr ar).2.1 ⟨Z, ?_⟩
   refine G ?_
   refine Qz (F := (Qc .i64)) ((ac.drew).f6) aG A3.h Z Z Z ar (Sub.iso (Sub.fst (Sub.refl _))) ?_
   intro ci bZ
   obtain rfl : ci = O (ck.Var) := Qm.1 bZ
   refine ⟨Z, ?_⟩
   refine G ?_
   rcases Qv l with ⟨b7, l⟩ | ⟨b7, l⟩
   ·have cB := Zu l
    subst aB
    have b9 := bA _ (aJ (by intro _ h; cases h))
    have cC := Zu b9
    subst r
    refine G ?_
    refine ⟨_, Qbv Z, ?_⟩
    exact ⟨aV, Vn, (Zt (Zt (Zt (Zt (Zt (Zt a1 a3) a5) bB) bC) bD) aO), ((((((((ac.drew).f6).drop).f5).f5).f5).f5).f5).f5, (QfM Z Z), (SliceRep.nil _ _)⟩
   have cD := Zu l
   subst aB
   refine G ?_
   refine ⟨_, Z, ?_⟩; exact ⟨aV, aO, (((((((ac.drew).f6).f6).f6).f6).f6).f6).f6, (Fx.mk)⟩
  cases l
  refine G ?_
  exact ⟨_, .inr (aJ (by intro _ h; cases h)), fq⟩
 rintro cS ee ⟨aK, aI, br⟩
 have hm := aI.elim (b8 _) (b5 _)
 clear aI
 obtain ⟨dA, du, b4, ⟨cT, rfl⟩⟩ := br
 cases hm
 refine G ?_
 refine ⟨_, Qbv Z, ?_⟩
 obtain ⟨dB, dv, dg, d1⟩ := b4.f6.freezeArr
 exact fq
instance S119 : STy Tryz.prog 119 24 1 24 := ⟨by kernel_rfl⟩
theorem Z24 : JF Tryz.prog 24 = some (Value.slice none 0 0) := by kernel_rfl
theorem Qbj {w0 w : World} {s : PHeap} {H : List Res} {fu : Nat} {a : encode_encoder} {aa : Cond} {ak : (List Int)} {aw : (List Int)} {p : (List Fact)} {m : Nat} {q : Value} {t : Value} {u : Value} {x : Value} {y : Value} {d : Value} {i : Value} {j : Value} {l : Value} {ab : Value} {ac : Value} {ad : Value} {ap : Value} {aq : Value} {o : Value} {r : (List (List Fact))} (hm : QR fu a aa ak aw p = some r) (hS : St w0 s (Res.box m 67 [q, t, u, x, y, d, i, j, l] :: Res.arr (Qc .i64) 3 d a.vars :: Res.arr encFact 51 i a.atoms :: Res.arr encBool 4 j a.grouped :: Res.arr (Qc .i64) 3 l a.fluents :: Res.arr encFact 51 o p :: H) w) (aU : SliceRep encAtom s q a.g.Atoms) (aV : SliceRep encGFluent s t a.g.Fluents) (aW : SliceRep (Qc .i64) s u a.g.Init) (aX : SliceRep encCond s x a.g.Goal) (aY : SliceRep encGOp s y a.g.Ops) (aZ : SliceRep (Qc .i64) s ab aa.Pos) (ba : SliceRep (Qc .i64) s ac aa.Neg) (ay : SliceRep encGTest s ad aa.Tests) (az : SliceRep (Qc .i64) s ap ak) (bb : SliceRep (Qc .i64) s aq aw) :
  Calls Tryz.prog 55 #[Value.pointer (some ⟨m, 0, none⟩), Value.agg #[ab, ac, ad], ap, aq, o] w fun e w' => ∃ v, e = .returned v ∧ ((fun (aS : (List (List Fact))) => ∃ (ah : PHeap) (ar : Value), PHeap.le s ah ∧ St w0 ah (Res.box m 67 [q, t, u, x, y, d, i, j, l] :: Res.arr (Qc .i64) 3 d a.vars :: Res.arr encFact 51 i a.atoms :: Res.arr encBool 4 j a.grouped :: Res.arr (Qc .i64) 3 l a.fluents :: Res.arr encFact 51 o p :: H) w' ∧ v = ar ∧ SliceRep (Qp encFact) ah ar aS) r) := by
 unfold QR at hm
 refine Ql Tryz.func55 Z Z (G ?_)
 refine JH Z Z ?_
 intro z bB a5
 obtain ⟨bL, aF, hm⟩ := Zg hm
 refine G ?_
 refine Tc Z Z Z Z (Yo aF a5 ay az).r ?_
 rintro au bC ⟨b2, _, bp, a6, rfl, aM⟩
 obtain ⟨ax, aG, hm⟩ := Zg hm
 refine G ?_
 refine Tc Z Z Z (Zi Z (Zi Z (Zi Z Qx))) (JS aG ((((a6.f5).f5).f5).f5).f5 rq rq rq rq rq aM rq).r ?_
 rintro av bD ⟨aO, _, bq, a7, rfl, b0⟩
 obtain ⟨ag, a1, hm⟩ := Zg hm
 refine G ?_
 refine QS (fun k' s' f' w' => (fun (ag : (List (List Fact))) => ∃ (an : PHeap) (ae : Value), PHeap.le aO an ∧ St w0 an (Res.box m 67 [q, t, u, x, y, d, i, j, l] :: Res.arr (Qc .i64) 3 d a.vars :: Res.arr encFact 51 i a.atoms :: Res.arr encBool 4 j a.grouped :: Res.arr (Qc .i64) 3 l a.fluents :: Res.arr encFact 51 o p :: Res.box z 85 [ab, ac, ad] :: Res.arr (Qp encFact) 24 ae ag :: H) w' ∧ Fx f' [(26, O (k' : Int)), (0, Vq m), (4, o), (6, Vq z), (11, au), (12, ae), (24, av), (25, O ((ax.length : Int)))]) s') a1 ?_ ?_ ?_
 ·have bk := a7.nilArr (Qp encFact) 24
  exact fq
 ·intro aE ag b3 be bE bo a2 b
  obtain ⟨b4, ae, br, al, ⟨bf, rfl⟩⟩ := a2
  obtain ⟨aR, aH, b⟩ := Zg b
  refine G ?_
  refine QI Z Z Z aH ?_
  intro bc bz a0
  refine G ?_
  refine Zw (E := (Qp (Qc .i64))) al A22.h Z Z Z a0 ?_
  intro b9 aI
  have aN : SliceRep _ _ _ (aR) := QG.1 aI
  obtain ⟨bM, aJ, b⟩ := Zg b
  refine G ?_
  refine Tc Z Z Z (Zi Z (Zi Z (Zi Z Qx))) (KF aJ ((((al.f4).f4).f4).f4).f4 rq rq rq rq rq rq aN).r ?_
  rintro _ bF ⟨b5, bs, a8, rfl⟩
  refine G ?_
  rcases Qv b with ⟨aC, b⟩ | ⟨aC, b⟩
  ·cases b
   refine G ?_
   exact fq
  obtain ⟨aQ, aK, b⟩ := Zg b
  obtain ⟨aT, bN⟩ := aQ
  replace b := Q3 b
  refine G ?_
  refine Tc Z Z Z (Zi Z (Zi Z (Zi Z (Zi Z (Zi Z Qx))))) (Qbh aK (((((a8.f5).f5).f5).f5).f5).f5 rq rq rq rq rq rq rq rq rq rq).r ?_
  rintro _ bG ⟨aP, ai, bt, a9, rfl, am⟩
  obtain ⟨af, n, b⟩ := Zg b
  refine g ?_
  refine Zc (Zd (g ?_))
  refine Qs (M := fun f' w' => (fun (af : (List (List Fact))) => ∃ (ao : PHeap) (aj : Value), PHeap.le aP ao ∧ St w0 ao (Res.box m 67 [q, t, u, x, y, d, i, j, l] :: Res.arr (Qc .i64) 3 d a.vars :: Res.arr encFact 51 i a.atoms :: Res.arr encBool 4 j a.grouped :: Res.arr (Qc .i64) 3 l a.fluents :: Res.arr encFact 51 o p :: Res.box z 85 [ab, ac, ad] :: Res.arr (Qp encFact) 24 aj af :: H) w' ∧ Fx f' [(0, Vq m), (4, o), (6, Vq z), (11, au), (12, aj), (24, av), (25, O ((ax.length : Int))), (26, O ((aE : Int)))]) af) ?_ ?_
  ·rcases Qv n with ⟨aD, n⟩ | ⟨aD, n⟩
   ·refine G ?_
    refine Exec.buildSlice (Te := 24) (cs := [ai]) a9 Z (Qd (c := [ai]) (Qf Z (Qj am.one)) Qg) (fun _ => by kernel_rfl) ?_
    intro bd bH aA
    obtain ⟨bu, aL, n⟩ := Zg n
    refine G ?_
    refine Qh (E := (Qp encFact)) (ys := [aT]) aA.f8 S119.h Z24 Z (by decide) Z Z Z Z ⟨[ai], [], Z, ⟨_, Z, am⟩, Z⟩ Z aL ?_
    intro bA bI bl
    cases n
    refine G ?_
    exact fq
   cases n
   refine G ?_
   exact fq
  intro bg bJ a4
  obtain ⟨b6, aj, bv, bm, ⟨bh, rfl⟩⟩ := a4
  cases b
  refine G ?_
  exact fq
 intro bi bK a3
 obtain ⟨b7, ae, bw, aB, ⟨bj, rfl⟩⟩ := a3
 cases hm
 refine G ?_
 refine ⟨_, Qa5 Z, ?_⟩
 obtain ⟨b8, bx, bn, b1⟩ := aB.f7.freezeArr
 exact fq
instance S53 : STy Tryz.prog 53 60 3 40 := ⟨by kernel_rfl⟩
theorem Z60 : JF Tryz.prog 60 = some (Value.agg #[Value.slice none 0 0, O 0, O 0]) := by kernel_rfl
theorem Qbi {w0 w : World} {s : PHeap} {H : List Res} {fu : Nat} {a : encode_encoder} {b : GOp} {aM : (List Int)} {bg : (List Int)} {j : Nat} {z : Value} {aa : Value} {ab : Value} {ac : Value} {ad : Value} {l : Value} {m : Value} {n : Value} {o : Value} {am : Value} {an : Value} {ao : Value} {t : Value} {af : Value} {ap : Value} {ag : Value} {r : (List Effect)} (hm : Je fu a b aM bg = some r) (hS : St w0 s (Res.box j 67 [z, aa, ab, ac, ad, l, m, n, o] :: Res.arr (Qc .i64) 3 l a.vars :: Res.arr encFact 51 m a.atoms :: Res.arr encBool 4 n a.grouped :: Res.arr (Qc .i64) 3 o a.fluents :: H) w) (cu : SliceRep encAtom s z a.g.Atoms) (bi : SliceRep encGFluent s aa a.g.Fluents) (cv : SliceRep (Qc .i64) s ab a.g.Init) (cw : SliceRep encCond s ac a.g.Goal) (cx : SliceRep encGOp s ad a.g.Ops) (cy : SliceRep (Qc .i64) s am b.Pre.Pos) (cz : SliceRep (Qc .i64) s an b.Pre.Neg) (c0 : SliceRep encGTest s ao b.Pre.Tests) (c1 : SliceRep encGChange s t b.Changes) (c2 : SliceRep encGAssign s af b.Assigns) (c3 : SliceRep (Qc .i64) s ap aM) (c4 : SliceRep (Qc .i64) s ag bg) :
  Calls Tryz.prog 54 #[Value.pointer (some ⟨j, 0, none⟩), Value.agg #[Value.string (b.Name), O (b.Cost), am, an, ao, t, af], ap, ag] w fun e w' => ∃ v, e = .returned v ∧ ((fun (cr : (List Effect)) => ∃ (aH : PHeap) (bf : Value), PHeap.le s aH ∧ St w0 aH (Res.box j 67 [z, aa, ab, ac, ad, l, m, n, o] :: Res.arr (Qc .i64) 3 l a.vars :: Res.arr encFact 51 m a.atoms :: Res.arr encBool 4 n a.grouped :: Res.arr (Qc .i64) 3 o a.fluents :: H) w' ∧ v = bf ∧ SliceRep encEffect aH bf cr) r) := by
 unfold Je at hm
 refine Ql Tryz.func54 Z Z (G ?_)
 refine JH Z Z ?_
 intro x el b3
 refine G ?_
 refine Exec.buildSlice (Te := 4) (cs := [Vb false, Vb true]) b3 Z (Qd (c := [Vb false]) (Qf Z Z) (Qd (c := [Vb true]) (Qf Z Z) Qg)) (fun _ => by kernel_rfl) ?_
 intro au em b4
 have b5 := St.boxArr (E := encBool) (xs := [false, true]) b4 ⟨[Vb false], [Vb true], rfl, rfl, ⟨[Vb true], [], rfl, rfl, rfl⟩⟩ (by simp [maxLen])
 obtain ⟨ch, bK, b6, dK⟩ := b5.freezeArr
 obtain ⟨aG, bo, hm⟩ := Zg hm
 refine G ?_
 refine QS (fun k' s' f' w' => (fun (aG : (List Effect)) => ∃ (aU : PHeap) (a7 : Value), PHeap.le ch aU ∧ St w0 aU (Res.box j 67 [z, aa, ab, ac, ad, l, m, n, o] :: Res.arr (Qc .i64) 3 l a.vars :: Res.arr encFact 51 m a.atoms :: Res.arr encBool 4 n a.grouped :: Res.arr (Qc .i64) 3 o a.fluents :: Res.box x 92 [Value.string (b.Name), O (b.Cost), am, an, ao, t, af] :: Res.arr encEffect 60 a7 aG :: H) w' ∧ Fx f' [(24, O (k' : Int)), (0, Vq j), (2, ap), (3, ag), (5, Vq x), (9, a7), (22, Vs (some ⟨au, 0, none⟩) 2 2), (23, O (([false, true].length : Int)))]) s') bo ?_ ?_ ?_
 ·have df := b6.nilArr encEffect 60
  exact fq
 ·intro a4 aG dQ cI en dw bs aw
  obtain ⟨ci, a7, d2, aN, ⟨cJ, rfl⟩⟩ := bs
  obtain ⟨az, bO, aw⟩ := Zg aw
  refine G ?_
  refine QI Z Z Z bO ?_
  intro c5 dF bj
  refine G ?_
  refine Zw (E := encBool) aN A4.h Z Z Z bj ?_
  intro cm bP
  obtain rfl : cm = Value.bool (az) := KK.1 bP
  obtain ⟨ay, bp, aw⟩ := Zg aw
  refine G ?_
  refine QS (fun k' s' f' w' => (fun (ay : (List Effect)) => ∃ (aV : PHeap) (ah : Value), PHeap.le ci aV ∧ St w0 aV (Res.box j 67 [z, aa, ab, ac, ad, l, m, n, o] :: Res.arr (Qc .i64) 3 l a.vars :: Res.arr encFact 51 m a.atoms :: Res.arr encBool 4 n a.grouped :: Res.arr (Qc .i64) 3 o a.fluents :: Res.box x 92 [Value.string (b.Name), O (b.Cost), am, an, ao, t, af] :: Res.arr encEffect 60 ah ay :: H) w' ∧ Fx f' [(31, O (k' : Int)), (0, Vq j), (2, ap), (3, ag), (5, Vq x), (9, ah), (11, Vb az), (22, Vs (some ⟨au, 0, none⟩) 2 2), (23, O (([false, true].length : Int))), (24, O ((a4 : Int))), (29, t), (30, O ((b.Changes.length : Int)))]) s') bp ?_ ?_ ?_
  ·have dg := aN.f6
   exact fq
  ·intro aC ay dR cK eo dx bt i
   obtain ⟨aW, ah, d3, aO, ⟨cL, rfl⟩⟩ := bt
   obtain ⟨aA, bQ, i⟩ := Zg i
   refine G ?_
   refine QI Z Z Z bQ ?_
   intro c6 dG bk
   refine G ?_
   refine Zw (E := encGChange) aO A97.h Z Z Z bk ?_
   intro ee bR
   obtain ⟨bc, bd, be, rfl, dL, dM, dN⟩ := Ji.1 bR
   refine G ?_
   refine Exec.alloc (cs := [Vn, Vn, Vn, O 0, Vb false]) aO Z97 Z Z ?_
   intro a0 ep dh
   refine G ?_
   refine Xst Z Z Z ?_
   intro er av
   refine G ?_
   refine Qf3 Tryz.underlying4 Z Z Z (G ?_)
   rcases Qv i with ⟨bH, i⟩ | ⟨bH, i⟩
   ·cases i
    refine G ?_
    exact fq
   refine G ?_
   refine KM (n0 := 9) (qs 0 8 (.e 8 [0, 1, 2, 3, 4, 5, 6, 7] .done)) KL (by kernel_rfl) (by kernel_rfl) (G ?_)
   refine Zn ((av.drew).f1) A24.h Z Z Z ⟨Z, ?_⟩
   refine G ?_
   refine Zn (av.drew) A3.h Z Z Z ⟨Z, ?_⟩
   obtain ⟨d, al, i⟩ := Zg i
   obtain ⟨dc, cE, a1⟩ := ((av.drew).f3).arr_at al
   refine G ?_
   refine Qn S24.h Z a1 Z (Qr al).1 (Qr al).2.1 ⟨Z, ?_⟩
   refine G ?_
   refine Qz (F := encFact) ((av.drew).f3) a1 A51.h Z Z Z al (Sub.refl _) ?_
   intro ef bS
   obtain rfl := Ju.1 bS
   refine ⟨Z, ?_⟩
   refine G ?_
   refine Exec.alloc (cs := [O 0, O 0]) av.drew Z51 Z Z ?_
   intro aq es aB
   refine ⟨(Qa (U Z Z (Zm (v := Vq j) Z Z ⟨Z, Z⟩)) (Qa (U Z Z (Qb Z Z ⟨Z, Z⟩)) (Qa (U Z Z (Zp F67_2.h Z Z Z ⟨Z, Z⟩)) (Qa (U Z Z (Zn (aB.f2) A24.h Z Z Z ⟨Z, Z⟩)) (Qa (U Z Z (Zp F97_1.h Z Z Z ⟨Z, Z⟩)) (Qa (U Z Z (Zn (aB.f1) A3.h Z Z Z ⟨Z, Z⟩)) (Qa (U Z Z (Qn S24.h Z a1 Z (Qr al).1 (Qr al).2.1 ⟨Z, Z⟩)) (Qa (U Z Z (Qz (F := encFact) (aB.f4) a1 A51.h Z Z Z al (Sub.refl _) (fun _ q => ⟨Z, Ju.1 q⟩))) Qi)))))))), ?_⟩
   refine G ?_
   refine Xst Z Z Z ?_
   intro et aP
   obtain ⟨bb, y, i⟩ := Zg i
   refine g ?_
   refine Zc (Zd (g ?_))
   refine Zc (Zc (Zd (g ?_)))
   refine Qs (M := fun f' w' => (QO fun (aS : (List Fact)) (u : Int) => ∃ (aX : PHeap) (aI : Value), PHeap.le aW aX ∧ St w0 aX (Res.box j 67 [z, aa, ab, ac, ad, l, m, n, o] :: Res.arr (Qc .i64) 3 l a.vars :: Res.arr encFact 51 m a.atoms :: Res.arr encBool 4 n a.grouped :: Res.arr (Qc .i64) 3 o a.fluents :: Res.box x 92 [Value.string (b.Name), O (b.Cost), am, an, ao, t, af] :: Res.arr encEffect 60 ah ay :: Res.box a0 97 [bc, bd, be, O (aA.Atom), Vb (aA.Add)] :: Res.box aq 51 [O (d.Var), O u] :: Res.arr encFact 51 aI aS :: H) w' ∧ Fx f' [(0, Vq j), (2, ap), (3, ag), (5, Vq x), (9, ah), (11, Vb az), (13, Vq a0), (14, Vq aq), (15, aI), (22, Vs (some ⟨au, 0, none⟩) 2 2), (23, O (([false, true].length : Int))), (24, O ((a4 : Int))), (29, t), (30, O ((b.Changes.length : Int))), (31, O ((aC : Int)))]) bb) ?_ ?_
   ·rcases Qv y with ⟨bI, y⟩ | ⟨bI, y⟩
    ·refine G ?_
     refine KM (n0 := 8) (qs 0 8 .done) KL (by kernel_rfl) (by kernel_rfl) ?_
     have a2 := aP.drew
     obtain ⟨cq, a5, y⟩ := Zg y
     obtain ⟨dd, cF, aK⟩ := (a2.f5).arr_at a5
     refine G ?_
     refine Qn S65.h Z aK Z (Qr a5).1 (Qr a5).2.1 ⟨Z, ?_⟩
     refine G ?_
     refine Qz (F := encBool) (a2.f5) aK A4.h Z Z Z a5 (Sub.refl _) ?_
     intro cn bT
     obtain rfl : cn = Value.bool (cq) := KK.1 bT
     refine ⟨Z, ?_⟩
     obtain ⟨aF, ak, y⟩ := Zg y
     refine g ?_
     refine Qs (M := fun f' w' => (fun (aF : (List Fact)) => ∃ (aY : PHeap) (aJ : Value), PHeap.le aW aY ∧ St w0 aY (Res.box j 67 [z, aa, ab, ac, ad, l, m, n, o] :: Res.arr (Qc .i64) 3 l a.vars :: Res.arr encFact 51 m a.atoms :: Res.arr encBool 4 n a.grouped :: Res.arr (Qc .i64) 3 o a.fluents :: Res.box x 92 [Value.string (b.Name), O (b.Cost), am, an, ao, t, af] :: Res.arr encEffect 60 ah ay :: Res.box a0 97 [bc, bd, be, O (aA.Atom), Vb (aA.Add)] :: Res.box aq 51 [O (d.Var), O (d.Val)] :: Res.arr encFact 51 aJ aF :: H) w' ∧ Fx f' [(0, Vq j), (2, ap), (3, ag), (5, Vq x), (9, ah), (11, Vb az), (13, Vq a0), (14, Vq aq), (15, aJ), (22, Vs (some ⟨au, 0, none⟩) 2 2), (23, O (([false, true].length : Int))), (24, O ((a4 : Int))), (29, t), (30, O ((b.Changes.length : Int))), (31, O ((aC : Int)))]) aF) ?_ ?_
     ·rcases Qv ak with ⟨bJ, ak⟩ | ⟨bJ, ak⟩
      ·refine G ?_
       refine Exec.buildSlice (Te := 51) (cs := [O (d.Var), O (d.Val)]) a2 Z (Qd (c := [O (d.Var), O (d.Val)]) (Qf Z Z) Qg) (fun _ => by kernel_rfl) ?_
       intro c7 eu b7
       have b8 := b7.nilArr encFact 51
       obtain ⟨d4, bU, ak⟩ := Zg ak
       refine G ?_
       refine Qh (E := encFact) (ys := [d]) (b8.f1).f1 S24.h Z51 Z (by decide) Z Z Z Z ⟨[O (d.Var), O (d.Val)], [], Z, ⟨[O (d.Var)], [O (d.Val)], Z, Z, Z⟩, Z⟩ Z bU ?_
       intro eg ev di
       cases ak
       refine G ?_
       exact fq
      cases ak
      refine G ?_
      have dj := a2.nilArr encFact 51
      exact fq
     intro cM ew b1
     obtain ⟨dS, aJ, d5, dk, ⟨cN, rfl⟩⟩ := b1
     refine G ?_
     refine Xst Z Z Z ?_
     intro ex dl
     cases y
     refine G ?_
     exact fq
    cases y
    refine G ?_
    have dm := aP.nilArr encFact 51
    exact fq
   intro cO ey b2
   obtain ⟨aS, u⟩ := bb
   replace i := Q3 i
   obtain ⟨dT, aI, d6, b9, ⟨cP, rfl⟩⟩ := b2
   obtain ⟨ct, bV, i⟩ := Zg i
   refine G ?_
   refine Tc Z Z Z (Zi Z (Zi Z (Zi Z (Zi Z (Zi Z Qx))))) (Qbj bV (((((b9.f9).f5).f5).f5).f5).f5 rq rq rq rq rq rq rq rq rq rq).r ?_
   rintro co ez ⟨cj, _, d7, bA, rfl, dO⟩
   obtain ⟨aD, bq, i⟩ := Zg i
   refine G ?_
   refine QS (fun k' s' f' w' => (fun (aD : (List Effect)) => ∃ (aZ : PHeap) (a8 : Value), PHeap.le cj aZ ∧ St w0 aZ (Res.box j 67 [z, aa, ab, ac, ad, l, m, n, o] :: Res.arr (Qc .i64) 3 l a.vars :: Res.arr encFact 51 m a.atoms :: Res.arr encBool 4 n a.grouped :: Res.arr (Qc .i64) 3 o a.fluents :: Res.box x 92 [Value.string (b.Name), O (b.Cost), am, an, ao, t, af] :: Res.arr encEffect 60 a8 aD :: Res.box aq 51 [O (d.Var), O u] :: H) w' ∧ Fx f' [(70, O (k' : Int)), (0, Vq j), (2, ap), (3, ag), (5, Vq x), (9, a8), (11, Vb az), (14, Vq aq), (22, Vs (some ⟨au, 0, none⟩) 2 2), (23, O (([false, true].length : Int))), (24, O ((a4 : Int))), (29, t), (30, O ((b.Changes.length : Int))), (31, O ((aC : Int))), (68, co), (69, O ((ct.length : Int)))]) s') bq ?_ ?_ ?_
   ·have dn := (bA.f5).drop
    exact fq
   ·intro d0 aD dU cQ e0 dy bu ax
    obtain ⟨dV, a8, d8, aQ, ⟨cR, rfl⟩⟩ := bu
    obtain ⟨bh, bW, ax⟩ := Zg ax
    refine G ?_
    refine QI Z Z Z bW ?_
    intro c8 dH bl
    refine G ?_
    refine Zw (E := (Qp encFact)) aQ A24.h Z Z Z bl ?_
    intro ar bX
    have aT : SliceRep _ _ _ (bh) := QG.1 bX
    refine G ?_
    refine Exec.build Z (Qd (c := [ar]) (Qf Z (Qj aT.one)) (Qd (c := [O (d.Var)]) (Qf Z Z) (Qd (c := [O u]) (Qf Z Z) Qg))) (v := Value.agg #[ar, O (d.Var), O u]) (fun _ => by kernel_rfl) (G ?_)
    refine Exec.buildSlice (Te := 60) (cs := [ar, O (d.Var), O u]) aQ Z (Qd (c := [ar, O (d.Var), O u]) (Qf Z Z) Qg) (fun _ => by kernel_rfl) ?_
    intro c9 e1 bB
    obtain ⟨d9, bY, ax⟩ := Zg ax
    refine G ?_
    refine Qh (E := encEffect) (ys := [(⟨bh, d.Var, u⟩ : Effect)]) bB.f7 S53.h Z60 Z (by decide) Z Z Z Z ⟨[ar, O (d.Var), O u], [], Z, ⟨[ar], [O (d.Var), O u], Z, ⟨_, Z, aT⟩, ⟨[O (d.Var)], [O u], Z, Z, Z⟩⟩, Z⟩ Z bY ?_
    intro eh e2 dp
    cases ax
    refine G ?_
    exact fq
   intro cS e3 bv
   obtain ⟨dW, a8, dA, dq, ⟨cT, rfl⟩⟩ := bv
   cases i
   refine G ?_
   exact fq
  intro cU e4 bw
  obtain ⟨dX, ah, dB, dr, ⟨cV, rfl⟩⟩ := bw
  cases aw
  refine G ?_
  exact fq
 intro cW e5 bx
 obtain ⟨ck, a7, bL, bC, ⟨cX, rfl⟩⟩ := bx
 obtain ⟨aE, br, hm⟩ := Zg hm
 refine G ?_
 refine QS (fun k' s' f' w' => (fun (aE : (List Effect)) => ∃ (ba : PHeap) (a9 : Value), PHeap.le ck ba ∧ St w0 ba (Res.box j 67 [z, aa, ab, ac, ad, l, m, n, o] :: Res.arr (Qc .i64) 3 l a.vars :: Res.arr encFact 51 m a.atoms :: Res.arr encBool 4 n a.grouped :: Res.arr (Qc .i64) 3 o a.fluents :: Res.arr encEffect 60 a9 aE :: H) w' ∧ Fx f' [(89, O (k' : Int)), (0, Vq j), (3, ag), (9, a9), (87, af), (88, O ((b.Assigns.length : Int)))]) s') br ?_ ?_ ?_
 ·have ds := (bC.f5).drop
  exact fq
 ·intro d1 aE dY cY e6 dz bz p
  obtain ⟨dZ, a9, bM, aR, ⟨cZ, rfl⟩⟩ := bz
  obtain ⟨eD, bZ, p⟩ := Zg p
  refine G ?_
  refine QI Z Z Z bZ ?_
  intro cA dI bm
  refine G ?_
  refine Zw (E := encGAssign) aR A108.h Z Z Z bm ?_
  intro ei ca
  obtain ⟨ed, rfl, cg⟩ := Qae.1 ca
  refine G ?_
  refine Exec.alloc (cs := [O 0, Value.string (⟨#[]⟩), O 0, Vn]) aR Qj8 Z Z ?_
  intro cB e7 dt
  refine G ?_
  refine Xst Z Z Z ?_
  intro e8 bD
  obtain ⟨cl, cb, p⟩ := Zg p
  obtain ⟨aj, eE⟩ := cl
  replace p := Q3 p
  refine G ?_
  refine Tc Z Z Z (Zi Z (Zi Z (Zi Z Qx))) (JU cb ((((bD.f5).f5).f5).f5).f5 rq rq rq rq rq cg rq).r ?_
  rintro _ e9 ⟨ea, bN, bE, rfl⟩
  refine G ?_
  refine KM (n0 := 24) (qs 0 22 (.e 22 [0] (.e 23 [] .done))) KL (by kernel_rfl) (by kernel_rfl) ?_
  have a3 := bE.drew
  obtain ⟨ai, a6, p⟩ := Zg p
  obtain ⟨de, cG, aL⟩ := (a3.f4).arr_at a6
  refine G ?_
  refine Qn S22.h Z aL Z (Qr a6).1 (Qr a6).2.1 ⟨Z, ?_⟩
  refine G ?_
  refine Qz (F := (Qc .i64)) (a3.f4) aL A3.h Z Z Z a6 (Sub.refl _) ?_
  intro ej cc
  obtain rfl := Qm.1 cc
  refine ⟨Z, ?_⟩
  obtain ⟨ae, cd, p⟩ := Zg p
  refine G ?_
  refine Q1 S40.h Z Z Z (bi.mono (Zt (Zt (Zt bK bL) bM) bN)) cd ?_
  intro cC dJ bn cH
  refine ⟨Z, ?_⟩
  refine G ?_
  refine Zw (E := (Qc .i64)) a3 A3.h Z Z Z (bn.sub (Sub.iso (QD (Sub.fst (Sub.refl _)) Z)) Z) ?_
  intro cp ce
  obtain rfl : cp = O (ae.Lo) := Qm.1 ce
  refine ⟨Z, ?_⟩
  refine G ?_
  refine Exec.build Z (Qd (c := [O ai]) (Qf Z Z) (Qd (c := [O (IntKind.i64.wrap (aj - ae.Lo))]) (Qf Z Z) Qg)) (v := Value.agg #[Vn, O ai, O (IntKind.i64.wrap (aj - ae.Lo))]) (fun _ => by kernel_rfl) ⟨Z, ?_⟩
  refine G ?_
  refine Exec.buildSlice (Te := 60) (cs := [Vn, O ai, O (IntKind.i64.wrap (aj - ae.Lo))]) a3 Z (Qd (c := [Vn, O ai, O (IntKind.i64.wrap (aj - ae.Lo))]) (Qf Z Z) Qg) (fun _ => by kernel_rfl) ?_
  intro cD eA bF
  refine ⟨agq, ?_⟩
  obtain ⟨dC, cf, p⟩ := Zg p
  refine G ?_
  refine Qh (E := encEffect) (ys := [(⟨[], ai, IntKind.i64.wrap (aj - ae.Lo)⟩ : Effect)]) bF.f7 S53.h Z60 Z (by decide) Z Z Z Z ⟨[Vn, O ai, O (IntKind.i64.wrap (aj - ae.Lo))], [], Z, ⟨[Vn], [O ai, O (IntKind.i64.wrap (aj - ae.Lo))], Z, ⟨_, Z, (SliceRep.nil _ _)⟩, ⟨[O ai], [O (IntKind.i64.wrap (aj - ae.Lo))], Z, Z, Z⟩⟩, Z⟩ Z cf ?_
  intro ek eB du
  refine ⟨agq, ?_⟩
  cases p
  refine G ?_
  exact fq
 intro da eC b0
 obtain ⟨eb, a9, dD, bG, ⟨db, rfl⟩⟩ := b0
 cases hm
 refine G ?_
 refine ⟨_, Qa5 Z, ?_⟩
 obtain ⟨ec, dE, dv, dP⟩ := bG.f5.freezeArr
 exact fq
instance F29_3 : FTy Tryz.prog 29 3 6 := ⟨by kernel_rfl⟩
instance F27_3 : FTy Tryz.prog 27 3 3 := ⟨by kernel_rfl⟩
instance A25 : ATy Tryz.prog 25 false 1 := ⟨by kernel_rfl⟩
instance S25 : STy Tryz.prog 25 55 4 72 := ⟨by kernel_rfl⟩
theorem Z55 : JF Tryz.prog 55 = some (Value.agg #[Value.string ⟨#[]⟩, O 0, Value.slice none 0 0, Value.slice none 0 0]) := by kernel_rfl
theorem QaB {w0 w : World} {s : PHeap} {H : List Res} {fu : Nat} {d : encode_encoder} {m : Encoding} {n : Int} {aQ : (List Int)} {ab : Nat} {af : Value} {ag : Value} {ah : Value} {ai : Value} {aj : Value} {t : Value} {u : Value} {x : Value} {y : Value} {b : Nat} {o : Value} {p : Value} {q : Value} {bj : Value} {z : Value} {aa : Value} {bk : Value} {bl : Value} {r : Bool × (List Op) × (List Int)} (hm : QV fu d m n aQ = some r) (hS : St w0 s (Res.box ab 67 [af, ag, ah, ai, aj, t, u, x, y] :: Res.arr (Qc .i64) 3 t d.vars :: Res.arr encFact 51 u d.atoms :: Res.arr encBool 4 x d.grouped :: Res.arr (Qc .i64) 3 y d.fluents :: Res.box b 29 [o, p, q, bj, z, aa, bk] :: Res.arr (Qc .i64) 3 o m.Task.Vars :: Res.arr (Qc .i64) 3 p m.Task.Init :: Res.arr encFact 51 q m.Task.Goal :: Res.arr encOp 55 bj m.Task.Ops :: Res.arr (Qc .i64) 3 bk m.Ops :: H) w) (ch : SliceRep encAtom s af d.g.Atoms) (ci : SliceRep encGFluent s ag d.g.Fluents) (cj : SliceRep (Qc .i64) s ah d.g.Init) (ck : SliceRep encCond s ai d.g.Goal) (cl : SliceRep encGOp s aj d.g.Ops) (cm : SliceRep (Qc .i64) s bl aQ) :
  Calls Tryz.prog 25 #[Value.pointer (some ⟨ab, 0, none⟩), Value.pointer (some ⟨b, 0, none⟩), O n, bl] w fun e w' => ∃ v, e = .returned v ∧ ((un3 fun (cg : Bool) (bG : (List Op)) (bH : (List Int)) => ∃ (bd : PHeap) (bm : Value) (bn : Value), PHeap.le s bd ∧ St w0 bd (Res.box ab 67 [af, ag, ah, ai, aj, t, u, x, y] :: Res.arr (Qc .i64) 3 t d.vars :: Res.arr encFact 51 u d.atoms :: Res.arr encBool 4 x d.grouped :: Res.arr (Qc .i64) 3 y d.fluents :: Res.box b 29 [o, p, q, bm, z, aa, bn] :: Res.arr (Qc .i64) 3 o m.Task.Vars :: Res.arr (Qc .i64) 3 p m.Task.Init :: Res.arr encFact 51 q m.Task.Goal :: Res.arr encOp 55 bm bG :: Res.arr (Qc .i64) 3 bn bH :: H) w' ∧ v = Value.bool (cg)) r) := by
 unfold QV at hm
 refine Ql Tryz.func25 Z Z ?_
 obtain ⟨a, bK, hm⟩ := Zg hm
 refine G ?_
 refine QI Z Z Z bK ?_
 intro cn cK bo
 refine G ?_
 refine Zw (E := encGOp) hS A92.h Z Z Z bo ?_
 intro cU bL
 obtain ⟨ax, ay, az, a0, a1, rfl, bT, bU, bV, bW, bX⟩ := Ys.1 bL
 refine G ?_
 refine Exec.alloc (cs := [Value.string (⟨#[]⟩), O 0, Vn, Vn, Vn, Vn, Vn]) hS Z92 Z Z ?_
 intro ad cW c6
 refine G ?_
 refine Xst Z Z Z ?_
 intro cX bw
 obtain ⟨d1, bM, hm⟩ := Zg hm
 refine G ?_
 refine Tc Z Z Z Z (QbI bM bw bT bU bV bW bX).r ?_
 rintro a2 cY ⟨cN, _, cC, bx, rfl, bY⟩
 obtain ⟨a7, bN, hm⟩ := Zg hm
 refine G ?_
 refine Tc Z Z Z (Zi Z (Zi Z (Zi Z Qx))) (JS bN ((((bx.f5).f5).f5).f5).f5 rq rq rq rq rq bY rq).r ?_
 rintro a3 cZ ⟨be, _, cD, bz, rfl, cM⟩
 obtain ⟨aR, bq, aY, bC, b8⟩ := Qu hm
 refine g ?_
 refine Qs (M := fun f' w' => ∃ s', (aR = .next s' ∨ aR = .brk s') ∧ (QO fun (bb : (List Op)) (bc : (List Int)) => ∃ (bf : PHeap) (aI : Value) (aJ : Value), PHeap.le be bf ∧ St w0 bf (Res.box ab 67 [af, ag, ah, ai, aj, t, u, x, y] :: Res.arr (Qc .i64) 3 t d.vars :: Res.arr encFact 51 u d.atoms :: Res.arr encBool 4 x d.grouped :: Res.arr (Qc .i64) 3 y d.fluents :: Res.box b 29 [o, p, q, aI, z, aa, aJ] :: Res.arr (Qc .i64) 3 o m.Task.Vars :: Res.arr (Qc .i64) 3 p m.Task.Init :: Res.arr encFact 51 q m.Task.Goal :: Res.arr encOp 55 aI bb :: Res.arr (Qc .i64) 3 aJ bc :: Res.box ad 92 [Value.string (a.Name), O (a.Cost), ax, ay, az, a0, a1] :: H) w' ∧ Fx f' [(0, Vq ab), (1, Vq b), (2, O n), (9, Vq ad), (10, a2), (29, a3), (30, O ((a7.length : Int)))]) s') ?_ ?_
 ·refine G ?_
  refine QC (fun k' s' f' w' => (QO fun (aq : (List Op)) (an : (List Int)) => ∃ (bg : PHeap) (al : Value) (ac : Value), PHeap.le be bg ∧ St w0 bg (Res.box ab 67 [af, ag, ah, ai, aj, t, u, x, y] :: Res.arr (Qc .i64) 3 t d.vars :: Res.arr encFact 51 u d.atoms :: Res.arr encBool 4 x d.grouped :: Res.arr (Qc .i64) 3 y d.fluents :: Res.box b 29 [o, p, q, al, z, aa, ac] :: Res.arr (Qc .i64) 3 o m.Task.Vars :: Res.arr (Qc .i64) 3 p m.Task.Init :: Res.arr encFact 51 q m.Task.Goal :: Res.arr encOp 55 al aq :: Res.arr (Qc .i64) 3 ac an :: Res.box ad 92 [Value.string (a.Name), O (a.Cost), ax, ay, az, a0, a1] :: H) w' ∧ Fx f' [(31, O (k' : Int)), (0, Vq ab), (1, Vq b), (2, O n), (9, Vq ad), (10, a2), (29, a3), (30, O ((a7.length : Int)))]) s') bq ?_ ?_ ?_
  ·have c7 := bz.f5
   exact fq
  ·intro ba cb cv cw da cB br i aZ
   obtain ⟨aq, an⟩ := cb
   replace i := Q3 i
   obtain ⟨cO, al, ac, cE, aS, ⟨cx, rfl⟩⟩ := br
   obtain ⟨cf, bO, i⟩ := Zg i
   refine G ?_
   refine QI Z Z Z bO ?_
   intro co cL bp
   refine G ?_
   refine Zw (E := (Qp (Qc .i64))) aS A22.h Z Z Z bp ?_
   intro cV bP
   have bZ : SliceRep _ _ _ (cf) := QG.1 bP
   obtain ⟨d2, bQ, i⟩ := Zg i
   refine G ?_
   refine Tc Z Z Z (Zi Z (Zi Z (Zi Z Qx))) (QaM bQ ((((aS.f4).f4).f4).f4).f4 rq rq rq rq rq rq rq rq rq rq bZ).r ?_
   rintro _ db ⟨cP, cF, b0, rfl⟩
   refine G ?_
   rcases Qv i with ⟨b9, i⟩ | ⟨b9, i⟩
   ·cases i
    refine G ?_
    exact ⟨_, Z, fq⟩
   obtain ⟨cc, bR, i⟩ := Zg i
   obtain ⟨aP, d3⟩ := cc
   replace i := Q3 i
   refine G ?_
   refine Tc Z Z Z (Zi Z (Zi Z (Zi Z (Zi Z (Zi Z Qx))))) (K6 bR ((((b0.f4).f4).f4).f4).f4 rq rq rq rq rq rq rq rq rq rq (SliceRep.nil _ _)).r ?_
   rintro _ dc ⟨cQ, j, cG, b1, rfl, au⟩
   refine G ?_
   rcases Qv i with ⟨bA, i⟩ | ⟨bA, i⟩
   ·cases i
    have bD := aY _ (aZ (by intro _ h; cases h))
    cases bD
    refine G ?_
    exact fr
   obtain ⟨ao, bS, i⟩ := Zg i
   refine G ?_
   refine Tc Z Z Z (Zi Z (Zi Z (Zi Z (Zi Z Qx)))) (Qbi bS ((((b1.f4).f4).f4).f4).f4 rq rq rq rq rq rq rq rq rq rq rq rq).r ?_
   rintro l dd ⟨ca, _, ar, b2, rfl, av⟩
   refine g ?_
   refine Zc (Zc (Qs (M := fun f' w' => ∃ (bh : PHeap) , PHeap.le ca bh ∧ St w0 bh (Res.box ab 67 [af, ag, ah, ai, aj, t, u, x, y] :: Res.arr (Qc .i64) 3 t d.vars :: Res.arr encFact 51 u d.atoms :: Res.arr encBool 4 x d.grouped :: Res.arr (Qc .i64) 3 y d.fluents :: Res.box b 29 [o, p, q, al, z, aa, ac] :: Res.arr (Qc .i64) 3 o m.Task.Vars :: Res.arr (Qc .i64) 3 p m.Task.Init :: Res.arr encFact 51 q m.Task.Goal :: Res.arr encOp 55 al aq :: Res.arr (Qc .i64) 3 ac an :: Res.box ad 92 [Value.string (a.Name), O (a.Cost), ax, ay, az, a0, a1] :: H) w' ∧ Fx f' [(0, Vq ab), (1, Vq b), (2, O n), (9, Vq ad), (10, a2), (13, j), (15, l), (29, a3), (30, O ((a7.length : Int))), (31, O ((ba : Int))), (66, Vb (((decide (64 < (ao.length : Int))) || decide ((an.length : Int) = 4096))))]) ?_ ?_))
   ·refine G ?_
    rcases tf (decide (64 < (ao.length : Int))) with bB | bB
    ·refine G ?_
     exact fq
    refine G ?_
    refine Q2 (b2.f10) S22.h Z Z (G ?_)
    exact fq
   intro cy de bt
   obtain ⟨aw, ae, ak, ⟨cz, rfl⟩⟩ := bt
   refine G ?_
   rcases Qv i with ⟨aW, i⟩ | ⟨aW, i⟩
   ·cases i
    have bE := aY _ (aZ (by intro _ h; cases h))
    cases bE
    refine G ?_
    exact fr
   obtain ⟨bI, aG, i⟩ := Zg i
   obtain ⟨bJ, aH, i⟩ := Zg i
   refine W_c Z aW (Qbk (JG (Ze (Qs (M := fun f' w' => ∃ (bi : PHeap) (aK : Value) (aL : Value), PHeap.le aw bi ∧ St w0 bi (Res.box ab 67 [af, ag, ah, ai, aj, t, u, x, y] :: Res.arr (Qc .i64) 3 t d.vars :: Res.arr encFact 51 u d.atoms :: Res.arr encBool 4 x d.grouped :: Res.arr (Qc .i64) 3 y d.fluents :: Res.box b 29 [o, p, q, aK, z, aa, aL] :: Res.arr (Qc .i64) 3 o m.Task.Vars :: Res.arr (Qc .i64) 3 p m.Task.Init :: Res.arr encFact 51 q m.Task.Goal :: Res.arr encOp 55 aK bI :: Res.arr (Qc .i64) 3 aL bJ :: Res.box ad 92 [Value.string (a.Name), O (a.Cost), ax, ay, az, a0, a1] :: H) w' ∧ Fx f' [(0, Vq ab), (1, Vq b), (2, O n), (9, Vq ad), (10, a2), (29, a3), (30, O ((a7.length : Int))), (31, O ((ba : Int)))]) ?_ ?_))))
   ·refine KM (n0 := 27) (qs 0 14 (qs 16 5 (.alt (.e 14 [0, 1, 2, 3, 4, 5, 6, 16, 17, 18, 19, 20] (.alt (.e 15 [0, 1, 16, 17, 18, 19, 20] (.e 21 [0, 1, 16, 17, 18, 19] (.e 22 [0, 1] (qs 23 3 (.e 26 [1] .done))))) (.e 21 [0, 1, 2, 3, 4, 5, 6, 16, 17, 18, 19] (.e 15 [0, 1, 16, 17, 18, 19] (.e 22 [0, 1] (qs 23 3 (.e 26 [1] .done))))))) (.e 21 [0, 1, 2, 3, 4, 5, 6, 7, 8, 9, 10, 11, 12, 13, 16, 17, 18, 19] (.e 14 [0, 1, 2, 3, 4, 5, 6, 16, 17, 18, 19] (.e 15 [0, 1, 16, 17, 18, 19] (.e 22 [0, 1] (qs 23 3 (.e 26 [1] .done))))))))) KL (by kernel_rfl) (by kernel_rfl) (G ?_)
    refine Zn ((ak.drew).f5) A25.h Z Z Z ⟨Z, ?_⟩
    refine G ?_
    refine Zn ((ak.drew).f11) A9.h Z Z Z ⟨Z, ?_⟩
    refine G ?_
    refine Zn ((ak.drew).f11) A3.h Z Z Z ⟨Z, ?_⟩
    refine G ?_
    refine Exec.build Z (Qd (c := [Value.string (a.Name)]) (Qf Z Z) (Qd (c := [O (a.Cost)]) (Qf Z Z) (Qd (c := [j]) (Qf Z (Qj (rq).one)) (Qd (c := [l]) (Qf Z (Qj (rq).one)) Qg)))) (v := Value.agg #[Value.string (a.Name), O (a.Cost), j, l]) (fun _ => by kernel_rfl) ⟨Z, ?_⟩
    refine G ?_
    refine Zn ((ak.drew).f5) A22.h Z Z Z ⟨Z, ?_⟩
    refine G ?_
    refine QH ?_ ?_
    ·refine G ?_
     refine Exec.buildSlice (Te := 55) (cs := [Value.string (a.Name), O (a.Cost), j, l]) ak.drew Z (Qd (c := [Value.string (a.Name), O (a.Cost), j, l]) (Qf Z Z) Qg) (fun _ => by kernel_rfl) ?_
     intro cp df ap
     refine ⟨(Qa (U Z Z (Zm (v := Vq b) Z Z ⟨Z, Z⟩)) (Qa (U Z Z (Zm (v := Vq b) Z Z ⟨Z, Z⟩)) (Qa (U Z Z (Zm (v := Vq b) Z Z ⟨Z, Z⟩)) (Qa (U Z Z (Qb Z Z ⟨Z, Z⟩)) (Qa (U Z Z (Zp F29_0.h Z Z Z ⟨Z, Z⟩)) (Qa (U Z Z (Zp F27_3.h Z Z Z ⟨Z, Z⟩)) (Qa (U Z Z (Zn (ap.f6) A25.h Z Z Z ⟨Z, Z⟩)) (Qa (U Z Z (Zm (v := Vq b) Z Z ⟨Z, Z⟩)) (Qa (U Z Z (Qb Z Z ⟨Z, Z⟩)) (Qa (U Z Z (Zp F29_3.h Z Z Z ⟨Z, Z⟩)) (Qa (U Z Z (Zn (ap.f6) A22.h Z Z Z ⟨Z, Z⟩)) (Qa (U Z Z (Zm (v := O n) Z Z ⟨Z, Z⟩)) Qi)))))))))))), ?_⟩
     refine QH ?_ ?_
     ·have b3 := ap.f10
      refine G ?_
      refine Qh (E := encOp) (ys := [(⟨a.Name, a.Cost, aP, ao⟩ : Op)]) b3 S25.h Z55 Z (by decide) Z Z Z Z ⟨[Value.string (a.Name), O (a.Cost), j, l], [], Z, ⟨[Value.string (a.Name)], [O (a.Cost), j, l], Z, Z, ⟨[O (a.Cost)], [j, l], Z, Z, ⟨[j], [l], Z, ⟨_, Z, (au.mono (Zt ar ae))⟩, ⟨_, Z, (av.mono ae)⟩⟩⟩⟩, Z⟩ Z aG ?_
      intro a4 dg aT
      refine ⟨(Qa (U Z Z (Zm (v := Vq b) Z Z ⟨Z, Z⟩)) (Qa (U Z Z (Zm (v := Vq b) Z Z ⟨Z, Z⟩)) (Qa (U Z Z (Zm (v := Vq b) Z Z ⟨Z, Z⟩)) (Qa (U Z Z (Qb Z Z ⟨Z, Z⟩)) (Qa (U Z Z (Zp F29_3.h Z Z Z ⟨Z, Z⟩)) (Qa (U Z Z (Zn (aT.f6) A22.h Z Z Z ⟨Z, Z⟩)) (Qa (U Z Z (Zm (v := O n) Z Z ⟨Z, Z⟩)) Qi))))))), ?_⟩
      refine G ?_
      refine Exec.buildSlice (Te := 3) (cs := [O n]) aT Z (Qd (c := [O n]) (Qf Z Z) Qg) (fun _ => by kernel_rfl) ?_
      intro cq dh aU
      refine ⟨(Qa (U Z Z (Zm (v := Vq b) Z Z ⟨Z, Z⟩)) (Qa (U Z Z (Zm (v := Vq b) Z Z ⟨Z, Z⟩)) (Qa (U Z Z (Zm (v := Vq b) Z Z ⟨Z, Z⟩)) (Qa (U Z Z (Qb Z Z ⟨Z, Z⟩)) (Qa (U Z Z (Zp F29_3.h Z Z Z ⟨Z, Z⟩)) (Qa (U Z Z (Zn (aU.f7) A22.h Z Z Z ⟨Z, Z⟩)) Qi)))))), ?_⟩
      refine G ?_
      refine Qh (E := (Qc .i64)) (ys := [n]) aU.f11 S22.h Z3 Z (by decide) Z Z Z Z ⟨[O n], [], Z, Z, Z⟩ Z aH ?_
      intro aM di a8
      refine ⟨(Qa (U Z Z (Zm (v := Vq b) Z Z ⟨Z, Z⟩)) (Qa (U Z Z (Zm (v := Vq b) Z Z ⟨Z, Z⟩)) Qi)), ?_⟩
      refine G ?_
      refine Qe (ds := [a4]) (es := [o, p, q, a4, z, aa, ac]) a8.f7 A25.h Z Z Z (Qj ((a8.f7).f2).arr_one) (Zj ((a8.f7).f2).arr_one Qk) (Nat.le_of_ble_eq_true Z) Z ?_
      intro dj a9
      refine ⟨agq, ?_⟩
      refine G ?_
      refine Qe (ds := [aM]) (es := [o, p, q, a4, z, aa, aM]) a9 A22.h Z Z Z (Qj (a9.f1).arr_one) (Zj (a9.f1).arr_one Qk) (Nat.le_of_ble_eq_true Z) Z ?_
      intro dk b4
      refine G ?_
      exact ⟨aw, a4, aM, (Zv _), (((((((((((b4.f11).f2).f3).f11).f11).f11).f6).f11).f11).f11).f11).f11, (Fx.mk)⟩
     refine G ?_
     refine Exec.buildSlice (Te := 3) (cs := [O n]) ap Z (Qd (c := [O n]) (Qf Z Z) Qg) (fun _ => by kernel_rfl) ?_
     intro cr dl aA
     refine ⟨(Qa (U Z Z (Zm (v := Vq b) Z Z ⟨Z, Z⟩)) (Qa (U Z Z (Zm (v := Vq b) Z Z ⟨Z, Z⟩)) (Qa (U Z Z (Zm (v := Vq b) Z Z ⟨Z, Z⟩)) (Qa (U Z Z (Qb Z Z ⟨Z, Z⟩)) (Qa (U Z Z (Zp F29_0.h Z Z Z ⟨Z, Z⟩)) (Qa (U Z Z (Zp F27_3.h Z Z Z ⟨Z, Z⟩)) (Qa (U Z Z (Zn (aA.f7) A25.h Z Z Z ⟨Z, Z⟩)) (Qa (U Z Z (Zm (v := Vq b) Z Z ⟨Z, Z⟩)) (Qa (U Z Z (Qb Z Z ⟨Z, Z⟩)) (Qa (U Z Z (Zp F29_3.h Z Z Z ⟨Z, Z⟩)) (Qa (U Z Z (Zn (aA.f7) A22.h Z Z Z ⟨Z, Z⟩)) Qi))))))))))), ?_⟩
     refine G ?_
     refine Qh (E := encOp) (ys := [(⟨a.Name, a.Cost, aP, ao⟩ : Op)]) (aA.f1).f11 S25.h Z55 Z (by decide) Z Z Z Z ⟨[Value.string (a.Name), O (a.Cost), j, l], [], Z, ⟨[Value.string (a.Name)], [O (a.Cost), j, l], Z, Z, ⟨[O (a.Cost)], [j, l], Z, Z, ⟨[j], [l], Z, ⟨_, Z, (au.mono (Zt ar ae))⟩, ⟨_, Z, (av.mono ae)⟩⟩⟩⟩, Z⟩ Z aG ?_
     intro a5 dm aV
     refine ⟨(Qa (U Z Z (Zm (v := Vq b) Z Z ⟨Z, Z⟩)) (Qa (U Z Z (Zm (v := Vq b) Z Z ⟨Z, Z⟩)) (Qa (U Z Z (Zm (v := Vq b) Z Z ⟨Z, Z⟩)) (Qa (U Z Z (Qb Z Z ⟨Z, Z⟩)) (Qa (U Z Z (Zp F29_3.h Z Z Z ⟨Z, Z⟩)) (Qa (U Z Z (Zn (aV.f7) A22.h Z Z Z ⟨Z, Z⟩)) Qi)))))), ?_⟩
     refine G ?_
     refine Qh (E := (Qc .i64)) (ys := [n]) (aV.f1).f11 S22.h Z3 Z (by decide) Z Z Z Z ⟨[O n], [], Z, Z, Z⟩ Z aH ?_
     intro aN dn aB
     refine ⟨(Qa (U Z Z (Zm (v := Vq b) Z Z ⟨Z, Z⟩)) (Qa (U Z Z (Zm (v := Vq b) Z Z ⟨Z, Z⟩)) Qi)), ?_⟩
     refine G ?_
     refine Qe (ds := [a5]) (es := [o, p, q, a5, z, aa, ac]) aB.f7 A25.h Z Z Z (Qj ((aB.f7).f2).arr_one) (Zj ((aB.f7).f2).arr_one Qk) (Nat.le_of_ble_eq_true Z) Z ?_
     intro dp aC
     refine ⟨agq, ?_⟩
     refine G ?_
     refine Qe (ds := [aN]) (es := [o, p, q, a5, z, aa, aN]) aC A22.h Z Z Z (Qj (aC.f1).arr_one) (Zj (aC.f1).arr_one Qk) (Nat.le_of_ble_eq_true Z) Z ?_
     intro dq b5
     refine G ?_
     exact ⟨aw, a5, aN, (Zv _), (((((((((((b5.f11).f2).f3).f11).f11).f11).f6).f11).f11).f11).f11).f11, (Fx.mk)⟩
    refine G ?_
    refine Exec.buildSlice (Te := 3) (cs := [O n]) ak.drew Z (Qd (c := [O n]) (Qf Z Z) Qg) (fun _ => by kernel_rfl) ?_
    intro ct dr am
    refine ⟨(Qa (U Z Z (Zm (v := Vq b) Z Z ⟨Z, Z⟩)) (Qa (U Z Z (Zm (v := Vq b) Z Z ⟨Z, Z⟩)) (Qa (U Z Z (Zm (v := Vq b) Z Z ⟨Z, Z⟩)) (Qa (U Z Z (Qb Z Z ⟨Z, Z⟩)) (Qa (U Z Z (Zp F29_0.h Z Z Z ⟨Z, Z⟩)) (Qa (U Z Z (Zp F27_3.h Z Z Z ⟨Z, Z⟩)) (Qa (U Z Z (Zn (am.f6) A25.h Z Z Z ⟨Z, Z⟩)) (Qa (U Z Z (Zp F92_0.h Z Z Z ⟨Z, Z⟩)) (Qa (U Z Z (Zn (am.f12) A9.h Z Z Z ⟨Z, Z⟩)) (Qa (U Z Z (Zp F92_1.h Z Z Z ⟨Z, Z⟩)) (Qa (U Z Z (Zn (am.f12) A3.h Z Z Z ⟨Z, Z⟩)) (Qa (U Z Z (Zm (v := j) Z Z ⟨Z, Z⟩)) (Qa (U Z Z (Zm (v := l) Z Z ⟨Z, Z⟩)) (Qa (U Z Z (Exec.build Z (Qd (c := [Value.string (a.Name)]) (Qf Z Z) (Qd (c := [O (a.Cost)]) (Qf Z Z) (Qd (c := [j]) (Qf Z (Qj ((au.mono (Zt ar ae))).one)) (Qd (c := [l]) (Qf Z (Qj ((av.mono ae)).one)) Qg)))) (v := Value.agg #[Value.string (a.Name), O (a.Cost), j, l]) (fun _ => by kernel_rfl) ⟨Z, Z⟩)) (Qa (U Z Z (Zm (v := Vq b) Z Z ⟨Z, Z⟩)) (Qa (U Z Z (Qb Z Z ⟨Z, Z⟩)) (Qa (U Z Z (Zp F29_3.h Z Z Z ⟨Z, Z⟩)) (Qa (U Z Z (Zn (am.f6) A22.h Z Z Z ⟨Z, Z⟩)) Qi)))))))))))))))))), ?_⟩
    refine G ?_
    refine Exec.buildSlice (Te := 55) (cs := [Value.string (a.Name), O (a.Cost), j, l]) am Z (Qd (c := [Value.string (a.Name), O (a.Cost), j, l]) (Qf Z Z) Qg) (fun _ => by kernel_rfl) ?_
    intro cu dt aD
    refine ⟨(Qa (U Z Z (Zm (v := Vq b) Z Z ⟨Z, Z⟩)) (Qa (U Z Z (Zm (v := Vq b) Z Z ⟨Z, Z⟩)) (Qa (U Z Z (Zm (v := Vq b) Z Z ⟨Z, Z⟩)) (Qa (U Z Z (Qb Z Z ⟨Z, Z⟩)) (Qa (U Z Z (Zp F29_0.h Z Z Z ⟨Z, Z⟩)) (Qa (U Z Z (Zp F27_3.h Z Z Z ⟨Z, Z⟩)) (Qa (U Z Z (Zn (aD.f7) A25.h Z Z Z ⟨Z, Z⟩)) (Qa (U Z Z (Zm (v := Vq b) Z Z ⟨Z, Z⟩)) (Qa (U Z Z (Qb Z Z ⟨Z, Z⟩)) (Qa (U Z Z (Zp F29_3.h Z Z Z ⟨Z, Z⟩)) (Qa (U Z Z (Zn (aD.f7) A22.h Z Z Z ⟨Z, Z⟩)) Qi))))))))))), ?_⟩
    refine G ?_
    refine Qh (E := encOp) (ys := [(⟨a.Name, a.Cost, aP, ao⟩ : Op)]) aD.f11 S25.h Z55 Z (by decide) Z Z Z Z ⟨[Value.string (a.Name), O (a.Cost), j, l], [], Z, ⟨[Value.string (a.Name)], [O (a.Cost), j, l], Z, Z, ⟨[O (a.Cost)], [j, l], Z, Z, ⟨[j], [l], Z, ⟨_, Z, (au.mono (Zt ar ae))⟩, ⟨_, Z, (av.mono ae)⟩⟩⟩⟩, Z⟩ Z aG ?_
    intro a6 du b6
    refine ⟨agq, ?_⟩
    refine G ?_
    refine Qh (E := (Qc .i64)) (ys := [n]) (b6.f1).f11 S22.h Z3 Z (by decide) Z Z Z Z ⟨[O n], [], Z, Z, Z⟩ Z aH ?_
    intro aO dv aE
    refine ⟨(Qa (U Z Z (Zm (v := Vq b) Z Z ⟨Z, Z⟩)) (Qa (U Z Z (Zm (v := Vq b) Z Z ⟨Z, Z⟩)) Qi)), ?_⟩
    refine G ?_
    refine Qe (ds := [a6]) (es := [o, p, q, a6, z, aa, ac]) aE.f7 A25.h Z Z Z (Qj ((aE.f7).f2).arr_one) (Zj ((aE.f7).f2).arr_one Qk) (Nat.le_of_ble_eq_true Z) Z ?_
    intro dw aF
    refine ⟨agq, ?_⟩
    refine G ?_
    refine Qe (ds := [aO]) (es := [o, p, q, a6, z, aa, aO]) aF A22.h Z Z Z (Qj (aF.f1).arr_one) (Zj (aF.f1).arr_one Qk) (Nat.le_of_ble_eq_true Z) Z ?_
    intro dx b7
    refine G ?_
    exact ⟨aw, a6, aO, (Zv _), (((((((((((b7.f11).f2).f3).f11).f11).f11).f6).f11).f11).f11).f11).f11, (Fx.mk)⟩
   intro c0 dy bu
   obtain ⟨cR, aK, aL, cH, c8, ⟨c1, rfl⟩⟩ := bu
   cases i
   refine G ?_
   exact ⟨_, Z, fq⟩
  intro cd c2 dz bs bF
  obtain ⟨aq, an⟩ := cd
  obtain ⟨cS, al, ac, cI, c9, ⟨c3, rfl⟩⟩ := bs
  refine G ?_
  exact ⟨_, .inl bF, fq⟩
 rintro c4 d0 ⟨ce, aX, bv⟩
 have hm := aX.elim (bC _) (b8 _)
 clear aX
 obtain ⟨bb, bc⟩ := ce
 replace hm := Q3 hm
 obtain ⟨cT, aI, aJ, cJ, cA, ⟨c5, rfl⟩⟩ := bv
 cases hm
 refine G ?_
 exact fr
instance F27_2 : FTy Tryz.prog 27 2 2 := ⟨by kernel_rfl⟩
theorem YE {w0 w : World} {s : PHeap} {H : List Res} {fu : Nat} {a : encode_encoder} {y : Cond} {aj : (List Int)} {aw : (List Int)} {al : (List Fact)} {m : Nat} {o : Value} {p : Value} {q : Value} {t : Value} {u : Value} {d : Value} {i : Value} {j : Value} {l : Value} {z : Value} {aa : Value} {ab : Value} {ap : Value} {aq : Value} {ac : Value} {r : (List (List Fact))} (hm : QP fu a y aj aw al = some r) (hS : St w0 s (Res.box m 67 [o, p, q, t, u, d, i, j, l] :: Res.arr (Qc .i64) 3 d a.vars :: Res.arr encFact 51 i a.atoms :: Res.arr encBool 4 j a.grouped :: Res.arr (Qc .i64) 3 l a.fluents :: H) w) (aU : SliceRep encAtom s o a.g.Atoms) (aV : SliceRep encGFluent s p a.g.Fluents) (aW : SliceRep (Qc .i64) s q a.g.Init) (aX : SliceRep encCond s t a.g.Goal) (aY : SliceRep encGOp s u a.g.Ops) (aZ : SliceRep (Qc .i64) s z y.Pos) (ba : SliceRep (Qc .i64) s aa y.Neg) (ay : SliceRep encGTest s ab y.Tests) (az : SliceRep (Qc .i64) s ap aj) (bb : SliceRep (Qc .i64) s aq aw) (bc : SliceRep encFact s ac al) :
  Calls Tryz.prog 55 #[Value.pointer (some ⟨m, 0, none⟩), Value.agg #[z, aa, ab], ap, aq, ac] w fun e w' => ∃ v, e = .returned v ∧ ((fun (aS : (List (List Fact))) => ∃ (ag : PHeap) (ar : Value), PHeap.le s ag ∧ St w0 ag (Res.box m 67 [o, p, q, t, u, d, i, j, l] :: Res.arr (Qc .i64) 3 d a.vars :: Res.arr encFact 51 i a.atoms :: Res.arr encBool 4 j a.grouped :: Res.arr (Qc .i64) 3 l a.fluents :: H) w' ∧ v = ar ∧ SliceRep (Qp encFact) ag ar aS) r) := by
 unfold QP at hm
 refine Ql Tryz.func55 Z Z (G ?_)
 refine JH Z Z ?_
 intro x bC a5
 obtain ⟨bM, aF, hm⟩ := Zg hm
 refine G ?_
 refine Tc Z Z Z Z (Yo aF a5 ay az).r ?_
 rintro au bD ⟨b3, _, bq, a6, rfl, aM⟩
 obtain ⟨ax, aG, hm⟩ := Zg hm
 refine G ?_
 refine Tc Z Z Z (Zi Z (Zi Z (Zi Z Qx))) (JS aG ((((a6.f5).f5).f5).f5).f5 rq rq rq rq rq aM rq).r ?_
 rintro av bE ⟨aO, _, br, a7, rfl, b1⟩
 obtain ⟨af, a1, hm⟩ := Zg hm
 refine G ?_
 refine QS (fun k' s' f' w' => (fun (af : (List (List Fact))) => ∃ (an : PHeap) (ad : Value), PHeap.le aO an ∧ St w0 an (Res.box m 67 [o, p, q, t, u, d, i, j, l] :: Res.arr (Qc .i64) 3 d a.vars :: Res.arr encFact 51 i a.atoms :: Res.arr encBool 4 j a.grouped :: Res.arr (Qc .i64) 3 l a.fluents :: Res.box x 85 [z, aa, ab] :: Res.arr (Qp encFact) 24 ad af :: H) w' ∧ Fx f' [(26, O (k' : Int)), (0, Vq m), (4, ac), (6, Vq x), (11, au), (12, ad), (24, av), (25, O ((ax.length : Int)))]) s') a1 ?_ ?_ ?_
 ·have bl := a7.nilArr (Qp encFact) 24
  exact fq
 ·intro aE af b4 bf bF bp a2 b
  obtain ⟨b5, ad, bs, ak, ⟨bg, rfl⟩⟩ := a2
  obtain ⟨aR, aH, b⟩ := Zg b
  refine G ?_
  refine QI Z Z Z aH ?_
  intro bd b0 a0
  refine G ?_
  refine Zw (E := (Qp (Qc .i64))) ak A22.h Z Z Z a0 ?_
  intro bA aI
  have aN : SliceRep _ _ _ (aR) := QG.1 aI
  obtain ⟨bN, aJ, b⟩ := Zg b
  refine G ?_
  refine Tc Z Z Z (Zi Z (Zi Z (Zi Z Qx))) (KF aJ ((((ak.f4).f4).f4).f4).f4 rq rq rq rq rq rq aN).r ?_
  rintro _ bG ⟨b6, bt, a8, rfl⟩
  refine G ?_
  rcases Qv b with ⟨aC, b⟩ | ⟨aC, b⟩
  ·cases b
   refine G ?_
   exact fq
  obtain ⟨aQ, aK, b⟩ := Zg b
  obtain ⟨aT, bO⟩ := aQ
  replace b := Q3 b
  refine G ?_
  refine Tc Z Z Z (Zi Z (Zi Z (Zi Z (Zi Z (Zi Z Qx))))) (K6 aK ((((a8.f4).f4).f4).f4).f4 rq rq rq rq rq rq rq rq rq rq rq).r ?_
  rintro _ bH ⟨aP, ah, bu, a9, rfl, am⟩
  obtain ⟨ae, n, b⟩ := Zg b
  refine g ?_
  refine Zc (Zd (g ?_))
  refine Qs (M := fun f' w' => (fun (ae : (List (List Fact))) => ∃ (ao : PHeap) (ai : Value), PHeap.le aP ao ∧ St w0 ao (Res.box m 67 [o, p, q, t, u, d, i, j, l] :: Res.arr (Qc .i64) 3 d a.vars :: Res.arr encFact 51 i a.atoms :: Res.arr encBool 4 j a.grouped :: Res.arr (Qc .i64) 3 l a.fluents :: Res.box x 85 [z, aa, ab] :: Res.arr (Qp encFact) 24 ai ae :: H) w' ∧ Fx f' [(0, Vq m), (4, ac), (6, Vq x), (11, au), (12, ai), (24, av), (25, O ((ax.length : Int))), (26, O ((aE : Int)))]) ae) ?_ ?_
  ·rcases Qv n with ⟨aD, n⟩ | ⟨aD, n⟩
   ·refine G ?_
    refine Exec.buildSlice (Te := 24) (cs := [ah]) a9 Z (Qd (c := [ah]) (Qf Z (Qj am.one)) Qg) (fun _ => by kernel_rfl) ?_
    intro be bI aA
    obtain ⟨bv, aL, n⟩ := Zg n
    refine G ?_
    refine Qh (E := (Qp encFact)) (ys := [aT]) aA.f7 S119.h Z24 Z (by decide) Z Z Z Z ⟨[ah], [], Z, ⟨_, Z, am⟩, Z⟩ Z aL ?_
    intro bB bJ bm
    cases n
    refine G ?_
    exact fq
   cases n
   refine G ?_
   exact fq
  intro bh bK a4
  obtain ⟨b7, ai, bw, bn, ⟨bi, rfl⟩⟩ := a4
  cases b
  refine G ?_
  exact fq
 intro bj bL a3
 obtain ⟨b8, ad, bx, aB, ⟨bk, rfl⟩⟩ := a3
 cases hm
 refine G ?_
 refine ⟨_, Qa5 Z, ?_⟩
 obtain ⟨b9, bz, bo, b2⟩ := aB.f6.freezeArr
 exact fq
end Go.Pw
