/- -/
import Derived.Test.YtfcmpbkafbhdgaaGreatDoorLC
import Derived.Test.YtfcmpbkafbhdgaaGreatDoorLD
import Derived.Test.YtfcmpbkafbhdgaaGreatDoorWc6
import Derived.Test.YtfcmpbkafbhdgaaGreatDoorWcIf
set_option maxRecDepth 100000
set_option maxHeartbeats 4000000
set_option linter.unusedVariables false
namespace Go.Pw
open Go.Proofs
attribute [local irreducible] Exec WL W andThen Y0 DL QB
theorem Qer {w0 w : World} {s : PHeap} {H : List Res} {z : (List Fact)} {a : Fact} {j : Value} {r : (List Fact)} (hm : KD z a = some r) (hS : St w0 s (H) w) (ah : SliceRep encFact s j z) :
  Calls Tryz.prog 131 #[j, Value.agg #[U (a.Var), U (a.Val)]] w fun e w' => ∃ v, e = .returned v ∧ ((fun (aB : (List Fact)) => ∃ (n : PHeap) (ag : Value), PHeap.le s n ∧ St w0 n (H) w' ∧ v = ag ∧ SliceRep encFact n ag aB) r) := by
 unfold KD at hm
 refine Qb Tryz.func131 Z Z (G ?_)
 refine Yz Z Z ?_
 intro i bv aP
 obtain ⟨u, aj, aU, a2, az⟩ := Qo hm
 refine g ?_
 refine Zc (Zd (g ?_))
 refine Zc (Qm (M := fun f' w' => ∃ s', (u = .next s' ∨ u = .brk s') ∧ (fun (y : Int) => ∃ (ac : PHeap) , PHeap.le s ac ∧ St w0 ac (Res.box i 52 [U (a.Var), U (a.Val)] :: H) w' ∧ Fx f' [(0, j), (3, Vq i), (5, U y)]) s') ?_ ?_)
 ·refine G ?_
  refine Y8 (fun s' f' w' => (fun (m : Int) => ∃ (ad : PHeap) , PHeap.le s ad ∧ St w0 ad (Res.box i 52 [U (a.Var), U (a.Val)] :: H) w' ∧ Fx f' [(0, j), (3, Vq i), (5, U m)]) s') aj ?_ ?_
  ·exact V
  intro m aF aH bw ak b a3
  obtain ⟨o, a4, k, ⟨aI, rfl⟩⟩ := ak
  obtain ⟨t, d, b⟩ := Zg b
  refine Zc (Zc (Qm (M := fun f' w' => (fun (t : Bool) => ∃ (ae : PHeap) , PHeap.le o ae ∧ St w0 ae (Res.box i 52 [U (a.Var), U (a.Val)] :: H) w' ∧ Fx f' [(0, j), (3, Vq i), (5, U m), (19, Vb t)]) t) ?_ ?_))
  ·refine KG (n0 := 14) (qs 0 14 .done) Yp (by kernel_rfl) (by kernel_rfl) (G ?_)
   rcases Qk d with ⟨a0, d⟩ | ⟨a0, d⟩
   ·obtain ⟨b7, a6, d⟩ := Zg d
    refine G ?_
    refine Q6 S23.h Z Z Z (ah.mono a4) a6 ?_
    intro aC bf ai aG
    refine ⟨Z, ?_⟩
    refine G ?_
    refine Zw (E := (Qc .i64)) k.drew A3.h Z Z Z (ai.sub (Sub.iso (Sub.fst (Sub.refl _))) Z) ?_
    intro bq a7
    obtain rfl := Qt.1 a7
    refine ⟨Z, ?_⟩
    refine G ?_
    refine Zn (k.drew) A3.h Z Z Z ⟨Z, ?_⟩
    cases d
    refine G ?_
    exact ⟨o, (Zv _), k.drew, (Fx.mk)⟩
   cases d
   refine G ?_
   exact ⟨o, (Zv _), k.drew, (Fx.mk)⟩
  intro aJ bx al
  obtain ⟨bh, aV, aQ, ⟨aK, rfl⟩⟩ := al
  refine G ?_
  rcases Qk b with ⟨a1, b⟩ | ⟨a1, b⟩
  ·cases b
   refine G ?_
   exact ⟨_, Z, V⟩
  cases b
  refine G ?_
  exact ⟨_, .inr (a3 (by intro _ h; cases h)), V⟩
 rintro aL bz ⟨y, x, am⟩
 have hm := x.elim (a2 _) (az _)
 clear x
 obtain ⟨aA, aW, l, ⟨aM, rfl⟩⟩ := am
 obtain ⟨b8, aa, hm⟩ := Zg hm
 obtain ⟨a5, ab, hm⟩ := Zg hm
 refine g ?_
 refine Zc (Qm (M := fun f' w' => ∃ (af : PHeap) (p : Value), PHeap.le aA af ∧ St w0 af (Res.arr encFact 52 p a5 :: H) w' ∧ Fx f' [(4, p)]) ?_ ?_)
 ·refine KG (n0 := 6) (.q 0 (.q 2 (.q 3 (.alt (.e 1 [2, 3] (.e 4 [2] (.e 5 [] .done))) (.e 4 [0, 2] (.e 1 [2] (.e 5 [] .done))))))) Yp (by kernel_rfl) (by kernel_rfl) (G ?_)
  refine JM (ds := [U (a.Var), U (a.Val)]) (l.drew) A52.h Z Z Z ⟨Z, ?_⟩
  refine Qmb ?_ ?_
  ·refine G ?_
   refine Tc Z Z Z Z (JY aa l.drew rq).r ?_
   rintro br b0 ⟨bi, _, aX, ao, rfl⟩
   refine ⟨agq, ?_⟩
   refine G ?_
   refine Exec.buildSlice (Te := 52) (cs := [U (a.Var), U (a.Val)]) ao Z (Qd (c := [U (a.Var), U (a.Val)]) (Qi Z Z) Qg) (fun _ => by kernel_rfl) ?_
   intro aD b1 ap
   refine ⟨agq, ?_⟩
   have aq := St.boxArr (E := encFact) (xs := [a]) ap ⟨[U (a.Var), U (a.Val)], [], rfl, ⟨[U (a.Var)], [U (a.Val)], rfl, rfl, rfl⟩, rfl⟩ (by simp [maxLen])
   obtain ⟨bj, aY, ar, a8⟩ := aq.freezeArr
   refine G ?_
   refine Tc Z Z Z Z (Qh5 ab ar a8).r ?_
   rintro bs b2 ⟨bk, _, aZ, aR, rfl⟩
   refine ⟨agq, ?_⟩
   refine G ?_
   exact V
  refine G ?_
  refine Exec.buildSlice (Te := 52) (cs := [U (a.Var), U (a.Val)]) l.drew Z (Qd (c := [U (a.Var), U (a.Val)]) (Qi Z Z) Qg) (fun _ => by kernel_rfl) ?_
  intro aE b3 au
  refine ⟨agq, ?_⟩
  refine G ?_
  refine Tc Z Z Z Z (JY aa au rq).r ?_
  rintro bt b4 ⟨bl, _, ba, av, rfl⟩
  refine ⟨agq, ?_⟩
  have aw := St.boxArr (E := encFact) (xs := [a]) av.f1 ⟨[U (a.Var), U (a.Val)], [], rfl, ⟨[U (a.Var)], [U (a.Val)], rfl, rfl, rfl⟩, rfl⟩ (by simp [maxLen])
  obtain ⟨bm, bb, ax, a9⟩ := aw.freezeArr
  refine G ?_
  refine Tc Z Z Z Z (Qh5 ab ax a9).r ?_
  rintro bu b5 ⟨bn, _, bc, aS, rfl⟩
  refine ⟨agq, ?_⟩
  refine G ?_
  exact V
 intro aN b6 an
 obtain ⟨bo, p, bd, ay, ⟨aO, rfl⟩⟩ := an
 cases hm
 refine G ?_
 refine ⟨_, Qaf Z, ?_⟩
 obtain ⟨bp, be, aT, bg⟩ := ay.freezeArr
 exact V
theorem QaY {fu : Nat} (ih : ∀ {w0 w : World} {s : PHeap} {H : List Res} {a : partial_cover} {aa : (List Fact)} {o : (List (List Fact))} {b : Nat} {d : Value} {j : Value} {p : Value} {r : Bool × Int × Bool} (hm : Q4 fu a aa o = some r) (hS : St w0 s (Res.box b 177 [d, U (a.used), U (a.steps), Value.bool (a.full)] :: H) w) (aR : SliceRep (Qc .i64) s d a.vars) (aS : SliceRep encFact s j aa) (aT : SliceRep (Qa encFact) s p o), Calls Tryz.prog 112 #[Value.pointer (some ⟨b, 0, none⟩), j, p] w fun e w' => ∃ v, e = .returned v ∧ ((K3 fun (ax : Bool) (ay : Int) (az : Bool) => ∃ (ab : PHeap) , PHeap.le s ab ∧ St w0 ab (Res.box b 177 [d, U ay, U (a.steps), Value.bool (az)] :: H) w' ∧ v = Value.bool (ax)) r)) {w0 w : World} {s : PHeap} {H : List Res} {a : partial_cover} {aa : (List Fact)} {o : (List (List Fact))} {b : Nat} {d : Value} {j : Value} {p : Value} {r : Bool × Int × Bool} (hm : Q4 (fu + 1) a aa o = some r) (hS : St w0 s (Res.box b 177 [d, U (a.used), U (a.steps), Value.bool (a.full)] :: H) w) (aR : SliceRep (Qc .i64) s d a.vars) (aS : SliceRep encFact s j aa) (aT : SliceRep (Qa encFact) s p o) :
  Calls Tryz.prog 112 #[Value.pointer (some ⟨b, 0, none⟩), j, p] w fun e w' => ∃ v, e = .returned v ∧ ((K3 fun (ax : Bool) (ay : Int) (az : Bool) => ∃ (ab : PHeap) , PHeap.le s ab ∧ St w0 ab (Res.box b 177 [d, U ay, U (a.steps), Value.bool (az)] :: H) w' ∧ v = Value.bool (ax)) r) := by
 rw [Q4] at hm
 refine Qb Tryz.func112 Z Z (G ?_)
 refine KG (n0 := 9) (qs 0 9 .done) Yp (by kernel_rfl) (by kernel_rfl) (G ?_)
 refine Zn (hS.drew) A3.h Z Z Z ⟨Z, ?_⟩
 refine G ?_
 refine Zn (hS.drew) A3.h Z Z Z ⟨Z, ?_⟩
 refine G ?_
 rcases Qk hm with ⟨b2, hm⟩ | ⟨b2, hm⟩
 ·refine G ?_
  refine Qp (ds := [Vb true]) (es := [d, U (a.used), U (a.steps), Vb true]) hS.drew A4.h Z Z Z Z (Zj Z QV) (Nat.le_of_ble_eq_true Z) Z ?_
  intro dN cO
  cases hm
  refine G ?_
  exact fr
 refine G ?_
 refine Zn (hS.drew) A3.h Z Z Z (G ?_)
 refine Qp (ds := [U (IntKind.i64.wrap (a.used + 1))]) (es := [d, U (IntKind.i64.wrap (a.used + 1)), U (a.steps), Vb (a.full)]) hS.drew A3.h Z Z Z Z (Zj Z QV) (Nat.le_of_ble_eq_true Z) Z ?_
 intro dO bp
 obtain ⟨a4, aY, bF, bB, b0⟩ := Qo hm
 refine g ?_
 refine Zc (Zd (g ?_))
 refine Zc (Zc (Zd (g ?_)))
 refine Qm (M := fun f' w' => ∃ s', (a4 = .next s' ∨ a4 = .brk s') ∧ (fun (n : (List (List Fact))) => ∃ (aF : PHeap) (i : Value), PHeap.le s aF ∧ St w0 aF (Res.box b 177 [d, U (IntKind.i64.wrap (a.used + 1)), U (a.steps), Vb (a.full)] :: Res.arr (Qa encFact) 23 i n :: H) w' ∧ Fx f' [(0, Vq b), (1, j), (7, i), (35, p), (36, U ((o.length : Int)))]) s') ?_ ?_
 ·refine G ?_
  refine Q2 (fun k' s' f' w' => (fun (al : (List (List Fact))) => ∃ (aG : PHeap) (ae : Value), PHeap.le s aG ∧ St w0 aG (Res.box b 177 [d, U (IntKind.i64.wrap (a.used + 1)), U (a.steps), Vb (a.full)] :: Res.arr (Qa encFact) 23 ae al :: H) w' ∧ Fx f' [(37, U (k' : Int)), (0, Vq b), (1, j), (7, ae), (35, p), (36, U ((o.length : Int)))]) s') aY ?_ ?_ ?_
  ·have cP := bp.nilArr (Qa encFact) 23
   exact V
  ·intro bL al cu cx dP dc bc l bH
   obtain ⟨d5, ae, df, a7, ⟨cy, rfl⟩⟩ := bc
   obtain ⟨co, bN, l⟩ := Zg l
   refine G ?_
   refine Jk Z Z Z bN ?_
   intro cp d0 aU
   refine G ?_
   refine Zw (E := (Qa encFact)) a7 A23.h Z Z Z aU ?_
   intro ap bO
   have cb := Qr.1 bO
   obtain ⟨el, bP, l⟩ := Zg l
   refine G ?_
   refine Tc Z Z Z Z (Ym bP a7 rq cb).r ?_
   rintro _ dQ ⟨d6, dg, bq, rfl⟩
   refine G ?_
   rcases Qk l with ⟨b3, l⟩ | ⟨b3, l⟩
   ·cases l
    have bD := bF _ (bH (by intro _ h; cases h))
    cases bD
    refine G ?_
    exact fr
   obtain ⟨em, bQ, l⟩ := Zg l
   refine G ?_
   refine Tc Z Z Z Z (Qcy bQ bq rq rq).r ?_
   rintro _ dR ⟨cd, dh, br, rfl⟩
   obtain ⟨ak, t, l⟩ := Zg l
   refine g ?_
   refine Qm (M := fun f' w' => (fun (ak : (List (List Fact))) => ∃ (aH : PHeap) (aq : Value), PHeap.le cd aH ∧ St w0 aH (Res.box b 177 [d, U (IntKind.i64.wrap (a.used + 1)), U (a.steps), Vb (a.full)] :: Res.arr (Qa encFact) 23 aq ak :: H) w' ∧ Fx f' [(0, Vq b), (1, j), (7, aq), (35, p), (36, U ((o.length : Int))), (37, U ((bL : Int)))]) ak) ?_ ?_
   ·rcases Qk t with ⟨b4, t⟩ | ⟨b4, t⟩
    ·refine G ?_
     refine Exec.buildSlice (Te := 23) (cs := [ap]) br Z (Qd (c := [ap]) (Qi Z (Q5 (rq).one)) Qg) (fun _ => by kernel_rfl) ?_
     intro cq dS bs
     obtain ⟨di, bR, t⟩ := Zg t
     refine G ?_
     refine Q0 (E := (Qa encFact)) (ys := [co]) bs.f2 S70.h Z23 Z (by decide) Z Z Z Z ⟨[ap], [], Z, ⟨_, Z, rq⟩, Z⟩ Z bR ?_
     intro dJ dT cQ
     cases t
     refine G ?_
     exact V
    cases t
    refine G ?_
    exact V
   intro cz dU bk
   obtain ⟨d7, aq, dj, cR, ⟨c0, rfl⟩⟩ := bk
   cases l
   refine G ?_
   exact ⟨_, Z, V⟩
  intro al c1 dV bd bI
  obtain ⟨d8, ae, dk, cS, ⟨c2, rfl⟩⟩ := bd
  refine G ?_
  exact ⟨_, .inl bI, V⟩
 rintro c3 dW ⟨n, aA, bl⟩
 have hm := aA.elim (bB _) (b0 _)
 clear aA
 obtain ⟨ce, i, dl, ag, ⟨c4, rfl⟩⟩ := bl
 refine G ?_
 refine Qv (ag.f1) S70.h Z Z ?_
 obtain ⟨x, aZ, hm⟩ := Zg hm
 refine G ?_
 refine J8 (fun k' s' f' w' => (fun (x : Int) => ∃ (aI : PHeap) , PHeap.le ce aI ∧ St w0 aI (Res.box b 177 [d, U (IntKind.i64.wrap (a.used + 1)), U (a.steps), Vb (a.full)] :: Res.arr (Qa encFact) 23 i n :: H) w' ∧ Fx f' [(60, U (k' : Int)), (0, Vq b), (1, j), (7, i), (10, U x), (58, i), (59, U ((n.length : Int)))]) s') aZ ?_ ?_ ?_
 ·have cT := ag.f1
  exact V
 ·intro aj x d9 c5 dX b9 be y
  obtain ⟨cf, dm, ah, ⟨c6, rfl⟩⟩ := be
  obtain ⟨aw, ad, y⟩ := Zg y
  obtain ⟨cN, cv, a6⟩ := (ah.f1).arr_at ad
  refine G ?_
  refine Qe S70.h Z a6 Z (Qf ad).1 (Qf ad).2.1 (G ?_)
  refine Qs (F := (Qa encFact)) (ah.f1) a6 A23.h Z Z Z ad (Sub.refl _) ?_
  intro ar bS
  have d3 := Qr.1 bS
  obtain ⟨af, ba, y⟩ := Zg y
  refine G ?_
  refine J8 (fun k' s' f' w' => (fun (af : Int) => ∃ (aJ : PHeap) , PHeap.le cf aJ ∧ St w0 aJ (Res.box b 177 [d, U (IntKind.i64.wrap (a.used + 1)), U (a.steps), Vb (a.full)] :: Res.arr (Qa encFact) 23 i n :: H) w' ∧ Fx f' [(66, U (k' : Int)), (0, Vq b), (1, j), (7, i), (10, U af), (58, i), (59, U ((n.length : Int))), (60, U ((aj : Int))), (64, ar), (65, U ((aw.length : Int)))]) s') ba ?_ ?_ ?_
  ·have cU := ah.f1
   exact V
  ·intro aC af dA c7 dY dd bf q
   obtain ⟨cg, dn, a8, ⟨c8, rfl⟩⟩ := bf
   obtain ⟨aN, bT, q⟩ := Zg q
   refine G ?_
   refine Jk Z Z Z bT ?_
   intro cr d1 aV
   refine G ?_
   refine Zw (E := encFact) a8 A52.h Z Z Z aV ?_
   intro dK bU
   obtain rfl := Q9.1 bU
   refine G ?_
   refine Exec.alloc (cs := [U 0, U 0]) a8 Z52 Z Z ?_
   intro a3 dZ cV
   refine G ?_
   refine Yo Z Z Z ?_
   intro ea bt
   obtain ⟨a0, u, q⟩ := Zg q
   refine g ?_
   refine Zc (Qm (M := fun f' w' => (fun (a0 : Bool) => ∃ (aK : PHeap) , PHeap.le cg aK ∧ St w0 aK (Res.box b 177 [d, U (IntKind.i64.wrap (a.used + 1)), U (a.steps), Vb (a.full)] :: Res.arr (Qa encFact) 23 i n :: Res.box a3 52 [U (aN.Var), U (aN.Val)] :: H) w' ∧ Fx f' [(0, Vq b), (1, j), (7, i), (10, U af), (14, Vq a3), (58, i), (59, U ((n.length : Int))), (60, U ((aj : Int))), (64, ar), (65, U ((aw.length : Int))), (66, U ((aC : Int))), (80, Vb a0)]) a0) ?_ ?_)
   ·refine G ?_
    rcases Qk u with ⟨b5, u⟩ | ⟨b5, u⟩
    ·obtain ⟨en, bV, u⟩ := Zg u
     refine G ?_
     refine Tc Z Z Z Z (Qak bV bt rq).r ?_
     rintro _ eb ⟨dB, dp, cW, rfl⟩
     cases u
     refine G ?_
     exact V
    cases u
    refine G ?_
    exact V
   intro c9 ec bm
   obtain ⟨ch, dq, cX, ⟨cA, rfl⟩⟩ := bm
   obtain ⟨au, z, q⟩ := Zg q
   refine g ?_
   refine Qm (M := fun f' w' => (fun (au : Int) => ∃ (aL : PHeap) , PHeap.le ch aL ∧ St w0 aL (Res.box b 177 [d, U (IntKind.i64.wrap (a.used + 1)), U (a.steps), Vb (a.full)] :: Res.arr (Qa encFact) 23 i n :: H) w' ∧ Fx f' [(0, Vq b), (1, j), (7, i), (10, U au), (58, i), (59, U ((n.length : Int))), (60, U ((aj : Int))), (64, ar), (65, U ((aw.length : Int))), (66, U ((aC : Int)))]) au) ?_ ?_
   ·rcases Qk z with ⟨b6, z⟩ | ⟨b6, z⟩
    ·cases z
     refine G ?_
     exact V
    cases z
    refine G ?_
    exact V
   intro cB ed bn
   obtain ⟨dC, dr, cY, ⟨cC, rfl⟩⟩ := bn
   cases q
   refine G ?_
   exact V
  intro cD ee bg
  obtain ⟨ci, dt, bu, ⟨cE, rfl⟩⟩ := bg
  cases y
  refine G ?_
  exact ⟨ci, lq, (bu.f1).f1, (Fx.mk (FxL.cons (Ja b9 (ag.f1).arr_le) fxl))⟩
 intro cF ef bh
 obtain ⟨aM, du, a9, ⟨cG, rfl⟩⟩ := bh
 refine G ?_
 rcases Qk hm with ⟨b7, hm⟩ | ⟨b7, hm⟩
 ·cases hm
  refine G ?_
  exact fr
 obtain ⟨aO, bW, hm⟩ := Zg hm
 refine G ?_
 refine Jk Z Z Z bW ?_
 intro ct d2 aW
 refine G ?_
 refine Zw (E := (Qc .i64)) a9 A3.h Z Z Z aW ?_
 intro dL bX
 obtain rfl := Qt.1 bX
 obtain ⟨dI, bY, hm⟩ := Zg hm
 obtain ⟨a5, bb, bG, bC, b1⟩ := Qo hm
 refine g ?_
 refine Qm (M := fun f' w' => ∃ s', (a5 = .next s' ∨ a5 = .brk s') ∧ (K3 fun (aE : (List (List Fact))) (aP : Int) (aQ : Bool) => ∃ (an : PHeap) (av : Value), PHeap.le aM an ∧ St w0 an (Res.box b 177 [d, U aP, U (a.steps), Vb aQ] :: H) w' ∧ Fx f' [(0, Vq b), (1, j), (7, av), (10, U x), (98, U aO)] ∧ SliceRep (Qa encFact) an av aE) s') ?_ ?_
 ·refine G ?_
  refine Q2 (fun k' s' f' w' => (K3 fun (am : (List (List Fact))) (a1 : Int) (a2 : Bool) => ∃ (ao : PHeap) (ac : Value), PHeap.le aM ao ∧ St w0 ao (Res.box b 177 [d, U a1, U (a.steps), Vb a2] :: H) w' ∧ Fx f' [(99, U (k' : Int)), (0, Vq b), (1, j), (7, ac), (10, U x), (98, U aO)] ∧ SliceRep (Qa encFact) ao ac am) s') bb ?_ ?_ ?_
  ·have bv := a9.f1
   obtain ⟨dD, dv, cZ, d4⟩ := bv.freezeArr
   exact V
  ·intro aD ck aX cH eg bA bi m bJ
   obtain ⟨am, a1, a2⟩ := ck
   replace m := Js m
   obtain ⟨dE, ac, dw, bw, ⟨cI, rfl⟩, ai⟩ := bi
   refine G ?_
   refine Exec.build Z (Qd (c := [U x]) (Qi Z Z) (Qd (c := [U ((aD : Int))]) (Qi Z Z) Qg)) (v := Value.agg #[U x, U ((aD : Int))]) (fun _ => by kernel_rfl) ?_
   obtain ⟨eo, bZ, m⟩ := Zg m
   refine G ?_
   refine Tc Z Z Z Z (Qer bZ bw rq).r ?_
   rintro dM eh ⟨dF, _, bM, bx, rfl, cc⟩
   obtain ⟨cl, ca, m⟩ := Zg m
   obtain ⟨ep, er, et⟩ := cl
   replace m := Js m
   refine G ?_
   refine Tc Z Z Z Z (ih ca bx rq cc (ai.mono bM)).r ?_
   rintro _ ei ⟨cj, dx, bz, rfl⟩
   refine G ?_
   rcases Qk m with ⟨b8, m⟩ | ⟨b8, m⟩
   ·cases m
    have bE := bG _ (bJ (by intro _ h; cases h))
    cases bE
    refine G ?_
    exact fr
   have cw := Zu m
   subst aX
   refine G ?_
   refine ⟨_, Z, ?_⟩; exact ⟨cj, ac, lq, bz, (Fx.mk (FxL.cons (Ja bA (by have h := YI bY; simp at h; simp only [maxLen]; omega)) fxl)), (ai.mono lq)⟩
  intro cm cJ ej bj bK
  obtain ⟨am, a1, a2⟩ := cm
  obtain ⟨dG, ac, dy, da, ⟨cK, rfl⟩, ai⟩ := bj
  refine G ?_
  exact ⟨_, .inl bK, V⟩
 rintro cL ek ⟨cn, aB, bo⟩
 have hm := aB.elim (bC _) (b1 _)
 clear aB
 obtain ⟨aE, aP, aQ⟩ := cn
 replace hm := Js hm
 obtain ⟨dH, av, dz, db, ⟨cM, rfl⟩, de⟩ := bo
 cases hm
 refine G ?_
 exact fr
theorem Qbu {fu : Nat} : ∀ {w0 w : World} {s : PHeap} {H : List Res} {a : partial_cover} {f : (List Fact)} {d : (List (List Fact))} {b : Nat} {c : Value} {h : Value} {i : Value} {r : Bool × Int × Bool} (hm : Q4 fu a f d = some r) (hS : St w0 s (Res.box b 177 [c, U (a.used), U (a.steps), Value.bool (a.full)] :: H) w) (m : SliceRep (Qc .i64) s c a.vars) (n : SliceRep encFact s h f) (o : SliceRep (Qa encFact) s i d), Calls Tryz.prog 112 #[Value.pointer (some ⟨b, 0, none⟩), h, i] w fun e w' => ∃ v, e = .returned v ∧ ((K3 fun (j : Bool) (k : Int) (l : Bool) => ∃ (g : PHeap) , PHeap.le s g ∧ St w0 g (Res.box b 177 [c, U k, U (a.steps), Value.bool (l)] :: H) w' ∧ v = Value.bool (j)) r) := by
 induction fu with
 | zero => intros; rename_i hm _ _ _ _; rw [Q4] at hm; cases hm
 | succ fu ih => exact QaY ih
theorem QcK {w0 w : World} {s : PHeap} {H : List Res} {fu : Nat} {d : (List Int)} {z : (List Fact)} {u : (List (List Fact))} {b : Int} {k : Value} {l : Value} {m : Value} {r : Bool × Int × (Option Int)} (hm : Kw fu d z u b = some r) (hS : St w0 s (H) w) (o : SliceRep (Qc .i64) s k d) (a3 : SliceRep encFact s l z) (ae : SliceRep (Qa encFact) s m u) :
  Calls Tryz.prog 84 #[k, l, m, U b] w fun e w' => ∃ v, e = .returned v ∧ ((K3 fun (a0 : Bool) (a1 : Int) (a2 : (Option Int)) => ∃ (aa : PHeap) , PHeap.le s aa ∧ St w0 aa (H) w' ∧ v = Value.tuple #[Value.bool (a0), U a1, Yc 39 (a2)]) r) := by
 unfold Kw at hm
 refine Qb Tryz.func84 Z Z (G ?_)
 refine Exec.box (cs := [k]) hS Z Z (Q5 o.one) ?_
 intro af aD ah
 obtain ⟨ax, an, p, j⟩ := QaA (E := (Qa (Qc .i64))) (y := d) ah ⟨_, rfl, o⟩
 obtain ⟨n, a, hm⟩ := Zg hm
 refine g ?_
 refine Zc (Zc (Qm (M := fun f' w' => (fun (n : Bool) => ∃ (ab : PHeap) , PHeap.le ax ab ∧ St w0 ab (H) w' ∧ Fx f' [(1, l), (2, m), (3, U b), (4, Vq af), (21, Vb n)]) n) ?_ ?_))
 ·refine G ?_
  refine Zw (E := (Qa (Qc .i64))) p A22.h Z Z Z j ?_
  intro aC ap
  have aw : SliceRep _ _ _ (d) := Qr.1 ap
  obtain ⟨aJ, aq, a⟩ := Zg a
  refine G ?_
  refine Tc Z Z Z Z (KC aq p aw rq).r ?_
  rintro _ aE ⟨aA, t, ai, rfl⟩
  refine G ?_
  rcases Qk a with ⟨ak, a⟩ | ⟨ak, a⟩
  ·cases a
   refine G ?_
   exact V
  refine G ?_
  refine Exec.makeFunc Z (Zi Z Qw) ?_
  obtain ⟨aK, ar, a⟩ := Zg a
  refine G ?_
  refine Tc Z Z Z Z (Qdn ar ai (ae.mono (Zt an t)) (j.mono t)).r ?_
  rintro _ aF ⟨aB, a8, a7, rfl⟩
  cases a
  refine G ?_
  exact V
 intro a5 aG ag
 obtain ⟨ay, ao, q, ⟨a6, rfl⟩⟩ := ag
 refine G ?_
 rcases Qk hm with ⟨al, hm⟩ | ⟨al, hm⟩
 ·refine G ?_
  refine Exec.makeInterface C39 Z Z ?_
  cases hm
  refine G ?_
  refine ⟨_, Qda Z, ?_⟩
  exact ⟨ay, lq, q, (QkO Z Z Z)⟩
 refine G ?_
 refine Zw (E := (Qa (Qc .i64))) q A22.h Z Z Z (j.mono ao) ?_
 intro ad au
 have x : SliceRep _ _ _ (d) := Qr.1 au
 refine G ?_
 refine Exec.build Z (Qd (c := [ad]) (Qi Z (Q5 x.one)) (Qd (c := [U b]) (Qi Z Z) Qg)) (v := Value.agg #[ad, U 0, U b, Vb false]) (fun _ => by kernel_rfl) (G ?_)
 refine Yz Z Z ?_
 intro a4 aH aj
 obtain ⟨az, av, hm⟩ := Zg hm
 obtain ⟨aL, aM, aN⟩ := az
 replace hm := Js hm
 refine G ?_
 refine Tc Z Z Z Z (Qbu av aj x rq rq).r ?_
 rintro _ aI ⟨ac, a9, i, rfl⟩
 refine G ?_
 rcases Qk hm with ⟨am, hm⟩ | ⟨am, hm⟩
 ·refine G ?_
  refine Exec.makeInterface C39 Z Z ?_
  cases hm
  refine G ?_
  refine ⟨_, Qda Z, ?_⟩
  exact ⟨ac, lq, i.drop, (QkO Z Z Z)⟩
 refine G ?_
 refine KG (n0 := 6) (qs 0 6 .done) Yp (by kernel_rfl) (by kernel_rfl) (G ?_)
 refine Zn (i.drew) A3.h Z Z Z ⟨Z, ?_⟩
 cases hm
 refine G ?_
 refine ⟨_, Qda Z, ?_⟩
 exact ⟨ac, lq, (i.drew).drop, (QkO Z Z Z)⟩
theorem JV {w0 w : World} {s : PHeap} {H : List Res} {fu : Nat} {a : checker_checker} {l : (List Fact)} {k : Int} {b : Nat} {d : Value} {f : Value} {g : Value} {i : Value} {j : Value} {n : Value} {r : Bool × (Option Int) × Int} (hm : Qx fu a l k = some r) (hS : St w0 s (Res.box b 122 [d, f, g, i, U (a.c.Bound), j, U (a.steps)] :: H) w) (o : SliceRep (Qc .i64) s d a.t.Vars) (p : SliceRep (Qc .i64) s f a.t.Init) (q : SliceRep encFact s g a.t.Goal) (u : SliceRep encOp s i a.t.Ops) (x : SliceRep encNogood s j a.c.Nogoods) (ah : SliceRep encFact s n l) :
  Calls Tryz.prog 58 #[Value.pointer (some ⟨b, 0, none⟩), n, U k] w fun e w' => ∃ v, e = .returned v ∧ ((K3 fun (ae : Bool) (af : (Option Int)) (ag : Int) => ∃ (m : PHeap) , PHeap.le s m ∧ St w0 m (Res.box b 122 [d, f, g, i, U (a.c.Bound), j, U ag] :: H) w' ∧ v = Value.tuple #[Value.bool (ae), Yc 39 (af)]) r) := by
 unfold Qx at hm
 refine Qb Tryz.func58 Z Z (G ?_)
 refine KG (n0 := 20) (qs 0 8 (qs 9 4 (.e 8 [0, 1, 2, 3, 4, 5, 9, 10, 11, 12] (.e 13 [] (qs 14 6 .done))))) Yp (by kernel_rfl) (by kernel_rfl) (G ?_)
 refine Zn (hS.drew) A22.h Z Z Z ⟨Z, ?_⟩
 refine G ?_
 refine Zn (hS.drew) A3.h Z Z Z ⟨Z, ?_⟩
 obtain ⟨au, aa, hm⟩ := Zg hm
 refine G ?_
 refine Tc Z Z Z Z (Qa2 aa hS.drew o p q u x).r ?_
 rintro ao ap ⟨am, _, ak, y, rfl, ac⟩
 refine ⟨agq, ?_⟩
 obtain ⟨ad, ab, hm⟩ := Zg hm
 obtain ⟨av, aw, ax⟩ := ad
 replace hm := Js hm
 refine G ?_
 refine Tc Z Z Z Z (QcK ab y rq rq ac).r ?_
 rintro _ aq ⟨an, al, ai, rfl⟩
 refine ⟨agq, ?_⟩
 refine G ?_
 refine Qh (T := 39) Tryz.underlying35 Z Z Z (G ?_)
 rcases Qk hm with ⟨z, hm⟩ | ⟨z, hm⟩
 ·cases hm
  refine G ?_
  refine ⟨_, KA Z, ?_⟩
  exact V
 refine G ?_
 refine Yo Z Z Z ?_
 intro ar aj
 cases hm
 refine G ?_
 refine ⟨_, KA Z, ?_⟩
 exact V
theorem Y6 {w0 w : World} {s : PHeap} {H : List Res} {fu : Nat} {d : checker_checker} {p : Nogood} {aq : Int} {i : Nat} {j : Value} {l : Value} {m : Value} {n : Value} {o : Value} {a0 : Value} {r : (Option Int) × Int} (hm : Q7 fu d p aq = some r) (hS : St w0 s (Res.box i 122 [j, l, m, n, U (d.c.Bound), o, U (d.steps)] :: H) w) (aa : SliceRep (Qc .i64) s j d.t.Vars) (ab : SliceRep (Qc .i64) s l d.t.Init) (ac : SliceRep encFact s m d.t.Goal) (x : SliceRep encOp s n d.t.Ops) (bt : SliceRep encNogood s o d.c.Nogoods) (ad : SliceRep encFact s a0 p.Facts) :
  Calls Tryz.prog 59 #[Value.pointer (some ⟨i, 0, none⟩), Value.agg #[a0, U (p.Dist)], U aq] w fun e w' => ∃ v, e = .returned v ∧ ((QK fun (br : (Option Int)) (bs : Int) => ∃ (ar : PHeap) , PHeap.le s ar ∧ St w0 ar (Res.box i 122 [j, l, m, n, U (d.c.Bound), o, U bs] :: H) w' ∧ v = Yc 39 (br)) r) := by
 unfold Q7 at hm
 refine Qb Tryz.func59 Z Z (G ?_)
 refine Yz Z Z ?_
 intro bu cq q
 refine G ?_
 rcases Qk hm with ⟨aN, hm⟩ | ⟨aN, hm⟩
 ·refine G ?_
  refine KG (n0 := 12) (qs 0 12 .done) Yp (by kernel_rfl) (by kernel_rfl) ?_
  have u := q.drew
  obtain ⟨a3, bb, hm⟩ := Zg hm
  refine G ?_
  refine Q6 S24.h Z Z Z x bb ?_
  intro bv ca a8 b1
  refine ⟨Z, ?_⟩
  refine G ?_
  refine Zw (E := (Qc .i64)) u A3.h Z Z Z (a8.sub (Sub.iso (Kr (Sub.fst (Sub.refl _)) Z)) Z) ?_
  intro cn bc
  obtain rfl := Qt.1 bc
  refine ⟨Z, ?_⟩
  refine G ?_
  rcases Qk hm with ⟨aO, hm⟩ | ⟨aO, hm⟩
  ·cases hm
   refine G ?_
   exact fr
  refine G ?_
  refine KG (n0 := 12) (qs 0 7 (.e 7 [] (qs 8 4 .done))) Yp (by kernel_rfl) (by kernel_rfl) (G ?_)
  refine JM (ds := [j, l, m, n]) ((u.drew).f1) A26.h Z Z Z ⟨Z, ?_⟩
  refine G ?_
  refine Zn (u.drew) A23.h Z Z Z ⟨Z, ?_⟩
  obtain ⟨bn, bd, hm⟩ := Zg hm
  obtain ⟨a4, c3⟩ := bn
  replace hm := Qy hm
  refine G ?_
  refine Tc Z Z Z Z (K8 bd u.drew aa ab ac x ad).r ?_
  rintro _ cr ⟨au, a1, bQ, aJ, rfl, cd⟩
  refine ⟨agq, ?_⟩
  refine G ?_
  refine Qh (T := 39) Tryz.underlying35 Z Z Z (G ?_)
  rcases Qk hm with ⟨ai, hm⟩ | ⟨ai, hm⟩
  ·cases hm
   refine G ?_
   exact fr
  obtain ⟨ae, aB, am, aT, aL⟩ := Qo hm
  refine W_c Z ai (Qa0 (QT (Ze (Zc (Zc (Zd (g ?_)))))))
  refine Qm (M := fun f' w' => ∃ s', (ae = .next s' ∨ ae = .brk s') ∧ (fun (a6 : Int) => ∃ (av : PHeap) , PHeap.le au av ∧ St w0 av (Res.box i 122 [j, l, m, n, U (d.c.Bound), o, U a6] :: H) w' ∧ Fx f' [(0, Vq i), (7, U (IntKind.i64.wrap (p.Dist + a3.Cost))), (53, a1), (54, U ((a4.length : Int)))]) s') ?_ ?_
  ·refine G ?_
   refine Q2 (fun k' s' f' w' => (fun (y : Int) => ∃ (aw : PHeap) , PHeap.le au aw ∧ St w0 aw (Res.box i 122 [j, l, m, n, U (d.c.Bound), o, U y] :: H) w' ∧ Fx f' [(55, U (k' : Int)), (0, Vq i), (7, U (IntKind.i64.wrap (p.Dist + a3.Cost))), (53, a1), (54, U ((a4.length : Int)))]) s') aB ?_ ?_ ?_
   ·have bE := aJ.drop
    exact V
   ·intro bO y bz b2 cs bM aD a ao
    obtain ⟨cf, bR, ag, ⟨b3, rfl⟩⟩ := aD
    obtain ⟨c1, be, a⟩ := Zg a
    refine G ?_
    refine Jk Z Z Z be ?_
    intro bw cb a9
    refine G ?_
    refine Zw (E := (Qa encFact)) ag A23.h Z Z Z a9 ?_
    intro co bf
    have bl := Qr.1 bf
    obtain ⟨bo, bg, a⟩ := Zg a
    obtain ⟨c4, c5, c9⟩ := bo
    replace a := Js a
    refine G ?_
    refine Tc Z Z Z Z (JV bg ag rq rq rq rq rq bl).r ?_
    rintro _ ct ⟨cg, bS, bF, rfl⟩
    refine G ?_
    refine Qh (T := 39) Tryz.underlying35 Z Z Z (G ?_)
    rcases Qk a with ⟨aP, a⟩ | ⟨aP, a⟩
    ·cases a
     have aV := am _ (ao (by intro _ h; cases h))
     cases aV
     refine G ?_
     exact fr
    refine G ?_
    rcases Qk a with ⟨aQ, a⟩ | ⟨aQ, a⟩
    ·refine G ?_
     refine Exec.makeInterface C39 Z Z ?_
     cases a
     have aW := am _ (ao (by intro _ h; cases h))
     cases aW
     refine G ?_
     exact fr
    cases a
    refine G ?_
    exact ⟨_, Z, V⟩
   intro y b4 cu aE aZ
   obtain ⟨ch, bT, bG, ⟨b5, rfl⟩⟩ := aE
   refine G ?_
   exact ⟨_, .inl aZ, V⟩
  rintro b6 cv ⟨a6, aj, aH⟩
  have hm := aj.elim (aT _) (aL _)
  clear aj
  obtain ⟨ci, bU, bH, ⟨b7, rfl⟩⟩ := aH
  cases hm
  refine G ?_
  exact fr
 refine G ?_
 refine KG (n0 := 12) (qs 0 7 (.e 7 [] (qs 8 4 .done))) Yp (by kernel_rfl) (by kernel_rfl) (G ?_)
 refine JM (ds := [j, l, m, n]) ((q.drew).f1) A26.h Z Z Z ⟨Z, ?_⟩
 refine G ?_
 refine Zn (q.drew) A23.h Z Z Z ⟨Z, ?_⟩
 obtain ⟨bp, bh, hm⟩ := Zg hm
 obtain ⟨a5, c6⟩ := bp
 replace hm := Qy hm
 refine G ?_
 refine Tc Z Z Z Z (K8 bh q.drew aa ab ac x ad).r ?_
 rintro _ cw ⟨ax, a2, bV, aK, rfl, ce⟩
 refine ⟨agq, ?_⟩
 refine G ?_
 refine Qh (T := 39) Tryz.underlying35 Z Z Z (G ?_)
 rcases Qk hm with ⟨ak, hm⟩ | ⟨ak, hm⟩
 ·cases hm
  refine G ?_
  exact fr
 obtain ⟨af, aC, an, aU, aM⟩ := Qo hm
 refine W_c Z ak (Qa0 (QT (Ze (Zc (Zc (Zd (g ?_)))))))
 refine Qm (M := fun f' w' => ∃ s', (af = .next s' ∨ af = .brk s') ∧ (fun (a7 : Int) => ∃ (ay : PHeap) , PHeap.le ax ay ∧ St w0 ay (Res.box i 122 [j, l, m, n, U (d.c.Bound), o, U a7] :: H) w' ∧ Fx f' [(0, Vq i), (7, U 0), (53, a2), (54, U ((a5.length : Int)))]) s') ?_ ?_
 ·refine G ?_
  refine Q2 (fun k' s' f' w' => (fun (z : Int) => ∃ (az : PHeap) , PHeap.le ax az ∧ St w0 az (Res.box i 122 [j, l, m, n, U (d.c.Bound), o, U z] :: H) w' ∧ Fx f' [(55, U (k' : Int)), (0, Vq i), (7, U 0), (53, a2), (54, U ((a5.length : Int)))]) s') aC ?_ ?_ ?_
  ·have bI := aK.drop
   exact V
  ·intro bP z b0 b8 cx bN aF b ap
   obtain ⟨cj, bW, ah, ⟨b9, rfl⟩⟩ := aF
   obtain ⟨c2, bi, b⟩ := Zg b
   refine G ?_
   refine Jk Z Z Z bi ?_
   intro bx cc aA
   refine G ?_
   refine Zw (E := (Qa encFact)) ah A23.h Z Z Z aA ?_
   intro cp bj
   have bm := Qr.1 bj
   obtain ⟨bq, bk, b⟩ := Zg b
   obtain ⟨c7, c8, cA⟩ := bq
   replace b := Js b
   refine G ?_
   refine Tc Z Z Z Z (JV bk ah rq rq rq rq rq bm).r ?_
   rintro _ cy ⟨ck, bX, bJ, rfl⟩
   refine G ?_
   refine Qh (T := 39) Tryz.underlying35 Z Z Z (G ?_)
   rcases Qk b with ⟨aR, b⟩ | ⟨aR, b⟩
   ·cases b
    have aX := an _ (ap (by intro _ h; cases h))
    cases aX
    refine G ?_
    exact fr
   refine G ?_
   rcases Qk b with ⟨aS, b⟩ | ⟨aS, b⟩
   ·refine G ?_
    refine Exec.makeInterface C39 Z Z ?_
    cases b
    have aY := an _ (ap (by intro _ h; cases h))
    cases aY
    refine G ?_
    exact fr
   cases b
   refine G ?_
   exact ⟨_, Z, V⟩
  intro z bA cz aG ba
  obtain ⟨cl, bY, bK, ⟨bB, rfl⟩⟩ := aG
  refine G ?_
  exact ⟨_, .inl ba, V⟩
 rintro bC c0 ⟨a7, al, aI⟩
 have hm := al.elim (aU _) (aM _)
 clear al
 obtain ⟨cm, bZ, bL, ⟨bD, rfl⟩⟩ := aI
 cases hm
 refine G ?_
 exact fr
theorem QdT {w0 w : World} {s : PHeap} {H : List Res} {fu : Nat} {t : Task} {a : Certificate} {u : Int} {d : Value} {i : Value} {j : Value} {l : Value} {b : Value} {r : Int × Int × (Option Int)} (hm : KU fu t a u = some r) (hS : St w0 s (H) w) (aP : SliceRep (Qc .i64) s d t.Vars) (aQ : SliceRep (Qc .i64) s i t.Init) (aR : SliceRep encFact s j t.Goal) (aS : SliceRep encOp s l t.Ops) (ct : SliceRep encNogood s b a.Nogoods) :
  Calls Tryz.prog 27 #[Value.agg #[d, i, j, l], Value.agg #[U (a.Bound), b], U u] w fun e w' => ∃ v, e = .returned v ∧ ((K3 fun (ca : Int) (cb : Int) (aW : (Option Int)) => ∃ (a1 : PHeap) , PHeap.le s a1 ∧ St w0 a1 (H) w' ∧ v = Value.tuple #[U ca, U cb, Yc 39 (aW)]) r) := by
 unfold KU at hm
 refine Qb Tryz.func27 Z Z (G ?_)
 refine Yz Z Z ?_
 intro m ep cX
 refine G ?_
 refine Yz Z Z ?_
 intro z er br
 obtain ⟨eL, cc, hm⟩ := Zg hm
 refine G ?_
 refine Tc Z Z Z Z (QaK cc br aP aQ aR aS).r ?_
 rintro _ es ⟨dS, d2, bs, rfl⟩
 refine G ?_
 refine Qh (T := 39) Tryz.underlying35 Z Z Z (G ?_)
 rcases Qk hm with ⟨b6, hm⟩ | ⟨b6, hm⟩
 ·cases hm
  refine G ?_
  refine ⟨_, Qda Z, ?_⟩
  exact V
 obtain ⟨eM, cd, hm⟩ := Zg hm
 refine G ?_
 refine Tc Z Z Z Z (QbX cd bs rq rq).r ?_
 rintro _ et ⟨a2, d3, bt, rfl⟩
 refine G ?_
 refine Qh (T := 39) Tryz.underlying35 Z Z Z (G ?_)
 rcases Qk hm with ⟨ar, hm⟩ | ⟨ar, hm⟩
 ·cases hm
  refine G ?_
  refine ⟨_, Qda Z, ?_⟩
  exact V
 obtain ⟨ai, aX, bL, bB, b1⟩ := Qo hm
 refine W_c Z ar (Qa0 (QT (Ze (Zc (Zc (Zd (g ?_)))))))
 refine Qm (M := fun f' w' => ∃ s', (ai = .next s' ∨ ai = .brk s') ∧ (fun (_ : Unit) => ∃ (a3 : PHeap) , PHeap.le a2 a3 ∧ St w0 a3 (Res.box m 26 [d, i, j, l] :: Res.box z 33 [U (a.Bound), b] :: H) w' ∧ Fx f' [(2, U u), (3, Vq m), (4, Vq z), (33, b), (34, U ((a.Nogoods.length : Int)))]) s') ?_ ?_
 ·refine G ?_
  refine Q2 (fun k' s' f' w' => (fun (_ : Unit) => ∃ (a4 : PHeap) , PHeap.le a2 a4 ∧ St w0 a4 (Res.box m 26 [d, i, j, l] :: Res.box z 33 [U (a.Bound), b] :: H) w' ∧ Fx f' [(35, U (k' : Int)), (2, U u), (3, Vq m), (4, Vq z), (33, b), (34, U ((a.Nogoods.length : Int)))]) s') aX ?_ ?_ ?_
  ·have cY := bt.f1
   exact V
  ·intro dz ei cy c3 eu du bc o bQ
   obtain ⟨dT, d4, an, ⟨c4, rfl⟩⟩ := bc
   obtain ⟨eK, ce, o⟩ := Zg o
   refine G ?_
   refine Jk Z Z Z ce ?_
   intro cu dN aT
   refine G ?_
   refine Zw (E := encNogood) an A69.h Z Z Z aT ?_
   intro em cf
   obtain ⟨el, rfl, co⟩ := Jr.1 cf
   refine G ?_
   refine Exec.alloc (cs := [Vn, U 0]) an Z69 Z Z ?_
   intro cv ev cZ
   refine G ?_
   refine Yo Z Z Z ?_
   intro ew bu
   obtain ⟨eN, cg, o⟩ := Zg o
   refine G ?_
   refine Tc Z Z Z Z (Qcs cg bu co rq).r ?_
   rintro _ ex ⟨dU, d5, da, rfl⟩
   refine G ?_
   rcases Qk o with ⟨b7, o⟩ | ⟨b7, o⟩
   ·refine G ?_
    refine Exec.makeInterface C39 Z Z ?_
    cases o
    have bG := bL _ (bQ (by intro _ h; cases h))
    cases bG
    refine G ?_
    refine ⟨_, Qda Z, ?_⟩
    exact V
   cases o
   refine G ?_
   exact ⟨_, Z, V⟩
  intro ej c5 ey bd bR
  obtain ⟨dV, d6, db, ⟨c6, rfl⟩⟩ := bd
  refine G ?_
  exact ⟨_, .inl bR, V⟩
 rintro c7 ez ⟨ek, au, bm⟩
 have hm := au.elim (bB _) (b1 _)
 clear au
 obtain ⟨a5, d7, dc, ⟨c8, rfl⟩⟩ := bm
 refine G ?_
 refine QcD Z Z Z (G ?_)
 refine Qeo Z Z Z (G ?_)
 refine Exec.build Z (Qd (c := [d, i, j, l]) (Qi Z Z) (Qd (c := [U (a.Bound), b]) (Qi Z Z) (Qd (c := [U (max 0 (min u 1048576))]) (Qi Z Z) Qg))) (v := Value.agg #[d, i, j, l, U (a.Bound), b, U (max 0 (min u 1048576))]) (fun _ => by kernel_rfl) (G ?_)
 refine Yz Z Z ?_
 intro n e0 ao
 refine G ?_
 rcases Qk hm with ⟨av, hm⟩ | ⟨av, hm⟩
 ·obtain ⟨cp, ch, hm⟩ := Zg hm
  obtain ⟨eO, eP, eS⟩ := cp
  replace hm := Js hm
  refine G ?_
  refine Tc Z Z Z Z (JV ch ao rq rq rq rq rq rq).r ?_
  rintro _ e1 ⟨a6, d8, bv, rfl⟩
  refine G ?_
  refine Qh (T := 39) Tryz.underlying35 Z Z Z (G ?_)
  rcases Qk hm with ⟨b8, hm⟩ | ⟨b8, hm⟩
  ·cases hm
   refine G ?_
   refine ⟨_, Qda Z, ?_⟩
   exact V
  refine G ?_
  rcases Qk hm with ⟨aw, hm⟩ | ⟨aw, hm⟩
  ·refine G ?_
   refine Exec.makeInterface C39 Z Z ?_
   cases hm
   refine G ?_
   refine ⟨_, Qda Z, ?_⟩
   exact V
  obtain ⟨aj, aY, bM, bC, b2⟩ := Qo hm
  refine W_c Z aw (Qa0 (QT (Ze (Zc (Zc (Zd (g ?_)))))))
  refine Qm (M := fun f' w' => ∃ s', (aj = .next s' ∨ aj = .brk s') ∧ (fun (aL : Int) => ∃ (a7 : PHeap) , PHeap.le a6 a7 ∧ St w0 a7 (Res.box m 26 [d, i, j, l] :: Res.box n 122 [d, i, j, l, U (a.Bound), b, U aL] :: H) w' ∧ Fx f' [(3, Vq m), (13, Vq n), (70, b), (71, U ((a.Nogoods.length : Int)))]) s') ?_ ?_
  ·refine G ?_
   refine Q2 (fun k' s' f' w' => (fun (ae : Int) => ∃ (a8 : PHeap) , PHeap.le a6 a8 ∧ St w0 a8 (Res.box m 26 [d, i, j, l] :: Res.box n 122 [d, i, j, l, U (a.Bound), b, U ae] :: H) w' ∧ Fx f' [(72, U (k' : Int)), (3, Vq m), (13, Vq n), (70, b), (71, U ((a.Nogoods.length : Int)))]) s') aY ?_ ?_ ?_
   ·have dd := (bv.f2).drop
    exact V
   ·intro ac ae cz c9 e2 dv be x bS
    obtain ⟨a9, d9, ap, ⟨cA, rfl⟩⟩ := be
    obtain ⟨aJ, ci, x⟩ := Zg x
    refine G ?_
    refine Jk Z Z Z ci ?_
    intro cw dO aU
    refine G ?_
    refine Zw (E := encNogood) ap A69.h Z Z Z aU ?_
    intro en cj
    obtain ⟨aH, rfl, dQ⟩ := Jr.1 cj
    refine G ?_
    refine Exec.alloc (cs := [Vn, U 0]) ap Z69 Z Z ?_
    intro aa e3 de
    refine G ?_
    refine Yo Z Z Z ?_
    intro e4 bw
    obtain ⟨ak, aZ, bN, bD, b3⟩ := Qo x
    refine g ?_
    refine Zc (Zd (g ?_))
    refine Qm (M := fun f' w' => ∃ s', (ak = .next s' ∨ ak = .brk s') ∧ (fun (aM : Int) => ∃ (aA : PHeap) , PHeap.le a9 aA ∧ St w0 aA (Res.box m 26 [d, i, j, l] :: Res.box n 122 [d, i, j, l, U (a.Bound), b, U aM] :: Res.box aa 69 [aH, U (aJ.Dist)] :: H) w' ∧ Fx f' [(3, Vq m), (13, Vq n), (16, U ((ac : Int))), (17, Vq aa), (70, b), (71, U ((a.Nogoods.length : Int))), (72, U ((ac : Int))), (79, U ((t.Ops.length : Int)))]) s') ?_ ?_
    ·refine G ?_
     refine Q2 (fun k' s' f' w' => (fun (af : Int) => ∃ (aB : PHeap) , PHeap.le a9 aB ∧ St w0 aB (Res.box m 26 [d, i, j, l] :: Res.box n 122 [d, i, j, l, U (a.Bound), b, U af] :: Res.box aa 69 [aH, U (aJ.Dist)] :: H) w' ∧ Fx f' [(80, U (k' : Int)), (3, Vq m), (13, Vq n), (16, U ((ac : Int))), (17, Vq aa), (70, b), (71, U ((a.Nogoods.length : Int))), (72, U ((ac : Int))), (79, U ((t.Ops.length : Int)))]) s') aZ ?_ ?_ ?_
     ·have df := bw.f2
      exact V
     ·intro d0 af c0 cB e5 dw bf p bT
      obtain ⟨dW, dA, bx, ⟨cC, rfl⟩⟩ := bf
      obtain ⟨cq, ck, p⟩ := Zg p
      obtain ⟨eQ, eT⟩ := cq
      replace p := Qy p
      refine G ?_
      refine Tc Z Z Z Z (Y6 ck bx.f1 rq rq rq rq rq rq).r ?_
      rintro _ e6 ⟨dX, dB, dg, rfl⟩
      refine G ?_
      refine Qh (T := 39) Tryz.underlying35 Z Z Z (G ?_)
      rcases Qk p with ⟨b9, p⟩ | ⟨b9, p⟩
      ·cases p
       have bH := bN _ (bT (by intro _ h; cases h))
       cases bH
       have bI := bM _ (bS (by intro _ h; cases h))
       cases bI
       refine G ?_
       refine ⟨_, Qda Z, ?_⟩
       exact V
      cases p
      refine G ?_
      exact ⟨_, Z, V⟩
     intro af cD e7 bg bU
     obtain ⟨dY, dC, dh, ⟨cE, rfl⟩⟩ := bg
     refine G ?_
     exact ⟨_, .inl bU, V⟩
    rintro cF e8 ⟨aM, ax, bn⟩
    have x := ax.elim (bD _) (b3 _)
    clear ax
    obtain ⟨dZ, dD, di, ⟨cG, rfl⟩⟩ := bn
    cases x
    refine G ?_
    exact ⟨_, Z, V⟩
   intro ae cH e9 bh bV
   obtain ⟨ea, dE, dj, ⟨cI, rfl⟩⟩ := bh
   refine G ?_
   exact ⟨_, .inl bV, V⟩
  rintro cJ eA ⟨aL, ay, bo⟩
  have hm := ay.elim (bC _) (b2 _)
  clear ay
  obtain ⟨eb, dF, dk, ⟨cK, rfl⟩⟩ := bo
  cases hm
  refine G ?_
  refine ⟨_, Qda Z, ?_⟩
  exact V
 obtain ⟨al, ba, bO, bE, b4⟩ := Qo hm
 refine W_c Z av (Qa0 (QT (Ze (Zc (Zc (Zd (g ?_)))))))
 refine Qm (M := fun f' w' => ∃ s', (al = .next s' ∨ al = .brk s') ∧ (fun (aN : Int) => ∃ (aC : PHeap) , PHeap.le a5 aC ∧ St w0 aC (Res.box m 26 [d, i, j, l] :: Res.box n 122 [d, i, j, l, U (a.Bound), b, U aN] :: H) w' ∧ Fx f' [(3, Vq m), (13, Vq n), (70, b), (71, U ((a.Nogoods.length : Int)))]) s') ?_ ?_
 ·refine G ?_
  refine Q2 (fun k' s' f' w' => (fun (ag : Int) => ∃ (aD : PHeap) , PHeap.le a5 aD ∧ St w0 aD (Res.box m 26 [d, i, j, l] :: Res.box n 122 [d, i, j, l, U (a.Bound), b, U ag] :: H) w' ∧ Fx f' [(72, U (k' : Int)), (3, Vq m), (13, Vq n), (70, b), (71, U ((a.Nogoods.length : Int)))]) s') ba ?_ ?_ ?_
  ·have dl := (ao.f2).drop
   exact V
  ·intro ad ag c1 cL eB dx bi y bW
   obtain ⟨aE, dG, aq, ⟨cM, rfl⟩⟩ := bi
   obtain ⟨aK, cl, y⟩ := Zg y
   refine G ?_
   refine Jk Z Z Z cl ?_
   intro cx dP aV
   refine G ?_
   refine Zw (E := encNogood) aq A69.h Z Z Z aV ?_
   intro eo cm
   obtain ⟨aI, rfl, dR⟩ := Jr.1 cm
   refine G ?_
   refine Exec.alloc (cs := [Vn, U 0]) aq Z69 Z Z ?_
   intro ab eC dm
   refine G ?_
   refine Yo Z Z Z ?_
   intro eD bz
   obtain ⟨am, bb, bP, bF, b5⟩ := Qo y
   refine g ?_
   refine Zc (Zd (g ?_))
   refine Qm (M := fun f' w' => ∃ s', (am = .next s' ∨ am = .brk s') ∧ (fun (aO : Int) => ∃ (aF : PHeap) , PHeap.le aE aF ∧ St w0 aF (Res.box m 26 [d, i, j, l] :: Res.box n 122 [d, i, j, l, U (a.Bound), b, U aO] :: Res.box ab 69 [aI, U (aK.Dist)] :: H) w' ∧ Fx f' [(3, Vq m), (13, Vq n), (16, U ((ad : Int))), (17, Vq ab), (70, b), (71, U ((a.Nogoods.length : Int))), (72, U ((ad : Int))), (79, U ((t.Ops.length : Int)))]) s') ?_ ?_
   ·refine G ?_
    refine Q2 (fun k' s' f' w' => (fun (ah : Int) => ∃ (aG : PHeap) , PHeap.le aE aG ∧ St w0 aG (Res.box m 26 [d, i, j, l] :: Res.box n 122 [d, i, j, l, U (a.Bound), b, U ah] :: Res.box ab 69 [aI, U (aK.Dist)] :: H) w' ∧ Fx f' [(80, U (k' : Int)), (3, Vq m), (13, Vq n), (16, U ((ad : Int))), (17, Vq ab), (70, b), (71, U ((a.Nogoods.length : Int))), (72, U ((ad : Int))), (79, U ((t.Ops.length : Int)))]) s') bb ?_ ?_ ?_
    ·have dn := bz.f2
     exact V
    ·intro d1 ah c2 cN eE dy bj q bX
     obtain ⟨ec, dH, b0, ⟨cO, rfl⟩⟩ := bj
     obtain ⟨cr, cn, q⟩ := Zg q
     obtain ⟨eR, eU⟩ := cr
     replace q := Qy q
     refine G ?_
     refine Tc Z Z Z Z (Y6 cn b0.f1 rq rq rq rq rq rq).r ?_
     rintro _ eF ⟨ed, dI, dp, rfl⟩
     refine G ?_
     refine Qh (T := 39) Tryz.underlying35 Z Z Z (G ?_)
     rcases Qk q with ⟨bA, q⟩ | ⟨bA, q⟩
     ·cases q
      have bJ := bP _ (bX (by intro _ h; cases h))
      cases bJ
      have bK := bO _ (bW (by intro _ h; cases h))
      cases bK
      refine G ?_
      refine ⟨_, Qda Z, ?_⟩
      exact V
     cases q
     refine G ?_
     exact ⟨_, Z, V⟩
    intro ah cP eG bk bY
    obtain ⟨ee, dJ, dq, ⟨cQ, rfl⟩⟩ := bk
    refine G ?_
    exact ⟨_, .inl bY, V⟩
   rintro cR eH ⟨aO, az, bp⟩
   have y := az.elim (bF _) (b5 _)
   clear az
   obtain ⟨ef, dK, dr, ⟨cS, rfl⟩⟩ := bp
   cases y
   refine G ?_
   exact ⟨_, Z, V⟩
  intro ag cT eI bl bZ
  obtain ⟨eg, dL, ds, ⟨cU, rfl⟩⟩ := bl
  refine G ?_
  exact ⟨_, .inl bZ, V⟩
 rintro cV eJ ⟨aN, a0, bq⟩
 have hm := a0.elim (bE _) (b4 _)
 clear a0
 obtain ⟨eh, dM, dt, ⟨cW, rfl⟩⟩ := bq
 cases hm
 refine G ?_
 refine ⟨_, Qda Z, ?_⟩
 exact V
theorem QM {w0 w : World} {s : PHeap} {H : List Res} {fu : Nat} {a : Task} {b : Certificate} {d : Int} {f : Value} {g : Value} {h : Value} {i : Value} {j : Value} {r : (Option Int)} (hm : Qq fu a b d = some r) (hS : St w0 s (H) w) (k : SliceRep (Qc .i64) s f a.Vars) (l : SliceRep (Qc .i64) s g a.Init) (m : SliceRep encFact s h a.Goal) (n : SliceRep encOp s i a.Ops) (o : SliceRep encNogood s j b.Nogoods) :
  Calls Tryz.prog 10 #[Value.agg #[f, g, h, i], Value.agg #[U (b.Bound), j], U d] w fun e w' => ∃ v, e = .returned v ∧ ((fun (u : (Option Int)) => ∃ (c : PHeap) , PHeap.le s c ∧ St w0 c (H) w' ∧ v = Yc 39 (u)) r) := by
 unfold Qq at hm
 refine Qb Tryz.func10 Z Z (G ?_)
 refine Yz Z Z ?_
 intro x ag aa
 refine G ?_
 refine Yz Z Z ?_
 intro y ah p
 obtain ⟨t, q, hm⟩ := Zg hm
 obtain ⟨ad, ae, z⟩ := t
 replace hm := Js hm
 refine G ?_
 refine Tc Z Z Z Z (QdT q p k l m n o).r ?_
 rintro _ ai ⟨af, ac, ab, rfl⟩
 cases hm
 refine G ?_
 exact fr
theorem KJ {w0 w : World} {s : PHeap} {H : List Res} {fu : Nat} {r : Bool} (hm : QN fu = some r) (hS : St w0 s (H) w) (ht : TabS Tryz.prog s) :
  Calls Tryz.prog 6 #[] w fun e w' => ∃ v, e = .returned v ∧ ((fun (az : Bool) => ∃ (l : PHeap) , PHeap.le s l ∧ St w0 l (H) w' ∧ v = Value.bool (az)) r) := by
 unfold QN at hm
 refine Qb Tryz.func6 Z Z (G ?_)
 refine Exec.buildSlice (Te := 3) (cs := [U 2]) hS Z (Qd (c := [U 2]) (Qi Z Z) Qg) (fun _ => by kernel_rfl) ?_
 intro h aT o
 refine G ?_
 refine Exec.buildSlice (Te := 3) (cs := [U 0]) o Z (Qd (c := [U 0]) (Qi Z Z) Qg) (fun _ => by kernel_rfl) ?_
 intro i aU p
 refine G ?_
 refine Exec.build Z (Qd (c := [U 0]) (Qi Z Z) (Qd (c := [U 1]) (Qi Z Z) Qg)) (v := Value.agg #[U 0, U 1]) (fun _ => by kernel_rfl) (G ?_)
 refine Exec.buildSlice (Te := 52) (cs := [U 0, U 1]) p Z (Qd (c := [U 0, U 1]) (Qi Z Z) Qg) (fun _ => by kernel_rfl) ?_
 intro j aV q
 refine G ?_
 refine Exec.build Z (Qd (c := [U 0]) (Qi Z Z) (Qd (c := [U 1]) (Qi Z Z) Qg)) (v := Value.agg #[Vn, U 0, U 1]) (fun _ => by kernel_rfl) (G ?_)
 refine Exec.buildSlice (Te := 50) (cs := [Vn, U 0, U 1]) q Z (Qd (c := [Vn, U 0, U 1]) (Qi Z Z) Qg) (fun _ => by kernel_rfl) ?_
 intro b aW t
 refine G ?_
 refine Exec.build Z (Qd (c := [U 2]) (Qi Z Z) (Qd (c := [Vs (some ⟨b, 0, none⟩) 1 1]) (Qi Z Z) Qg)) (v := Value.agg #[Value.string (⟨#[]⟩), U 2, Vn, Vs (some ⟨b, 0, none⟩) 1 1]) (fun _ => by kernel_rfl) ?_
 have u := St.boxArr (E := encEffect) (xs := [(⟨[], 0, 1⟩ : Effect)]) t ⟨[Vn, U 0, U 1], [], rfl, ⟨[Vn], [U 0, U 1], rfl, ⟨_, rfl, (SliceRep.nil _ _)⟩, ⟨[U 0], [U 1], rfl, rfl, rfl⟩⟩, rfl⟩ (by simp [maxLen])
 obtain ⟨aK, a8, x, ar⟩ := u.freezeArr
 refine G ?_
 refine Exec.buildSlice (Te := 48) (cs := [Value.string (⟨#[]⟩), U 2, Vn, Vs (some ⟨b, 0, none⟩) 1 1]) x Z (Qd (c := [Value.string (⟨#[]⟩), U 2, Vn, Vs (some ⟨b, 0, none⟩) 1 1]) (Qi Z Z) Qg) (fun _ => by kernel_rfl) ?_
 intro k aX y
 refine G ?_
 refine Exec.build Z (Qd (c := [Vs (some ⟨h, 0, none⟩) 1 1]) (Qi Z Z) (Qd (c := [Vs (some ⟨i, 0, none⟩) 1 1]) (Qi Z Z) (Qd (c := [Vs (some ⟨j, 0, none⟩) 1 1]) (Qi Z Z) (Qd (c := [Vs (some ⟨k, 0, none⟩) 1 1]) (Qi Z Z) Qg)))) (v := Value.agg #[Vs (some ⟨h, 0, none⟩) 1 1, Vs (some ⟨i, 0, none⟩) 1 1, Vs (some ⟨j, 0, none⟩) 1 1, Vs (some ⟨k, 0, none⟩) 1 1]) (fun _ => by kernel_rfl) (G ?_)
 refine Exec.alloc (cs := [Vn, Vn, Vn, Vn]) y Z26 Z Z ?_
 intro a0 aY a4
 refine G ?_
 refine Yo Z Z Z ?_
 intro aZ z
 refine G ?_
 have aa := St.boxArr (E := (Qc .i64)) (xs := [2]) z.f4 ⟨[U 2], [], rfl, rfl, rfl⟩ (by simp [maxLen])
 obtain ⟨aL, a9, ab, aH⟩ := aa.freezeArr
 have ac := St.boxArr (E := (Qc .i64)) (xs := [0]) ab.f3 ⟨[U 0], [], rfl, rfl, rfl⟩ (by simp [maxLen])
 obtain ⟨aM, aA, ad, aI⟩ := ac.freezeArr
 have ae := St.boxArr (E := encFact) (xs := [(⟨0, 1⟩ : Fact)]) ad.f2 ⟨[U 0, U 1], [], rfl, ⟨[U 0], [U 1], rfl, rfl, rfl⟩, rfl⟩ (by simp [maxLen])
 obtain ⟨aN, aB, af, aJ⟩ := ae.freezeArr
 have ag := St.boxArr (E := encOp) (xs := [(⟨⟨#[]⟩, 2, [], [(⟨[], 0, 1⟩ : Effect)]⟩ : Op)]) af.f1 (reps.mono lq ⟨[Value.string (⟨#[]⟩), U 2, Vn, Vs (some ⟨b, 0, none⟩) 1 1], [], rfl, ⟨[Value.string (⟨#[]⟩)], [U 2, Vn, Vs (some ⟨b, 0, none⟩) 1 1], rfl, rfl, ⟨[U 2], [Vn, Vs (some ⟨b, 0, none⟩) 1 1], rfl, rfl, ⟨[Vn], [Vs (some ⟨b, 0, none⟩) 1 1], rfl, ⟨_, rfl, (SliceRep.nil _ _)⟩, ⟨_, rfl, ar⟩⟩⟩⟩, rfl⟩) (by simp [maxLen])
 obtain ⟨aO, aC, ah, au⟩ := ag.freezeArr
 obtain ⟨ax, ao, hm⟩ := Zg hm
 obtain ⟨bg, bh⟩ := ax
 replace hm := Qy hm
 refine G ?_
 refine Tc Z Z Z Z (Yh ao ah rq rq rq au).r ?_
 rintro _ ba ⟨aP, aS, aD, ai, rfl, av⟩
 refine G ?_
 refine Exec.alloc (cs := [U 0, Vn]) ai Z33 Z Z ?_
 intro a1 bb a5
 refine G ?_
 refine Yo Z Z Z ?_
 intro bc aj
 obtain ⟨ay, ap, hm⟩ := Zg hm
 obtain ⟨bi, bj⟩ := ay
 replace hm := Qy hm
 refine G ?_
 refine Tc Z Z Z Z (KN ap aj av (ht.mono lq)).r ?_
 rintro _ bd ⟨aw, aE, ak, rfl⟩
 obtain ⟨d, a, hm⟩ := Zg hm
 refine g ?_
 refine Zc (Qm (M := fun f' w' => (fun (d : Bool) => ∃ (m : PHeap) , PHeap.le aw m ∧ St w0 m (H) w' ∧ Fx f' [(0, Vb d)]) d) ?_ ?_)
 ·refine G ?_
  refine QP (T := 39) Tryz.underlying35 Z Z Z (G ?_)
  rcases Qk a with ⟨al, a⟩ | ⟨al, a⟩
  ·refine G ?_
   refine QP (T := 39) Tryz.underlying35 Z Z Z (G ?_)
   rcases Qk a with ⟨am, a⟩ | ⟨am, a⟩
   ·refine G ?_
    rcases Qk a with ⟨an, a⟩ | ⟨an, a⟩
    ·obtain ⟨bk, aq, a⟩ := Zg a
     refine G ?_
     refine Tc Z Z Z Z (QM aq ak rq rq rq rq rq).r ?_
     rintro _ be ⟨aQ, aF, a6, rfl⟩
     refine G ?_
     refine QP (T := 39) Tryz.underlying35 Z Z Z ?_
     cases a
     refine G ?_
     exact V
    cases a
    refine G ?_
    exact V
   cases a
   refine G ?_
   exact V
  cases a
  refine G ?_
  exact V
 intro a2 bf n
 obtain ⟨aR, aG, a7, ⟨a3, rfl⟩⟩ := n
 cases hm
 refine G ?_
 exact fr
instance S95 : STy Tryz.prog 95 22 1 24 := ⟨by kernel_rfl⟩
theorem Z3 : Jl Tryz.prog 3 = some (U 0) := by kernel_rfl
theorem Z22 : Jl Tryz.prog 22 = some (Value.slice none 0 0) := by kernel_rfl
theorem Qcc {w0 w : World} {s : PHeap} {H : List Res} {m : (List Int)} {j : Value} {r : (List (List Int))} (hm : Yb m = some r) (hS : St w0 s (H) w) (aW : SliceRep (Qc .i64) s j m) :
  Calls Tryz.prog 40 #[j] w fun e w' => ∃ v, e = .returned v ∧ ((fun (aV : (List (List Int))) => ∃ (z : PHeap) (ai : Value), PHeap.le s z ∧ St w0 z (H) w' ∧ v = ai ∧ SliceRep (Qa (Qc .i64)) z ai aV) r) := by
 unfold Yb at hm
 refine Qb Tryz.func40 Z Z (G ?_)
 refine Exec.buildSlice (Te := 3) (cs := []) hS Z Qg (fun _ => by kernel_rfl) ?_
 intro t bL av
 have aw := St.boxArr (E := (Qc .i64)) (xs := []) av rfl (by simp [maxLen])
 obtain ⟨aM, bx, ax, aL⟩ := aw.freezeArr
 refine G ?_
 refine Exec.buildSlice (Te := 22) (cs := [Vs (some ⟨t, 0, none⟩) 0 0]) ax Z (Qd (c := [Vs (some ⟨t, 0, none⟩) 0 0]) (Qi Z Z) Qg) (fun _ => by kernel_rfl) ?_
 intro aX bM ay
 obtain ⟨g, ak, hm⟩ := Zg hm
 refine G ?_
 refine J8 (fun k' s' f' w' => (fun (g : (List (List Int))) => ∃ (af : PHeap) (a : Value), PHeap.le aM af ∧ St w0 af (Res.arr (Qa (Qc .i64)) 22 a g :: H) w' ∧ Fx f' [(14, U (k' : Int)), (3, a), (12, j), (13, U ((m.length : Int)))]) s') ak ?_ ?_ ?_
 ·have br := St.boxArr (E := (Qa (Qc .i64))) (xs := [[]]) ay ⟨[Vs (some ⟨t, 0, none⟩) 0 0], [], rfl, ⟨_, rfl, aL⟩, rfl⟩ (by simp [maxLen])
  exact V
 ·intro ad g bC be bN bw an i
  obtain ⟨aN, a, bz, n, ⟨bf, rfl⟩⟩ := an
  obtain ⟨ab, aE, i⟩ := Zg i
  refine G ?_
  refine Jk Z Z Z aE ?_
  intro aY b9 aj
  refine G ?_
  refine Zw (E := (Qc .i64)) n A3.h Z Z Z aj ?_
  intro bJ aF
  obtain rfl := Qt.1 aF
  refine G ?_
  refine Qv (n) S95.h Z Z ?_
  obtain ⟨y, al, i⟩ := Zg i
  refine G ?_
  refine J8 (fun k' s' f' w' => (fun (y : (List (List Int))) => ∃ (ag : PHeap) (q : Value), PHeap.le aN ag ∧ St w0 ag (Res.arr (Qa (Qc .i64)) 22 q y :: Res.arr (Qa (Qc .i64)) 22 a g :: H) w' ∧ Fx f' [(20, U (k' : Int)), (5, U ab), (6, q), (12, j), (13, U ((m.length : Int))), (14, U ((ad : Int))), (18, a), (19, U ((g.length : Int)))]) s') al ?_ ?_ ?_
  ·have bs := n.nilArr (Qa (Qc .i64)) 22
   exact V
  ·intro aC y aO bg bO aA ao b
   obtain ⟨aP, q, b0, u, ⟨bh, rfl⟩⟩ := ao
   obtain ⟨aU, p, b⟩ := Zg b
   obtain ⟨bq, bc, ac⟩ := (u.f1).arr_at p
   refine G ?_
   refine Qe S95.h Z ac Z (Qf p).1 (Qf p).2.1 (G ?_)
   refine Qs (F := (Qa (Qc .i64))) (u.f1) ac A22.h Z Z Z p (Sub.refl _) ?_
   intro aS aG
   have bA := Qr.1 aG
   obtain ⟨bI, aH, b⟩ := Zg b
   obtain ⟨x, am, b⟩ := Zg b
   refine G ?_
   refine J8 (fun k' s' f' w' => (fun (x : (List (List Int))) => ∃ (ah : PHeap) (l : Value), PHeap.le aP ah ∧ St w0 ah (Res.arr (Qa (Qc .i64)) 22 l x :: Res.arr (Qa (Qc .i64)) 22 a g :: H) w' ∧ Fx f' [(25, U (k' : Int)), (5, U ab), (6, l), (8, aS), (12, j), (13, U ((m.length : Int))), (14, U ((ad : Int))), (18, a), (19, U ((g.length : Int))), (20, U ((aC : Int))), (24, U ab)]) s') am ?_ ?_ ?_
   ·have bt := u.f1
    exact V
   ·intro o x bD bi bP aB ap d
    obtain ⟨bE, l, b1, az, ⟨bj, rfl⟩⟩ := ap
    refine G ?_
    refine Exec.buildSlice (Te := 3) (cs := []) az Z Qg (fun _ => by kernel_rfl) ?_
    intro aZ bQ a0
    refine G ?_
    have a1 := St.boxArr (E := (Qc .i64)) (xs := []) a0 rfl (by simp [maxLen])
    obtain ⟨b2, aI, d⟩ := Zg d
    refine G ?_
    refine Kp (E := (Qc .i64)) (ys := aU) a1 S22.h Z3 Z (by decide) Z Z Z rq aI ?_
    intro bK bR a2
    refine G ?_
    refine Exec.buildSlice (Te := 3) (cs := [U ((o : Int))]) a2 Z (Qd (c := [U ((o : Int))]) (Qi Z Z) Qg) (fun _ => by kernel_rfl) ?_
    intro ba bS a3
    obtain ⟨aD, aJ, d⟩ := Zg d
    refine G ?_
    refine Q0 (E := (Qc .i64)) (ys := [(o : Int)]) a3.f1 S22.h Z3 Z (by decide) Z Z Z Z ⟨[U ((o : Int))], [], Z, Z, Z⟩ Z aJ ?_
    intro aa bT a4
    obtain ⟨aQ, b3, a5, ae⟩ := a4.freezeArr
    refine G ?_
    refine Exec.buildSlice (Te := 22) (cs := [aa]) a5 Z (Qd (c := [aa]) (Qi Z (Q5 ae.one)) Qg) (fun _ => by kernel_rfl) ?_
    intro bb bU a6
    obtain ⟨b4, aK, d⟩ := Zg d
    refine G ?_
    refine Q0 (E := (Qa (Qc .i64))) (ys := [aD]) a6.f1 S95.h Z22 Z (by decide) Z Z Z Z ⟨[aa], [], Z, ⟨_, Z, ae⟩, Z⟩ Z aK ?_
    intro aT bV a7
    cases d
    refine G ?_
    exact ⟨aQ, aT, lq, (a7.f1).f1, (Fx.mk (FxL.cons (Ja aB (by have h := YI aH; simp at h; simp only [maxLen]; omega)) fxl))⟩
   intro bk bW aq
   obtain ⟨aR, l, b5, a8, ⟨bl, rfl⟩⟩ := aq
   have bd := Zu b
   subst aO
   refine G ?_
   exact ⟨aR, l, lq, (a8.f1).f1, (Fx.mk (FxL.cons (Ja aA n.arr_le) fxl))⟩
  intro bm bX ar
  obtain ⟨bF, q, b6, bu, ⟨bn, rfl⟩⟩ := ar
  cases i
  refine G ?_
  exact V
 intro bo bY au
 obtain ⟨bG, a, b7, a9, ⟨bp, rfl⟩⟩ := au
 cases hm
 refine G ?_
 refine ⟨_, Qaf Z, ?_⟩
 obtain ⟨bH, b8, bv, bB⟩ := a9.freezeArr
 exact V
theorem QaM {w0 w : World} {s : PHeap} {H : List Res} {c : (List Fact)} {u : (List Int)} {d : Value} {i : Value} {r : Bool} (hm : Kt c u = some r) (hS : St w0 s (H) w) (a0 : SliceRep encFact s d c) (x : SliceRep (Qc .i64) s i u) :
  Calls Tryz.prog 41 #[d, i] w fun e w' => ∃ v, e = .returned v ∧ ((fun (az : Bool) => ∃ (o : PHeap) , PHeap.le s o ∧ St w0 o (H) w' ∧ v = Value.bool (az)) r) := by
 unfold Kt at hm
 refine Qb Tryz.func41 Z Z ?_
 obtain ⟨l, aa, an, al, ah⟩ := Qo hm
 refine Zc (Zd (g ?_))
 refine Zc (Zc (Zd (g ?_)))
 refine Qm (M := fun f' w' => ∃ s', (l = .next s' ∨ l = .brk s') ∧ (fun (_ : Unit) => ∃ (p : PHeap) , PHeap.le s p ∧ St w0 p (H) w' ∧ Fx f' [(1, i), (7, d), (8, U ((c.length : Int)))]) s') ?_ ?_
 ·refine G ?_
  refine Q2 (fun k' s' f' w' => (fun (_ : Unit) => ∃ (q : PHeap) , PHeap.le s q ∧ St w0 q (H) w' ∧ Fx f' [(9, U (k' : Int)), (1, i), (7, d), (8, U ((c.length : Int)))]) s') aa ?_ ?_ ?_
  ·exact V
  ·intro aq aR a4 a6 aW aI ab b ao
   obtain ⟨ay, ar, m, ⟨a7, rfl⟩⟩ := ab
   obtain ⟨bc, au, b⟩ := Zg b
   refine G ?_
   refine Jk Z Z Z au ?_
   intro a1 aM y
   refine G ?_
   refine Zw (E := encFact) m A52.h Z Z Z y ?_
   intro aU av
   obtain rfl := Q9.1 av
   refine G ?_
   refine Exec.alloc (cs := [U 0, U 0]) m Z52 Z Z ?_
   intro a2 aX aE
   refine G ?_
   refine Yo Z Z Z ?_
   intro aY af
   obtain ⟨j, a, b⟩ := Zg b
   refine g ?_
   refine Zc (Qm (M := fun f' w' => (fun (j : Bool) => ∃ (t : PHeap) , PHeap.le ay t ∧ St w0 t (H) w' ∧ Fx f' [(1, i), (7, d), (8, U ((c.length : Int))), (9, U ((aq : Int))), (32, Vb j)]) j) ?_ ?_)
   ·refine KG (n0 := 20) (qs 0 20 .done) Yp (by kernel_rfl) (by kernel_rfl) ?_
    have ag := af.drew
    refine G ?_
    rcases Qk a with ⟨ai, a⟩ | ⟨ai, a⟩
    ·cases a
     refine G ?_
     exact V
    refine G ?_
    rcases Qk a with ⟨aj, a⟩ | ⟨aj, a⟩
    ·cases a
     refine G ?_
     exact V
    obtain ⟨bd, aw, a⟩ := Zg a
    refine G ?_
    refine Q6 S22.h Z Z Z (x.mono ar) aw ?_
    intro a3 aN z a5
    refine ⟨Z, ?_⟩
    refine G ?_
    refine Zw (E := (Qc .i64)) ag A3.h Z Z Z z ?_
    intro aV ax
    obtain rfl := Qt.1 ax
    refine ⟨Z, ?_⟩
    cases a
    refine G ?_
    exact V
   intro a8 aZ ad
   obtain ⟨aO, aJ, aF, ⟨a9, rfl⟩⟩ := ad
   refine G ?_
   rcases Qk b with ⟨ak, b⟩ | ⟨ak, b⟩
   ·cases b
    have am := an _ (ao (by intro _ h; cases h))
    cases am
    refine G ?_
    exact fr
   cases b
   refine G ?_
   exact ⟨_, Z, V⟩
  intro aS aA ba ac ap
  obtain ⟨aP, aK, aG, ⟨aB, rfl⟩⟩ := ac
  refine G ?_
  exact ⟨_, .inl ap, V⟩
 rintro aC bb ⟨aT, n, ae⟩
 have hm := n.elim (al _) (ah _)
 clear n
 obtain ⟨aQ, aL, aH, ⟨aD, rfl⟩⟩ := ae
 cases hm
 refine G ?_
 exact fr
theorem QfU {w0 w : World} {s : PHeap} {H : List Res} {d : Task} {q : (List Int)} {n : Int} {t : Value} {u : Value} {x : Value} {y : Value} {i : Value} {r : (List Int) × Bool} (hm : YY d q n = some r) (hS : St w0 s (H) w) (aN : SliceRep (Qc .i64) s t d.Vars) (aO : SliceRep (Qc .i64) s u d.Init) (aP : SliceRep encFact s x d.Goal) (aQ : SliceRep encOp s y d.Ops) (am : SliceRep (Qc .i64) s i q) :
  Calls Tryz.prog 70 #[Value.agg #[t, u, x, y], i, U n] w fun e w' => ∃ v, e = .returned v ∧ ((QK fun (aL : (List Int)) (aM : Bool) => ∃ (p : PHeap) (aj : Value), PHeap.le s p ∧ St w0 p (H) w' ∧ v = Value.tuple #[aj, Value.bool (aM)] ∧ SliceRep (Qc .i64) p aj aL) r) := by
 unfold YY at hm
 refine Qb Tryz.func70 Z Z (G ?_)
 refine Yz Z Z ?_
 intro aa bB ac
 obtain ⟨z, a, hm⟩ := Zg hm
 refine g ?_
 refine Zc (Zc (Qm (M := fun f' w' => (fun (z : Bool) => ∃ (ag : PHeap) , PHeap.le s ag ∧ St w0 ag (Res.box aa 26 [t, u, x, y] :: H) w' ∧ Fx f' [(1, i), (2, U n), (3, Vq aa), (30, Vb z)]) z) ?_ ?_))
 ·refine G ?_
  rcases Qk a with ⟨a2, a⟩ | ⟨a2, a⟩
  ·cases a
   refine G ?_
   exact V
  refine G ?_
  rcases Qk a with ⟨a3, a⟩ | ⟨a3, a⟩
  ·cases a
   refine G ?_
   exact V
  obtain ⟨bN, a7, a⟩ := Zg a
  refine G ?_
  refine Jk Z Z Z a7 ?_
  intro aR bw an
  refine G ?_
  refine Zw (E := (Qa encFact)) ac A23.h Z Z Z (an.sub (Sub.iso (Kr (Kr (Sub.fst (Sub.refl _)) Z) Z)) Z) ?_
  intro b9 a8
  have aH := Qr.1 a8
  obtain ⟨bQ, a9, a⟩ := Zg a
  refine G ?_
  refine Tc Z Z Z Z (QaM a9 ac aH am).r ?_
  rintro _ bC ⟨b2, bn, bg, rfl⟩
  cases a
  refine G ?_
  exact V
 intro aX bD av
 obtain ⟨aJ, bo, ax, ⟨aY, rfl⟩⟩ := av
 refine G ?_
 rcases Qk hm with ⟨a4, hm⟩ | ⟨a4, hm⟩
 ·cases hm
  refine G ?_
  refine ⟨_, KA Z, ?_⟩
  exact V
 refine G ?_
 refine Exec.buildSlice (Te := 3) (cs := []) ax Z Qg (fun _ => by kernel_rfl) ?_
 intro aS bE ay
 refine G ?_
 have az := St.boxArr (E := (Qc .i64)) (xs := []) ay rfl (by simp [maxLen])
 obtain ⟨bp, aA, hm⟩ := Zg hm
 refine G ?_
 refine Kp (E := (Qc .i64)) (ys := q) az S22.h Z3 Z (by decide) Z Z Z rq aA ?_
 intro j bF ad
 obtain ⟨al, aB, hm⟩ := Zg hm
 refine G ?_
 refine Jk Z Z Z aB ?_
 intro aT bx ao
 refine G ?_
 refine Zw (E := (Qa encEffect)) ad A46.h Z Z Z (ao.sub (Sub.iso (Kr (Kr (Kr (Sub.refl _) Z) Z) Z)) Z) ?_
 intro ak aC
 have b0 := Qr.1 aC
 obtain ⟨l, aq, hm⟩ := Zg hm
 refine G ?_
 refine J8 (fun k' s' f' w' => (fun (l : (List Int)) => ∃ (ah : PHeap) , PHeap.le aJ ah ∧ St w0 ah (Res.arr (Qc .i64) 3 j l :: H) w' ∧ Fx f' [(41, U (k' : Int)), (1, i), (8, j), (39, ak), (40, U ((al.Effs.length : Int)))]) s') aq ?_ ?_ ?_
 ·have bh := (ad.f1).drop
  exact V
 ·intro a6 l b3 aZ bG bm ar c
  obtain ⟨b4, bq, ae, ⟨ba, rfl⟩⟩ := ar
  obtain ⟨bO, aD, c⟩ := Zg c
  refine G ?_
  refine Jk Z Z Z aD ?_
  intro aU bz ap
  refine G ?_
  refine Zw (E := encEffect) ae A50.h Z Z Z ap ?_
  intro bA aE
  obtain ⟨b8, rfl, aI⟩ := JW.1 aE
  refine G ?_
  refine Exec.alloc (cs := [Vn, U 0, U 0]) ae Z50 Z Z ?_
  intro aV bH bi
  refine G ?_
  refine Yo Z Z Z ?_
  intro bI a0
  obtain ⟨bR, aF, c⟩ := Zg c
  refine G ?_
  refine Tc Z Z Z Z (QaM aF a0 aI rq).r ?_
  rintro _ bJ ⟨aK, br, af, rfl⟩
  obtain ⟨m, b, c⟩ := Zg c
  refine g ?_
  refine Qm (M := fun f' w' => (fun (m : (List Int)) => ∃ (ai : PHeap) , PHeap.le aK ai ∧ St w0 ai (Res.arr (Qc .i64) 3 j m :: H) w' ∧ Fx f' [(1, i), (8, j), (39, ak), (40, U ((al.Effs.length : Int))), (41, U ((a6 : Int)))]) m) ?_ ?_
  ·rcases Qk b with ⟨a5, b⟩ | ⟨a5, b⟩
   ·obtain ⟨bP, o, b⟩ := Zg b
    obtain ⟨bf, aW, ab⟩ := (af.f1).arr_at o
    refine G ?_
    refine Qe S22.h Z ab Z (Qf o).1 (Qf o).2.1 ?_
    obtain ⟨bs, aG, b⟩ := Zg b
    refine G ?_
    refine Jd af.f1 ab A3.h Z Z Z Z (Qt.2 Z) aG ?_
    intro bK bj
    cases b
    refine G ?_
    exact V
   cases b
   refine G ?_
   exact V
  intro bb bL aw
  obtain ⟨b5, bt, bk, ⟨bc, rfl⟩⟩ := aw
  cases c
  refine G ?_
  exact V
 intro bd bM au
 obtain ⟨b6, bu, a1, ⟨be, rfl⟩⟩ := au
 cases hm
 refine G ?_
 refine ⟨_, KA Z, ?_⟩
 obtain ⟨b7, bv, bl, b1⟩ := a1.freezeArr
 exact V
theorem QcU {w0 w : World} {s : PHeap} {H : List Res} {o : (List Int)} {g : (List Int)} {i : Value} {j : Value} {r : Int} (hm : YK o g = some r) (hS : St w0 s (H) w) (p : SliceRep (Qc .i64) s i o) (l : SliceRep (Qc .i64) s j g) :
  Calls Tryz.prog 16 #[i, j] w fun e w' => ∃ v, e = .returned v ∧ ((fun (af : Int) => ∃ (m : PHeap) , PHeap.le s m ∧ St w0 m (H) w' ∧ v = U af) r) := by
 unfold YK at hm
 refine Qb Tryz.func16 Z Z ?_
 obtain ⟨d, u, hm⟩ := Zg hm
 refine G ?_
 refine J8 (fun k' s' f' w' => (fun (d : Int) => ∃ (n : PHeap) , PHeap.le s n ∧ St w0 n (H) w' ∧ Fx f' [(9, U (k' : Int)), (0, i), (1, j), (5, U d), (8, U ((g.length : Int)))]) s') u ?_ ?_ ?_
 ·exact V
 ·intro ap d av ak az z x a
  obtain ⟨ae, c, b, ⟨al, rfl⟩⟩ := x
  refine G ?_
  refine KG (n0 := 11) (qs 0 11 .done) Yp (by kernel_rfl) (by kernel_rfl) ?_
  obtain ⟨a1, aa, a⟩ := Zg a
  refine G ?_
  refine Q6 S22.h Z Z Z (p.mono c) aa ?_
  intro ag ar q ai
  refine ⟨Z, ?_⟩
  refine G ?_
  refine Zw (E := (Qc .i64)) b.drew A3.h Z Z Z q ?_
  intro ax ab
  obtain rfl := Qt.1 ab
  refine ⟨Z, ?_⟩
  obtain ⟨a2, ac, a⟩ := Zg a
  refine G ?_
  refine Q6 S22.h Z Z Z (l.mono c) ac ?_
  intro ah au t aj
  refine ⟨Z, ?_⟩
  refine G ?_
  refine Zw (E := (Qc .i64)) b.drew A3.h Z Z Z t ?_
  intro ay ad
  obtain rfl := Qt.1 ad
  refine ⟨Z, ?_⟩
  cases a
  refine G ?_
  exact ⟨ae, c, b.drew, (Fx.mk (FxL.cons (Ja z (SliceRep.le l)) fxl))⟩
 intro am a0 y
 obtain ⟨aw, aq, ao, ⟨an, rfl⟩⟩ := y
 cases hm
 refine G ?_
 exact fr
instance S97 : STy Tryz.prog 97 100 3 24 := ⟨by kernel_rfl⟩
theorem Qmj : Jl Tryz.prog 100 = some (Value.agg #[U 0, U 0, U 0]) := by kernel_rfl
theorem QfT {w0 w : World} {s : PHeap} {H : List Res} {l : Task} {o : Value} {p : Value} {q : Value} {t : Value} {r : (List base_Edge)} (hm : YX l = some r) (hS : St w0 s (H) w) (al : SliceRep (Qc .i64) s o l.Vars) (aG : SliceRep (Qc .i64) s p l.Init) (aH : SliceRep encFact s q l.Goal) (aI : SliceRep encOp s t l.Ops) :
  Calls Tryz.prog 42 #[Value.agg #[o, p, q, t]] w fun e w' => ∃ v, e = .returned v ∧ ((fun (aF : (List base_Edge)) => ∃ (ab : PHeap) (aj : Value), PHeap.le s ab ∧ St w0 ab (H) w' ∧ v = aj ∧ SliceRep encbase_Edge ab aj aF) r) := by
 unfold YX at hm
 refine Qb Tryz.func42 Z Z (G ?_)
 refine Yz Z Z ?_
 intro m b2 aw
 obtain ⟨ae, a4, hm⟩ := Zg hm
 refine G ?_
 refine Tc Z Z Z Z (Qcc a4 aw al).r ?_
 rintro ac b3 ⟨aB, _, bd, ax, rfl, bo⟩
 obtain ⟨aa, an, hm⟩ := Zg hm
 refine G ?_
 refine J8 (fun k' s' f' w' => (fun (aa : (List base_Edge)) => ∃ (ag : PHeap) (u : Value), PHeap.le aB ag ∧ St w0 ag (Res.box m 26 [o, p, q, t] :: Res.arr encbase_Edge 100 u aa :: H) w' ∧ Fx f' [(13, U (k' : Int)), (1, Vq m), (3, u), (11, ac), (12, U ((ae.length : Int)))]) s') an ?_ ?_ ?_
 ·have aV := ax.nilArr encbase_Edge 100
  exact V
 ·intro a aa br aL b4 bb ap n
  obtain ⟨aC, u, be, af, ⟨aM, rfl⟩⟩ := ap
  obtain ⟨bD, a5, n⟩ := Zg n
  refine G ?_
  refine Jk Z Z Z a5 ?_
  intro aJ bn am
  refine G ?_
  refine Zw (E := (Qa (Qc .i64))) af A22.h Z Z Z am ?_
  intro ak a6
  have bp := Qr.1 a6
  obtain ⟨y, ao, n⟩ := Zg n
  refine G ?_
  refine J8 (fun k' s' f' w' => (fun (y : (List base_Edge)) => ∃ (ah : PHeap) (x : Value), PHeap.le aC ah ∧ St w0 ah (Res.box m 26 [o, p, q, t] :: Res.arr encbase_Edge 100 x y :: H) w' ∧ Fx f' [(21, U (k' : Int)), (1, Vq m), (3, x), (4, U ((a : Int))), (5, ak), (11, ac), (12, U ((ae.length : Int))), (13, U ((a : Int))), (20, U ((l.Ops.length : Int)))]) s') ao ?_ ?_ ?_
  ·have aW := af.f1
   exact V
  ·intro d y bs aN b5 bc aq j
   obtain ⟨bt, x, bf, ay, ⟨aO, rfl⟩⟩ := aq
   obtain ⟨aE, a7, j⟩ := Zg j
   obtain ⟨bE, bF⟩ := aE
   replace j := Qy j
   refine G ?_
   refine Tc Z Z Z Z (QfU a7 ay rq rq rq rq rq).r ?_
   rintro _ b6 ⟨aD, b0, bg, az, rfl, aA⟩
   obtain ⟨z, b, j⟩ := Zg j
   refine g ?_
   refine Zc (Zd (g ?_))
   refine Qm (M := fun f' w' => (fun (z : (List base_Edge)) => ∃ (ai : PHeap) (ad : Value), PHeap.le aD ai ∧ St w0 ai (Res.box m 26 [o, p, q, t] :: Res.arr encbase_Edge 100 ad z :: H) w' ∧ Fx f' [(1, Vq m), (3, ad), (4, U ((a : Int))), (5, ak), (11, ac), (12, U ((ae.length : Int))), (13, U ((a : Int))), (20, U ((l.Ops.length : Int))), (21, U ((d : Int)))]) z) ?_ ?_
   ·rcases Qk b with ⟨a3, b⟩ | ⟨a3, b⟩
    ·obtain ⟨i, a8, b⟩ := Zg b
     refine G ?_
     refine Tc Z Z Z Z (QcU a8 az rq aA).r ?_
     rintro _ b7 ⟨bu, bh, a0, rfl⟩
     refine G ?_
     refine Exec.build Z (Qd (c := [U ((a : Int))]) (Qi Z Z) (Qd (c := [U ((d : Int))]) (Qi Z Z) (Qd (c := [U i]) (Qi Z Z) Qg))) (v := Value.agg #[U ((a : Int)), U ((d : Int)), U i]) (fun _ => by kernel_rfl) (G ?_)
     refine Exec.buildSlice (Te := 100) (cs := [U ((a : Int)), U ((d : Int)), U i]) a0 Z (Qd (c := [U ((a : Int)), U ((d : Int)), U i]) (Qi Z Z) Qg) (fun _ => by kernel_rfl) ?_
     intro aK b8 a1
     obtain ⟨bi, a9, b⟩ := Zg b
     refine G ?_
     refine Q0 (E := encbase_Edge) (ys := [(⟨(a : Int), (d : Int), i⟩ : base_Edge)]) a1.f2 S97.h Qmj Z (by decide) Z Z Z Z ⟨[U ((a : Int)), U ((d : Int)), U i], [], Z, ⟨[U ((a : Int))], [U ((d : Int)), U i], Z, Z, ⟨[U ((d : Int))], [U i], Z, Z, Z⟩⟩, Z⟩ Z a9 ?_
     intro b1 b9 aX
     cases b
     refine G ?_
     exact V
    cases b
    refine G ?_
    exact V
   intro aP bA av
   obtain ⟨bv, ad, bj, aY, ⟨aQ, rfl⟩⟩ := av
   cases j
   refine G ?_
   exact V
  intro aR bB ar
  obtain ⟨bw, x, bk, aZ, ⟨aS, rfl⟩⟩ := ar
  cases n
  refine G ?_
  exact V
 intro aT bC au
 obtain ⟨bx, u, bl, a2, ⟨aU, rfl⟩⟩ := au
 cases hm
 refine G ?_
 refine ⟨_, Qaf Z, ?_⟩
 obtain ⟨bz, bm, ba, bq⟩ := a2.f1.freezeArr
 exact V
instance A100 : ATy Tryz.prog 100 true 3 := ⟨by kernel_rfl⟩
instance F100_1 : FTy Tryz.prog 100 1 1 := ⟨by kernel_rfl⟩
instance F100_2 : FTy Tryz.prog 100 2 2 := ⟨by kernel_rfl⟩
instance F100_0 : FTy Tryz.prog 100 0 0 := ⟨by kernel_rfl⟩
theorem QbY {w0 w : World} {s : PHeap} {H : List Res} {z : Task} {n : Value} {o : Value} {p : Value} {q : Value} {r : (List Int)} (hm : JG z = some r) (hS : St w0 s (H) w) (aM : SliceRep (Qc .i64) s n z.Vars) (bM : SliceRep (Qc .i64) s o z.Init) (bN : SliceRep encFact s p z.Goal) (bO : SliceRep encOp s q z.Ops) :
  Calls Tryz.prog 15 #[Value.agg #[n, o, p, q], Value.slice none 0 0] w fun e w' => ∃ v, e = .returned v ∧ ((fun (bL : (List Int)) => ∃ (ak : PHeap) (aJ : Value), PHeap.le s ak ∧ St w0 ak (H) w' ∧ v = aJ ∧ SliceRep (Qc .i64) ak aJ bL) r) := by
 unfold JG at hm
 refine Qb Tryz.func15 Z Z (G ?_)
 refine Yz Z Z ?_
 intro a dr bc
 obtain ⟨aL, bs, hm⟩ := Zg hm
 refine G ?_
 refine Tc Z Z Z Z (Qcc bs bc aM).r ?_
 rintro aK ds ⟨bB, _, cD, bd, rfl, cX⟩
 obtain ⟨cE, bt, hm⟩ := Zg hm
 refine G ?_
 refine Qep (E := (Qc .i64)) bd S22.h Z3 Z Z Z Z bt ?_
 intro b dt be
 obtain ⟨af, aQ, hm⟩ := Zg hm
 refine G ?_
 refine J8 (fun k' s' f' w' => (fun (af : (List Int)) => ∃ (aA : PHeap) , PHeap.le bB aA ∧ St w0 aA (Res.box a 26 [n, o, p, q] :: Res.arr (Qc .i64) 3 b af :: H) w' ∧ Fx f' [(22, U (k' : Int)), (1, Vn), (2, Vq a), (6, b), (20, aK), (21, U ((aL.length : Int)))]) s') aQ ?_ ?_ ?_
 ·have c0 := be.f1
  exact V
 ·intro br af da ca du cA aT d
  obtain ⟨db, cF, ae, ⟨cb, rfl⟩⟩ := aT
  obtain ⟨dA, bu, d⟩ := Zg d
  refine G ?_
  refine Jk Z Z Z bu ?_
  intro bP cU aN
  refine G ?_
  refine Zw (E := (Qa (Qc .i64))) ae A22.h Z Z Z aN ?_
  intro dj bv
  have bA := Qr.1 bv
  obtain ⟨dB, ah, d⟩ := Zg d
  obtain ⟨ct, bS, av⟩ := (ae.f1).arr_at ah
  refine G ?_
  refine Qe S22.h Z av Z (Qf ah).1 (Qf ah).2.1 ?_
  obtain ⟨cG, bw, d⟩ := Zg d
  refine G ?_
  refine Jd ae.f1 av A3.h Z Z Z Z (Qt.2 Z) bw ?_
  intro dv bf
  obtain ⟨dH, bx, d⟩ := Zg d
  refine G ?_
  refine Tc Z Z Z Z (QaM bx bf rq bA).r ?_
  rintro _ dw ⟨bC, cH, a2, rfl⟩
  obtain ⟨ag, l, d⟩ := Zg d
  refine g ?_
  refine Qm (M := fun f' w' => (fun (ag : (List Int)) => ∃ (aB : PHeap) , PHeap.le bC aB ∧ St w0 aB (Res.box a 26 [n, o, p, q] :: Res.arr (Qc .i64) 3 b ag :: H) w' ∧ Fx f' [(1, Vn), (2, Vq a), (6, b), (20, aK), (21, U ((aL.length : Int))), (22, U ((br : Int)))]) ag) ?_ ?_
  ·rcases Qk l with ⟨bl, l⟩ | ⟨bl, l⟩
   ·obtain ⟨dC, ai, l⟩ := Zg l
    obtain ⟨cu, bT, aw⟩ := a2.arr_at ai
    refine G ?_
    refine Qe S22.h Z aw Z (Qf ai).1 (Qf ai).2.1 ?_
    obtain ⟨cI, bz, l⟩ := Zg l
    refine G ?_
    refine Jd a2 aw A3.h Z Z Z Z (Qt.2 Z) bz ?_
    intro dx c1
    cases l
    refine G ?_
    exact V
   cases l
   refine G ?_
   exact V
  intro cc dy aY
  obtain ⟨dc, cJ, c2, ⟨cd, rfl⟩⟩ := aY
  cases d
  refine G ?_
  exact V
 intro ce dz aU
 obtain ⟨dd, cK, bg, ⟨cf, rfl⟩⟩ := aU
 obtain ⟨am, b0, hm⟩ := Zg hm
 refine G ?_
 refine Tc Z Z Z Z (QfT b0 bg rq rq rq rq).r ?_
 rintro u d0 ⟨aC, _, cL, bh, rfl, cY⟩
 obtain ⟨ap, aR, cC, bp, bk⟩ := Qo hm
 refine g ?_
 refine Zc (Zc (Zd (g ?_)))
 refine Qm (M := fun f' w' => ∃ s', (ap = .next s' ∨ ap = .brk s') ∧ (QK fun (aq : Bool) (a7 : (List Int)) => ∃ (aD : PHeap) , PHeap.le aC aD ∧ St w0 aD (Res.box a 26 [n, o, p, q] :: Res.arr (Qc .i64) 3 b a7 :: H) w' ∧ Fx f' [(1, Vn), (2, Vq a), (6, b), (9, u), (10, Vb aq)]) s') ?_ ?_
 ·refine G ?_
  refine Y8 (fun s' f' w' => (QK fun (ar : Bool) (a8 : (List Int)) => ∃ (aE : PHeap) , PHeap.le aC aE ∧ St w0 aE (Res.box a 26 [n, o, p, q] :: Res.arr (Qc .i64) 3 b a8 :: H) w' ∧ Fx f' [(1, Vn), (2, Vq a), (6, b), (9, u), (10, Vb ar)]) s') aR ?_ ?_
  ·have c3 := bh.f1
   exact V
  intro bG bU cg d1 aV i bq
  obtain ⟨ar, a8⟩ := bG
  replace i := Qy i
  obtain ⟨bD, cM, bi, ⟨ch, rfl⟩⟩ := aV
  refine G ?_
  rcases Qk i with ⟨bm, i⟩ | ⟨bm, i⟩
  ·obtain ⟨bH, aS, i⟩ := Zg i
   refine G ?_
   refine J8 (fun k' s' f' w' => (QK fun (aa : Bool) (ab : (List Int)) => ∃ (aF : PHeap) , PHeap.le bD aF ∧ St w0 aF (Res.box a 26 [n, o, p, q] :: Res.arr (Qc .i64) 3 b ab :: H) w' ∧ Fx f' [(43, U (k' : Int)), (1, Vn), (2, Vq a), (6, b), (9, u), (10, Vb aa), (41, u), (42, U ((am.length : Int)))]) s') aS ?_ ?_ ?_
   ·have c4 := bi.f1
    exact V
   ·intro a6 bI de ci d2 cB aW c
    obtain ⟨aa, ab⟩ := bI
    replace c := Qy c
    obtain ⟨bE, cN, a3, ⟨cj, rfl⟩⟩ := aW
    obtain ⟨al, b1, c⟩ := Zg c
    refine G ?_
    refine Jk Z Z Z b1 ?_
    intro bQ cV aO
    refine G ?_
    refine Zw (E := encbase_Edge) a3 A100.h Z Z Z aO ?_
    intro dk b2
    obtain rfl := Qeu.1 b2
    refine G ?_
    refine Exec.alloc (cs := [U 0, U 0, U 0]) a3 Qmj Z Z ?_
    intro ao d3 c5
    refine G ?_
    refine Yo Z Z Z ?_
    intro d4 a4
    obtain ⟨bK, b3, c⟩ := Zg c
    refine G ?_
    refine Jk Z Z Z b3 ?_
    intro bR cW aP
    refine G ?_
    refine Zw (E := (Qc .i64)) a4 A3.h Z Z Z (aP.sub (Sub.iso (Kr (Sub.fst (Sub.refl _)) Z)) Z) ?_
    intro dl b4
    obtain rfl := Qt.1 b4
    refine G ?_
    refine Qdq Tryz.underlying22 Z Z Z ?_
    obtain ⟨an, m, c⟩ := Zg c
    refine g ?_
    refine K6 Z (QT (Ze (Zc (Qm (M := fun f' w' => (fun (an : Bool) => ∃ (aG : PHeap) , PHeap.le bE aG ∧ St w0 aG (Res.box a 26 [n, o, p, q] :: Res.arr (Qc .i64) 3 b ab :: Res.box ao 100 [U (al.From), U (al.Op), U (al.To)] :: H) w' ∧ Fx f' [(1, Vn), (2, Vq a), (6, b), (9, u), (10, Vb aa), (12, Vq ao), (13, U (bK.Cost)), (41, u), (42, U ((am.length : Int))), (43, U ((a6 : Int))), (81, Vb an)]) an) ?_ ?_))))
    ·refine KG (n0 := 21) (qs 0 21 .done) Yp (by kernel_rfl) (by kernel_rfl) ?_
     have x := a4.drew
     obtain ⟨dD, t, m⟩ := Zg m
     obtain ⟨cv, bV, ax⟩ := (x.f2).arr_at t
     refine G ?_
     refine Qe S22.h Z ax Z (Qf t).1 (Qf t).2.1 ⟨Z, ?_⟩
     refine G ?_
     refine Qs (F := (Qc .i64)) (x.f2) ax A3.h Z Z Z t (Sub.refl _) ?_
     intro dm b5
     obtain rfl := Qt.1 b5
     refine ⟨Z, ?_⟩
     refine G ?_
     rcases Qk m with ⟨bn, m⟩ | ⟨bn, m⟩
     ·obtain ⟨cw, bW, ay⟩ := (x.f2).arr_at t
      refine G ?_
      refine Qe S22.h Z ay Z (Qf t).1 (Qf t).2.1 ⟨Z, ?_⟩
      refine G ?_
      refine Qs (F := (Qc .i64)) (x.f2) ay A3.h Z Z Z t (Sub.refl _) ?_
      intro dn b6
      obtain rfl := Qt.1 b6
      refine ⟨Z, ?_⟩
      obtain ⟨dE, ac, m⟩ := Zg m
      obtain ⟨cx, bX, az⟩ := (x.f2).arr_at ac
      refine G ?_
      refine Qe S22.h Z az Z (Qf ac).1 (Qf ac).2.1 ⟨Z, ?_⟩
      refine G ?_
      refine Qs (F := (Qc .i64)) (x.f2) az A3.h Z Z Z ac (Sub.refl _) ?_
      intro dp b7
      obtain rfl := Qt.1 b7
      refine ⟨Z, ?_⟩
      cases m
      refine G ?_
      exact V
     cases m
     refine G ?_
     exact V
    intro ck d5 aZ
    obtain ⟨bF, cO, y, ⟨cl, rfl⟩⟩ := aZ
    obtain ⟨aI, j, c⟩ := Zg c
    refine g ?_
    refine Qm (M := fun f' w' => (QK fun (au : Bool) (a9 : (List Int)) => ∃ (aH : PHeap) , PHeap.le bF aH ∧ St w0 aH (Res.box a 26 [n, o, p, q] :: Res.arr (Qc .i64) 3 b a9 :: H) w' ∧ Fx f' [(1, Vn), (2, Vq a), (6, b), (9, u), (10, Vb au), (41, u), (42, U ((am.length : Int))), (43, U ((a6 : Int)))]) aI) ?_ ?_
    ·rcases Qk j with ⟨bo, j⟩ | ⟨bo, j⟩
     ·refine G ?_
      refine KG (n0 := 10) (qs 0 10 .done) Yp (by kernel_rfl) (by kernel_rfl) (G ?_)
      refine Zn ((y.drew).f2) A3.h Z Z Z ⟨Z, ?_⟩
      refine G ?_
      refine Zn ((y.drew).f2) A3.h Z Z Z ⟨Z, ?_⟩
      obtain ⟨dF, ad, j⟩ := Zg j
      obtain ⟨cy, bY, a0⟩ := ((y.drew).f1).arr_at ad
      refine G ?_
      refine Qe S22.h Z a0 Z (Qf ad).1 (Qf ad).2.1 ⟨Z, ?_⟩
      refine G ?_
      refine Qs (F := (Qc .i64)) ((y.drew).f1) a0 A3.h Z Z Z ad (Sub.refl _) ?_
      intro dq b8
      obtain rfl := Qt.1 b8
      refine ⟨Z, ?_⟩
      obtain ⟨dG, aj, j⟩ := Zg j
      obtain ⟨cz, bZ, a1⟩ := ((y.drew).f1).arr_at aj
      refine G ?_
      refine Qe S22.h Z a1 Z (Qf aj).1 (Qf aj).2.1 ?_
      obtain ⟨cP, b9, j⟩ := Zg j
      refine G ?_
      refine Jd (y.drew).f1 a1 A3.h Z Z Z Z (Qt.2 Z) b9 ?_
      intro d6 c6
      cases j
      refine G ?_
      exact V
     cases j
     refine G ?_
     exact V
    intro cm d7 ba
    obtain ⟨au, a9⟩ := aI
    replace c := Qy c
    obtain ⟨df, cQ, c7, ⟨cn, rfl⟩⟩ := ba
    cases c
    refine G ?_
    exact V
   intro co d8 aX
   obtain ⟨aa, ab⟩ := bH
   replace i := Qy i
   obtain ⟨dg, cR, c8, ⟨cp, rfl⟩⟩ := aX
   cases i
   refine G ?_
   exact ⟨_, Z, V⟩
  cases i
  refine G ?_
  exact ⟨_, .inr (bq (by intro _ h; cases h)), V⟩
 rintro cq d9 ⟨bJ, a5, bb⟩
 have hm := a5.elim (bp _) (bk _)
 clear a5
 obtain ⟨aq, a7⟩ := bJ
 replace hm := Qy hm
 obtain ⟨dh, cS, bj, ⟨cr, rfl⟩⟩ := bb
 cases hm
 refine G ?_
 refine ⟨_, Qaf Z, ?_⟩
 obtain ⟨di, cT, c9, cZ⟩ := bj.f1.freezeArr
 exact V
end Go.Pw
