/- -/
import Derived.Test.YtfcmpbkafbhdgaaGreatDoorLD
import Derived.Test.YtfcmpbkafbhdgaaGreatDoorWc5
import Derived.Test.YtfcmpbkafbhdgaaGreatDoorWcIt
set_option maxRecDepth 100000
set_option maxHeartbeats 4000000
set_option linter.unusedVariables false
namespace Go.Pw
open Go.Proofs
attribute [local irreducible] Exec WL W andThen Y0 DL QB
theorem KN {w0 w : World} {s : PHeap} {H : List Res} {i : Certificate} {j : Value} {r : ByteArray × (Option Int)} (hm : QU i = some r) (hS : St w0 s (H) w) (aj : SliceRep encNogood s j i.Nogoods) (ht : TabS Tryz.prog s) :
  Calls Tryz.prog 11 #[Value.agg #[U (i.Bound), j]] w fun e w' => ∃ v, e = .returned v ∧ ((QK fun (bi : ByteArray) (bj : (Option Int)) => ∃ (ad : PHeap) , PHeap.le s ad ∧ St w0 ad (H) w' ∧ v = Value.tuple #[Value.string (bi), Yc 39 (bj)]) r) := by
 unfold QU at hm
 refine Qb Tryz.func11 Z Z (G ?_)
 refine Yz Z Z ?_
 intro p cq aw
 obtain ⟨cG, aK, hm⟩ := Zg hm
 refine G ?_
 refine Tc Z Z Z Z (Yd aK aw aj).r ?_
 rintro _ cr ⟨be, aJ, ax, rfl⟩
 refine G ?_
 refine Qh (T := 39) Tryz.underlying35 Z Z Z (G ?_)
 rcases Qk hm with ⟨aA, hm⟩ | ⟨aA, hm⟩
 ·cases hm
  refine G ?_
  refine ⟨_, KA Z, ?_⟩
  exact V
 refine G ?_
 refine Exec.alloc (cs := [Vp none, Vn]) ax Z81 Z Z ?_
 intro d ct ay
 have u := St.bld_close (.inl rfl) ((QhY (E := Qc .u8) (Te := 5) ay).perm (.swap _ _ _))
 obtain ⟨m, c, hm⟩ := Zg hm
 refine g ?_
 refine Zc (Zc (Zd (g ?_)))
 refine Qm (M := fun f' w' => (fun (m : (List Int)) => ∃ (ae : PHeap) , PHeap.le be ae ∧ St w0 ae (Res.box p 33 [U (i.Bound), j] :: Res.bld 81 5 d m :: H) w' ∧ Fx f' [(1, Vq p), (5, Vq d)]) m) ?_ ?_
 ·rcases Qk c with ⟨aB, c⟩ | ⟨aB, c⟩
  ·obtain ⟨bM, aL, c⟩ := Zg c
   refine G ?_
   refine Tc Z Z Z Z (Y4 aL u).r ?_
   rintro _ cu ⟨rfl, b9⟩
   cases c
   refine G ?_
   exact V
  obtain ⟨cH, aM, c⟩ := Zg c
  refine G ?_
  refine Tc Z Z Z Z (Yu aM u (ht.mono aJ)).r ?_
  rintro _ cv ⟨cf, bN, az, rfl⟩
  obtain ⟨bo, aN, c⟩ := Zg c
  refine G ?_
  refine JS Z Z Z aN ?_
  obtain ⟨bp, aO, c⟩ := Zg c
  refine G ?_
  refine JS Z Z Z aO ?_
  obtain ⟨bO, aP, c⟩ := Zg c
  refine G ?_
  refine Tc Z Z Z Z (Y4 aP az).r ?_
  rintro _ cw ⟨rfl, bA⟩
  cases c
  refine G ?_
  exact V
 intro bw cx au
 obtain ⟨af, bP, a0, ⟨bx, rfl⟩⟩ := au
 obtain ⟨t, am, aF, aD, a9⟩ := Qo hm
 refine g ?_
 refine Zc (Zc (Zd (g ?_)))
 refine Qm (M := fun f' w' => ∃ s', (t = .next s' ∨ t = .brk s') ∧ (fun (aa : (List Int)) => ∃ (ag : PHeap) , PHeap.le af ag ∧ St w0 ag (Res.bld 81 5 d aa :: H) w' ∧ Fx f' [(5, Vq d), (26, j), (27, U ((i.Nogoods.length : Int)))]) s') ?_ ?_
 ·refine G ?_
  refine Q2 (fun k' s' f' w' => (fun (n : (List Int)) => ∃ (ah : PHeap) , PHeap.le af ah ∧ St w0 ah (Res.bld 81 5 d n :: H) w' ∧ Fx f' [(28, U (k' : Int)), (5, Vq d), (26, j), (27, U ((i.Nogoods.length : Int)))]) s') am ?_ ?_ ?_
  ·have bB := a0.drop
   exact V
  ·intro aI n bq bz cy bJ ao a aG
   obtain ⟨cg, bQ, x, ⟨b0, rfl⟩⟩ := ao
   obtain ⟨bh, aQ, a⟩ := Zg a
   refine G ?_
   refine Jk Z Z Z aQ ?_
   intro bk cb ak
   refine G ?_
   refine Zw (E := encNogood) x A69.h Z Z Z ak ?_
   intro co aR
   obtain ⟨bg, rfl, ce⟩ := Jr.1 aR
   refine G ?_
   refine Exec.alloc (cs := [Vn, U 0]) x Z69 Z Z ?_
   intro bl cz bC
   refine G ?_
   refine Yo Z Z Z ?_
   intro c0 a1
   obtain ⟨cI, aS, a⟩ := Zg a
   refine G ?_
   refine Tc Z Z Z Z (Yu aS a1 (ht.mono lq)).r ?_
   rintro _ c1 ⟨bf, bR, a2, rfl⟩
   obtain ⟨br, aT, a⟩ := Zg a
   refine G ?_
   refine JS Z Z Z aT ?_
   obtain ⟨bs, aU, a⟩ := Zg a
   refine G ?_
   refine JS Z Z Z aU ?_
   obtain ⟨bS, aV, a⟩ := Zg a
   refine G ?_
   refine Tc Z Z Z Z (Y4 aV a2.f1).r ?_
   rintro _ c2 ⟨rfl, a3⟩
   obtain ⟨o, an, a⟩ := Zg a
   refine G ?_
   refine J8 (fun k' s' f' w' => (fun (o : (List Int)) => ∃ (ai : PHeap) , PHeap.le bf ai ∧ St w0 ai (Res.bld 81 5 d o :: H) w' ∧ Fx f' [(41, U (k' : Int)), (5, Vq d), (26, j), (27, U ((i.Nogoods.length : Int))), (28, U ((aI : Int))), (39, bg), (40, U ((bh.Facts.length : Int)))]) s') an ?_ ?_ ?_
   ·have bD := (a3.f1).drop
    exact V
   ·intro bL o ch b1 c3 bK ap b
    obtain ⟨ci, bT, y, ⟨b2, rfl⟩⟩ := ap
    obtain ⟨cF, aW, b⟩ := Zg b
    refine G ?_
    refine Jk Z Z Z aW ?_
    intro bm cc al
    refine G ?_
    refine Zw (E := encFact) y A52.h Z Z Z al ?_
    intro cp aX
    obtain rfl := Q9.1 aX
    refine G ?_
    refine Exec.alloc (cs := [U 0, U 0]) y Z52 Z Z ?_
    intro bn c4 bE
    refine G ?_
    refine Yo Z Z Z ?_
    intro c5 l
    refine G ?_
    refine KG (n0 := 10) (.q 0 (.q 1 (.q 5 (.q 6 (.e 2 [5, 6] (.q 3 (.q 4 (.e 7 [3, 4] (.q 8 (.e 9 [] .done)))))))))) Yp (by kernel_rfl) (by kernel_rfl) (G ?_)
    refine Zn (l.drew) A3.h Z Z Z ⟨Z, ?_⟩
    refine G ?_
    refine Zn (l.drew) A3.h Z Z Z ⟨Z, ?_⟩
    obtain ⟨cJ, aY, b⟩ := Zg b
    refine G ?_
    refine Tc Z Z Z Z (Yu aY l.drew (ht.mono lq)).r ?_
    rintro _ c6 ⟨cj, bU, a4, rfl⟩
    refine ⟨agq, ?_⟩
    obtain ⟨bt, ab, b⟩ := Zg b
    refine G ?_
    refine JS Z Z Z ab ⟨Z, ?_⟩
    obtain ⟨bu, ac, b⟩ := Zg b
    refine G ?_
    refine JS Z Z Z ac ⟨Z, ?_⟩
    obtain ⟨cK, aZ, b⟩ := Zg b
    refine G ?_
    refine Tc Z Z Z Z (Yu aZ a4 (ht.mono lq)).r ?_
    rintro _ c7 ⟨ck, bV, a5, rfl⟩
    refine ⟨(Kq (Qcf Z Z (JS Z Z Z ab ⟨Z, Z⟩)) (Kq (Qcf Z Z (JS Z Z Z ac ⟨Z, Z⟩)) YQ)), ?_⟩
    obtain ⟨bv, ba, b⟩ := Zg b
    refine G ?_
    refine JS Z Z Z ba ⟨Z, ?_⟩
    obtain ⟨bW, bb, b⟩ := Zg b
    refine G ?_
    refine Tc Z Z Z Z (Y4 bb a5.f1).r ?_
    rintro _ c8 ⟨rfl, bF⟩
    refine ⟨agq, ?_⟩
    cases b
    refine G ?_
    exact V
   intro b3 c9 aq
   obtain ⟨cl, bX, a6, ⟨b4, rfl⟩⟩ := aq
   obtain ⟨bY, bc, a⟩ := Zg a
   refine G ?_
   refine Tc Z Z Z Z (Y4 bc a6).r ?_
   rintro _ cA ⟨rfl, a7⟩
   refine G ?_
   refine Tc Z Z Z Z (QhW a7).r ?_
   rintro _ cB ⟨rfl, bG⟩
   refine G ?_
   rcases Qk a with ⟨aC, a⟩ | ⟨aC, a⟩
   ·refine G ?_
    refine Exec.makeInterface C39 Z Z ?_
    cases a
    have aE := aF _ (aG (by intro _ h; cases h))
    cases aE
    refine G ?_
    refine ⟨_, KA Z, ?_⟩
    exact V
   cases a
   refine G ?_
   exact ⟨_, Z, V⟩
  intro n b5 cC ar aH
  obtain ⟨cm, bZ, bH, ⟨b6, rfl⟩⟩ := ar
  refine G ?_
  exact ⟨_, .inl aH, V⟩
 rintro b7 cD ⟨aa, z, av⟩
 have hm := z.elim (aD _) (a9 _)
 clear z
 obtain ⟨cn, ca, a8, ⟨b8, rfl⟩⟩ := av
 obtain ⟨cd, bd, hm⟩ := Zg hm
 refine G ?_
 refine Tc Z Z Z Z (QfQ bd a8).r ?_
 rintro _ cE ⟨rfl, bI⟩
 cases hm
 refine G ?_
 refine ⟨_, KA Z, ?_⟩
 exact V
theorem QbX {w0 w : World} {s : PHeap} {H : List Res} {t : (List Int)} {b : Certificate} {c : Value} {d : Value} {r : (Option Int)} (hm : JF t b = some r) (hS : St w0 s (H) w) (au : SliceRep (Qc .i64) s c t) (u : SliceRep encNogood s d b.Nogoods) :
  Calls Tryz.prog 57 #[c, Value.agg #[U (b.Bound), d]] w fun e w' => ∃ v, e = .returned v ∧ ((fun (ar : (Option Int)) => ∃ (n : PHeap) , PHeap.le s n ∧ St w0 n (H) w' ∧ v = Yc 39 (ar)) r) := by
 unfold JF at hm
 refine Qb Tryz.func57 Z Z (G ?_)
 refine Yz Z Z ?_
 intro av aR ac
 obtain ⟨ba, am, hm⟩ := Zg hm
 refine G ?_
 refine Tc Z Z Z Z (Yd am ac u).r ?_
 rintro _ aS ⟨o, aC, ad, rfl⟩
 refine G ?_
 refine Qh (T := 39) Tryz.underlying35 Z Z Z (G ?_)
 rcases Qk hm with ⟨l, hm⟩ | ⟨l, hm⟩
 ·cases hm
  refine G ?_
  exact fr
 obtain ⟨i, y, aj, ah, af⟩ := Qo hm
 refine W_c Z l (Qa0 (QT (Ze (Zc (Zc (Zd (g ?_)))))))
 refine Qm (M := fun f' w' => ∃ s', (i = .next s' ∨ i = .brk s') ∧ (fun (_ : Unit) => ∃ (p : PHeap) , PHeap.le o p ∧ St w0 p (H) w' ∧ Fx f' [(0, c), (14, d), (15, U ((b.Nogoods.length : Int)))]) s') ?_ ?_
 ·refine G ?_
  refine Q2 (fun k' s' f' w' => (fun (_ : Unit) => ∃ (q : PHeap) , PHeap.le o q ∧ St w0 q (H) w' ∧ Fx f' [(16, U (k' : Int)), (0, c), (14, d), (15, U ((b.Nogoods.length : Int)))]) s') y ?_ ?_ ?_
  ·have a5 := ad.drop
   exact V
  ·intro aB aM ay az aT aA z a ak
   obtain ⟨aI, aD, j, ⟨a0, rfl⟩⟩ := z
   obtain ⟨aZ, an, a⟩ := Zg a
   refine G ?_
   refine Jk Z Z Z an ?_
   intro aw aH x
   refine G ?_
   refine Zw (E := encNogood) j A69.h Z Z Z x ?_
   intro aQ ao
   obtain ⟨aP, rfl, aq⟩ := Jr.1 ao
   refine G ?_
   refine Exec.alloc (cs := [Vn, U 0]) j Z69 Z Z ?_
   intro ax aU a6
   refine G ?_
   refine Yo Z Z Z ?_
   intro aV ae
   obtain ⟨bb, ap, a⟩ := Zg a
   refine G ?_
   refine Tc Z Z Z Z (KC ap ae rq aq).r ?_
   rintro _ aW ⟨aJ, aE, a7, rfl⟩
   refine G ?_
   rcases Qk a with ⟨ag, a⟩ | ⟨ag, a⟩
   ·refine G ?_
    refine Exec.makeInterface C39 Z Z ?_
    cases a
    have ai := aj _ (ak (by intro _ h; cases h))
    cases ai
    refine G ?_
    exact fr
   cases a
   refine G ?_
   exact ⟨_, Z, V⟩
  intro aN a1 aX aa al
  obtain ⟨aK, aF, a8, ⟨a2, rfl⟩⟩ := aa
  refine G ?_
  exact ⟨_, .inl al, V⟩
 rintro a3 aY ⟨aO, m, ab⟩
 have hm := m.elim (ah _) (af _)
 clear m
 obtain ⟨aL, aG, a9, ⟨a4, rfl⟩⟩ := ab
 cases hm
 refine G ?_
 exact fr
instance F122_0 : FTy Tryz.prog 122 0 0 := ⟨by kernel_rfl⟩
instance F122_2 : FTy Tryz.prog 122 2 6 := ⟨by kernel_rfl⟩
instance F122_1 : FTy Tryz.prog 122 1 4 := ⟨by kernel_rfl⟩
theorem Qa2 {w0 w : World} {s : PHeap} {H : List Res} {a : checker_checker} {p : Int} {i : Nat} {l : Value} {m : Value} {n : Value} {o : Value} {d : Value} {r : (List (List Fact))} (hm : Je a p = some r) (hS : St w0 s (Res.box i 122 [l, m, n, o, U (a.c.Bound), d, U (a.steps)] :: H) w) (ay : SliceRep (Qc .i64) s l a.t.Vars) (az : SliceRep (Qc .i64) s m a.t.Init) (a0 : SliceRep encFact s n a.t.Goal) (a1 : SliceRep encOp s o a.t.Ops) (a2 : SliceRep encNogood s d a.c.Nogoods) :
  Calls Tryz.prog 85 #[Value.pointer (some ⟨i, 0, none⟩), U p] w fun e w' => ∃ v, e = .returned v ∧ ((fun (ax : (List (List Fact))) => ∃ (y : PHeap) (af : Value), PHeap.le s y ∧ St w0 y (Res.box i 122 [l, m, n, o, U (a.c.Bound), d, U (a.steps)] :: H) w' ∧ v = af ∧ SliceRep (Qa encFact) y af ax) r) := by
 unfold Je at hm
 refine Qb Tryz.func85 Z Z ?_
 obtain ⟨x, ah, hm⟩ := Zg hm
 refine G ?_
 refine J8 (fun k' s' f' w' => (fun (x : (List (List Fact))) => ∃ (ad : PHeap) (q : Value), PHeap.le s ad ∧ St w0 ad (Res.box i 122 [l, m, n, o, U (a.c.Bound), d, U (a.steps)] :: Res.arr (Qa encFact) 23 q x :: H) w' ∧ Fx f' [(14, U (k' : Int)), (1, U p), (5, q), (12, d), (13, U ((a.c.Nogoods.length : Int)))]) s') ah ?_ ?_ ?_
 ·have aC := hS.nilArr (Qa encFact) 23
  exact V
 ·intro ap x aP a6 aV aH ai j
  obtain ⟨av, q, aI, ab, ⟨a7, rfl⟩⟩ := ai
  obtain ⟨aw, aq, j⟩ := Zg j
  refine G ?_
  refine Jk Z Z Z aq ?_
  intro a3 aN ag
  refine G ?_
  refine Zw (E := encNogood) ab A69.h Z Z Z ag ?_
  intro aT ar
  obtain ⟨z, rfl, ac⟩ := Jr.1 ar
  refine G ?_
  refine Exec.alloc (cs := [Vn, U 0]) ab Z69 Z Z ?_
  intro a4 aW aD
  refine G ?_
  refine Yo Z Z Z ?_
  intro aX al
  obtain ⟨u, b, j⟩ := Zg j
  refine g ?_
  refine Zc (Zd (g ?_))
  refine Qm (M := fun f' w' => (fun (u : (List (List Fact))) => ∃ (ae : PHeap) (aa : Value), PHeap.le av ae ∧ St w0 ae (Res.box i 122 [l, m, n, o, U (a.c.Bound), d, U (a.steps)] :: Res.arr (Qa encFact) 23 aa u :: H) w' ∧ Fx f' [(1, U p), (5, aa), (12, d), (13, U ((a.c.Nogoods.length : Int))), (14, U ((ap : Int)))]) u) ?_ ?_
  ·rcases Qk b with ⟨ao, b⟩ | ⟨ao, b⟩
   ·refine G ?_
    refine Exec.buildSlice (Te := 23) (cs := [z]) al Z (Qd (c := [z]) (Qi Z (Q5 ac.one)) Qg) (fun _ => by kernel_rfl) ?_
    intro a5 aY am
    obtain ⟨aJ, au, b⟩ := Zg b
    refine G ?_
    refine Q0 (E := (Qa encFact)) (ys := [aw.Facts]) am.f3 S70.h Z23 Z (by decide) Z Z Z Z ⟨[z], [], Z, ⟨_, Z, ac⟩, Z⟩ Z au ?_
    intro aU aZ aE
    cases b
    refine G ?_
    exact V
   cases b
   refine G ?_
   exact V
  intro a8 ba ak
  obtain ⟨aQ, aa, aK, aF, ⟨a9, rfl⟩⟩ := ak
  cases j
  refine G ?_
  exact V
 intro aA bb aj
 obtain ⟨aR, q, aL, an, ⟨aB, rfl⟩⟩ := aj
 cases hm
 refine G ?_
 refine ⟨_, Qaf Z, ?_⟩
 obtain ⟨aS, aM, aG, aO⟩ := an.f1.freezeArr
 exact V
theorem Qnl : (Tryz.f111.name == "runtime.NumGoroutine") = false := by kernel_rfl
theorem QbT {w0 w : World} {s : PHeap} {H : List Res} {d : (List Fact)} {b : (List Int)} {g : Value} {a c : Nat} {r : Bool} (hm : K0 d b = some r) (hS : St w0 s (H) w) (i : SliceRep encFact s g d) (j : At s a c (Qa (Qc .i64)) b) :
  Calls Tryz.prog 111 #[g, Value.pointer (some ⟨a, c, none⟩)] w fun e w' => ∃ v, e = .returned v ∧ ((fun (n : Bool) => ∃ (f : PHeap) , PHeap.le s f ∧ St w0 f (H) w' ∧ v = Value.bool (n)) r) := by
 unfold K0 at hm
 refine Qb Tryz.func111 Z Z (G ?_)
 refine Zw (E := (Qa (Qc .i64))) hS A22.h Z Z Z j ?_
 intro t k
 have m := Qr.1 k
 obtain ⟨x, l, hm⟩ := Zg hm
 refine G ?_
 refine Tc Z Z Z Z (KC l hS m i).r ?_
 rintro _ u ⟨q, p, o, rfl⟩
 cases hm
 refine G ?_
 exact fr
theorem Qci {w0 w : World} {s : PHeap} {H : List Res} {d : (List (List Fact))} {j : (List Int)} {i : Value} {b c : Nat} {r : Int} (hm : JQ d j = some r) (hS : St w0 s (H) w) (ao : SliceRep (Qa encFact) s i d) (t : At s b c (Qa (Qc .i64)) j) :
  Calls Tryz.prog 93 #[i, Value.func (.func 111) #[] #[Value.pointer (some ⟨b, c, none⟩)]] w fun e w' => ∃ v, e = .returned v ∧ ((fun (an : Int) => ∃ (o : PHeap) , PHeap.le s o ∧ St w0 o (H) w' ∧ v = U an) r) := by
 unfold JQ at hm
 refine Qb Tryz.func93 Z Z ?_
 obtain ⟨l, x, af, ad, ab⟩ := Qo hm
 refine Zc (Zd (g ?_))
 refine Zc (Zc (Zd (g ?_)))
 refine Qm (M := fun f' w' => ∃ s', (l = .next s' ∨ l = .brk s') ∧ (fun (_ : Unit) => ∃ (p : PHeap) , PHeap.le s p ∧ St w0 p (H) w' ∧ Fx f' [(0, i), (1, Value.func (.func 111) #[] #[Vp (some ⟨b, c, none⟩)]), (7, U ((d.length : Int)))]) s') ?_ ?_
 ·refine G ?_
  refine Q2 (fun k' s' f' w' => (fun (_ : Unit) => ∃ (q : PHeap) , PHeap.le s q ∧ St w0 q (H) w' ∧ Fx f' [(8, U (k' : Int)), (0, i), (1, Value.func (.func 111) #[] #[Vp (some ⟨b, c, none⟩)]), (7, U ((d.length : Int)))]) s') x ?_ ?_ ?_
  ·exact V
  ·intro a3 aC aq ar aG a2 y a ag
   obtain ⟨a8, ai, m, ⟨au, rfl⟩⟩ := y
   obtain ⟨aK, aj, a⟩ := Zg a
   refine G ?_
   refine Jk Z Z Z aj ?_
   intro ap a7 u
   refine G ?_
   refine Zw (E := (Qa encFact)) m A23.h Z Z Z u ?_
   intro aF ak
   have am := Qr.1 ak
   obtain ⟨aL, al, a⟩ := Zg a
   refine G ?_
   refine Qdl Z Z Tryz.func111 Z Qnl (Zi Z Qw) Z ((QbT al m am (t.mono ai)).mono ?_)
   rintro _ aH ⟨_, rfl, ⟨a9, a4, az, rfl⟩⟩
   refine ⟨_, Z, ?_⟩
   refine G ?_
   rcases Qk a with ⟨ac, a⟩ | ⟨ac, a⟩
   ·cases a
    have ae := af _ (ag (by intro _ h; cases h))
    cases ae
    refine G ?_
    exact fr
   cases a
   refine G ?_
   exact ⟨_, Z, V⟩
  intro aD av aI z ah
  obtain ⟨aA, a5, a0, ⟨aw, rfl⟩⟩ := z
  refine G ?_
  exact ⟨_, .inl ah, V⟩
 rintro ax aJ ⟨aE, n, aa⟩
 have hm := n.elim (ad _) (ab _)
 clear n
 obtain ⟨aB, a6, a1, ⟨ay, rfl⟩⟩ := aa
 cases hm
 refine G ?_
 exact fr
theorem Qdn {w0 w : World} {s : PHeap} {H : List Res} {f : (List (List Fact))} {b : (List Int)} {g : Value} {a c : Nat} {r : Bool} (hm : KF f b = some r) (hS : St w0 s (H) w) (h : SliceRep (Qa encFact) s g f) (i : At s a c (Qa (Qc .i64)) b) :
  Calls Tryz.prog 71 #[g, Value.func (.func 111) #[] #[Value.pointer (some ⟨a, c, none⟩)]] w fun e w' => ∃ v, e = .returned v ∧ ((fun (k : Bool) => ∃ (d : PHeap) , PHeap.le s d ∧ St w0 d (H) w' ∧ v = Value.bool (k)) r) := by
 unfold KF at hm
 refine Qb Tryz.func71 Z Z ?_
 obtain ⟨p, j, hm⟩ := Zg hm
 refine G ?_
 refine Tc Z Z Z Z (Qci j hS h i).r ?_
 rintro _ o ⟨n, m, l, rfl⟩
 cases hm
 refine G ?_
 exact fr
instance F177_1 : FTy Tryz.prog 177 1 1 := ⟨by kernel_rfl⟩
instance F177_2 : FTy Tryz.prog 177 2 2 := ⟨by kernel_rfl⟩
instance F177_3 : FTy Tryz.prog 177 3 3 := ⟨by kernel_rfl⟩
instance A4 : ATy Tryz.prog 4 false 1 := ⟨by kernel_rfl⟩
theorem Qcy {w0 w : World} {s : PHeap} {H : List Res} {j : (List Fact)} {b : (List Fact)} {c : Value} {d : Value} {r : Bool} (hm : Ke j b = some r) (hS : St w0 s (H) w) (au : SliceRep encFact s c j) (av : SliceRep encFact s d b) :
  Calls Tryz.prog 130 #[c, d] w fun e w' => ∃ v, e = .returned v ∧ ((fun (ar : Bool) => ∃ (o : PHeap) , PHeap.le s o ∧ St w0 o (H) w' ∧ v = Value.bool (ar)) r) := by
 unfold Ke at hm
 refine Qb Tryz.func130 Z Z ?_
 obtain ⟨l, x, ai, ag, ad⟩ := Qo hm
 refine Zc (Zd (g ?_))
 refine Zc (Zc (Zd (g ?_)))
 refine Qm (M := fun f' w' => ∃ s', (l = .next s' ∨ l = .brk s') ∧ (fun (_ : Unit) => ∃ (p : PHeap) , PHeap.le s p ∧ St w0 p (H) w' ∧ Fx f' [(0, c), (8, d), (9, U ((b.length : Int)))]) s') ?_ ?_
 ·refine G ?_
  refine Q2 (fun k' s' f' w' => (fun (_ : Unit) => ∃ (q : PHeap) , PHeap.le s q ∧ St w0 q (H) w' ∧ Fx f' [(10, U (k' : Int)), (0, c), (8, d), (9, U ((b.length : Int)))]) s') x ?_ ?_ ?_
  ·exact V
  ·intro al aN ay az aR aC y a aj
   obtain ⟨aJ, aD, m, ⟨a0, rfl⟩⟩ := y
   obtain ⟨aq, am, a⟩ := Zg a
   refine G ?_
   refine Jk Z Z Z am ?_
   intro aw aI u
   refine G ?_
   refine Zw (E := encFact) m A52.h Z Z Z u ?_
   intro aQ an
   obtain rfl := Q9.1 an
   refine G ?_
   refine Exec.alloc (cs := [U 0, U 0]) m Z52 Z Z ?_
   intro ax aS a7
   refine G ?_
   refine Yo Z Z Z ?_
   intro aT ac
   obtain ⟨i, ao, a⟩ := Zg a
   refine G ?_
   refine Tc Z Z Z Z (Qak ao ac rq).r ?_
   rintro _ aU ⟨ap, aE, a8, rfl⟩
   refine g ?_
   refine Zc (Qm (M := fun f' w' => ∃ (t : PHeap) , PHeap.le ap t ∧ St w0 t (H) w' ∧ Fx f' [(0, c), (8, d), (9, U ((b.length : Int))), (10, U ((al : Int))), (25, Vb (((decide (0 ≤ i)) && !decide (i = aq.Val))))]) ?_ ?_)
   ·refine G ?_
    rcases tf (decide (0 ≤ i)) with ae | ae
    ·refine G ?_
     exact V
    refine G ?_
    exact V
   intro a1 aV aa
   obtain ⟨aK, aF, a9, ⟨a2, rfl⟩⟩ := aa
   refine G ?_
   rcases Qk a with ⟨af, a⟩ | ⟨af, a⟩
   ·cases a
    have ah := ai _ (aj (by intro _ h; cases h))
    cases ah
    refine G ?_
    exact fr
   cases a
   refine G ?_
   exact ⟨_, Z, V⟩
  intro aO a3 aW z ak
  obtain ⟨aL, aG, aA, ⟨a4, rfl⟩⟩ := z
  refine G ?_
  exact ⟨_, .inl ak, V⟩
 rintro a5 aX ⟨aP, n, ab⟩
 have hm := n.elim (ag _) (ad _)
 clear n
 obtain ⟨aM, aH, aB, ⟨a6, rfl⟩⟩ := ab
 cases hm
 refine G ?_
 exact fr
instance F177_0 : FTy Tryz.prog 177 0 0 := ⟨by kernel_rfl⟩
end Go.Pw
