/- -/
import Derived.Test.YtjbjflndiajoiaaGreatDoorLC
import Derived.Test.YtjbjflndiajoiaaGreatDoorLD
import Derived.Test.YtjbjflndiajoiaaGreatDoorWa9
set_option maxRecDepth 100000
set_option maxHeartbeats 4000000
set_option linter.unusedVariables false
namespace Go.Pw
open Go.Proofs
attribute [local irreducible] Exec WL W andThen Qax DL QX
theorem QdU {w0 w : World} {s : PHeap} {H : List Res} {d : Certificate} {i : Value} {r : ByteArray × (Option Int)} (hm : Yk d = some r) (hS : St w0 s (H) w) (ae : SliceRep encNogood s i d.Nogoods) :
  Calls Tryz.prog 67 #[Value.agg #[O (d.Bound), i]] w fun e w' => ∃ v, e = .returned v ∧ ((QI fun (aX : ByteArray) (aY : (Option Int)) => ∃ (z : PHeap) , PHeap.le s z ∧ St w0 z (H) w' ∧ v = Value.tuple #[Value.string (aX), K4 52 (aY)]) r) := by
 unfold Yk at hm
 refine Qd Tryz.func67 Z Z (G ?_)
 refine Kq Z Z ?_
 intro aZ cd ao
 obtain ⟨c1, aB, hm⟩ := V hm
 refine G ?_
 refine Tc Z Z Z Z (QbC aB ao ae).r ?_
 rintro _ ce ⟨bS, bA, ap, rfl⟩
 refine G ?_
 refine Qv (T := 52) Tryz.underlying39 Z Z Z (G ?_)
 rcases Qs hm with ⟨a5, hm⟩ | ⟨a5, hm⟩
 ·refine G ?_
  cases hm
 refine G ?_
 refine Exec.alloc (cs := [Vp none, Vn]) ap Qqf Z Z ?_
 intro c cf aq
 have ar := St.bld_close (.inl rfl) ((QgF (E := U .u8) (Te := 5) aq).perm (.swap _ _ _))
 refine G ?_
 rcases Qs hm with ⟨a6, hm⟩ | ⟨a6, hm⟩
 ·refine G ?_
  cases hm
 obtain ⟨c2, aC, hm⟩ := V hm
 refine G ?_
 refine Tc Z Z Z Z (Kk aC ar).r ?_
 rintro _ cg ⟨aa, bB, au, rfl⟩
 obtain ⟨be, aD, hm⟩ := V hm
 refine G ?_
 refine J2 Z Z Z aD ?_
 obtain ⟨bf, aE, hm⟩ := V hm
 refine G ?_
 refine J2 Z Z Z aE ?_
 obtain ⟨bC, aF, hm⟩ := V hm
 refine G ?_
 refine Tc Z Z Z Z (YT aF au).r ?_
 rintro _ ch ⟨rfl, av⟩
 obtain ⟨n, ah, b7, a8, a4⟩ := Qr hm
 refine g ?_
 refine Zc (Zc (Zd (g ?_)))
 refine Qp (M := fun f' w' => ∃ s', (n = .next s' ∨ n = .brk s') ∧ (fun (u : (List Int)) => ∃ (ab : PHeap) , PHeap.le aa ab ∧ St w0 ab (Res.bld 173 5 c u :: H) w' ∧ Fx f' [(5, Vq c), (26, i), (27, O ((d.Nogoods.length : Int)))]) s') ?_ ?_
 ·refine G ?_
  refine QF (fun k' s' f' w' => (fun (l : (List Int)) => ∃ (ac : PHeap) , PHeap.le aa ac ∧ St w0 ac (Res.bld 173 5 c l :: H) w' ∧ Fx f' [(28, O (k' : Int)), (5, Vq c), (26, i), (27, O ((d.Nogoods.length : Int)))]) s') ah ?_ ?_ ?_
  ·have bw := (av.f1).drop
   exact fq
  ·intro aA l bg bm ci b5 aj a b8
   obtain ⟨bT, bD, o, ⟨bn, rfl⟩⟩ := aj
   obtain ⟨aW, aG, a⟩ := V a
   refine G ?_
   refine Jk Z Z Z aG ?_
   intro ba bO af
   refine G ?_
   refine Zw (E := encNogood) o A166.h Z Z Z af ?_
   intro cb aH
   obtain ⟨aV, rfl, bR⟩ := KF.1 aH
   refine G ?_
   refine Exec.alloc (cs := [Vn, O 0]) o Qjd Z Z ?_
   intro bb cj bx
   refine G ?_
   refine KJ Z Z Z ?_
   intro ck aw
   obtain ⟨c3, aI, a⟩ := V a
   refine G ?_
   refine Tc Z Z Z Z (Kk aI aw).r ?_
   rintro _ cl ⟨aU, bE, ax, rfl⟩
   obtain ⟨bh, aJ, a⟩ := V a
   refine G ?_
   refine J2 Z Z Z aJ ?_
   obtain ⟨bi, aK, a⟩ := V a
   refine G ?_
   refine J2 Z Z Z aK ?_
   obtain ⟨bF, aL, a⟩ := V a
   refine G ?_
   refine Tc Z Z Z Z (YT aL ax.f1).r ?_
   rintro _ cm ⟨rfl, ay⟩
   obtain ⟨m, ai, a⟩ := V a
   refine G ?_
   refine QO (fun k' s' f' w' => (fun (m : (List Int)) => ∃ (ad : PHeap) , PHeap.le aU ad ∧ St w0 ad (Res.bld 173 5 c m :: H) w' ∧ Fx f' [(41, O (k' : Int)), (5, Vq c), (26, i), (27, O ((d.Nogoods.length : Int))), (28, O ((aA : Int))), (39, aV), (40, O ((aW.Facts.length : Int)))]) s') ai ?_ ?_ ?_
   ·have bz := (ay.f1).drop
    exact fq
   ·intro b9 m bU bo cn b6 ak b
    obtain ⟨bV, bG, p, ⟨bp, rfl⟩⟩ := ak
    obtain ⟨c0, aM, b⟩ := V b
    refine G ?_
    refine Jk Z Z Z aM ?_
    intro bc bP ag
    refine G ?_
    refine Zw (E := encFact) p A36.h Z Z Z ag ?_
    intro cc aN
    obtain rfl := JH.1 aN
    refine G ?_
    refine Exec.alloc (cs := [O 0, O 0]) p Z36 Z Z ?_
    intro bd co b0
    refine G ?_
    refine KJ Z Z Z ?_
    intro cp j
    refine G ?_
    refine JE (n0 := 10) (.q 0 (.q 1 (.q 5 (.q 6 (.e 2 [5, 6] (.q 3 (.q 4 (.e 7 [3, 4] (.q 8 (.e 9 [] .done)))))))))) JM (by kernel_rfl) (by kernel_rfl) (G ?_)
    refine Zn (j.drew) A3.h Z Z Z ⟨Z, ?_⟩
    refine G ?_
    refine Zn (j.drew) A3.h Z Z Z ⟨Z, ?_⟩
    obtain ⟨c4, aO, b⟩ := V b
    refine G ?_
    refine Tc Z Z Z Z (Kk aO j.drew).r ?_
    rintro _ cq ⟨bW, bH, az, rfl⟩
    refine ⟨agq, ?_⟩
    obtain ⟨bj, x, b⟩ := V b
    refine G ?_
    refine J2 Z Z Z x ⟨Z, ?_⟩
    obtain ⟨bk, y, b⟩ := V b
    refine G ?_
    refine J2 Z Z Z y ⟨Z, ?_⟩
    obtain ⟨c5, aP, b⟩ := V b
    refine G ?_
    refine Tc Z Z Z Z (Kk aP az).r ?_
    rintro _ cr ⟨bX, bI, a0, rfl⟩
    refine ⟨(Qh (Q1 Z Z (J2 Z Z Z x ⟨Z, Z⟩)) (Qh (Q1 Z Z (J2 Z Z Z y ⟨Z, Z⟩)) J5)), ?_⟩
    obtain ⟨bl, aQ, b⟩ := V b
    refine G ?_
    refine J2 Z Z Z aQ ⟨Z, ?_⟩
    obtain ⟨bJ, aR, b⟩ := V b
    refine G ?_
    refine Tc Z Z Z Z (YT aR a0.f1).r ?_
    rintro _ ct ⟨rfl, b1⟩
    refine ⟨agq, ?_⟩
    cases b
    refine G ?_
    exact fq
   intro bq cu al
   obtain ⟨bY, bK, a1, ⟨br, rfl⟩⟩ := al
   obtain ⟨bL, aS, a⟩ := V a
   refine G ?_
   refine Tc Z Z Z Z (YT aS a1).r ?_
   rintro _ cv ⟨rfl, a2⟩
   refine G ?_
   refine Tc Z Z Z Z (QkG a2).r ?_
   rintro _ cw ⟨rfl, b2⟩
   refine G ?_
   rcases Qs a with ⟨a7, a⟩ | ⟨a7, a⟩
   ·refine G ?_
    cases a
   cases a
   refine G ?_
   exact ⟨_, Z, fq⟩
  intro l bs cx am a9
  obtain ⟨bZ, bM, b3, ⟨bt, rfl⟩⟩ := am
  refine G ?_
  exact ⟨_, .inl a9, fq⟩
 rintro bu cy ⟨u, t, an⟩
 have hm := t.elim (a8 _) (a4 _)
 clear t
 obtain ⟨ca, bN, a3, ⟨bv, rfl⟩⟩ := an
 obtain ⟨bQ, aT, hm⟩ := V hm
 refine G ?_
 refine Tc Z Z Z Z (Qeu aT a3).r ?_
 rintro _ cz ⟨rfl, b4⟩
 cases hm
 refine G ?_
 refine ⟨_, QaL Z, ?_⟩
 exact fq
theorem QdT {w0 w : World} {s : PHeap} {H : List Res} {t : (List Int)} {b : Certificate} {c : Value} {d : Value} {r : (Option Int)} (hm : Qam t b = some r) (hS : St w0 s (H) w) (ap : SliceRep (U .i64) s c t) (u : SliceRep encNogood s d b.Nogoods) :
  Calls Tryz.prog 135 #[c, Value.agg #[O (b.Bound), d]] w fun e w' => ∃ v, e = .returned v ∧ ((fun (ao : (Option Int)) => ∃ (n : PHeap) , PHeap.le s n ∧ St w0 n (H) w' ∧ v = K4 52 (ao)) r) := by
 unfold Qam at hm
 refine Qd Tryz.func135 Z Z (G ?_)
 refine Kq Z Z ?_
 intro aq aQ ac
 obtain ⟨aZ, aj, hm⟩ := V hm
 refine G ?_
 refine Tc Z Z Z Z (QbC aj ac u).r ?_
 rintro _ aR ⟨o, aB, ad, rfl⟩
 refine G ?_
 refine Qv (T := 52) Tryz.underlying39 Z Z Z (G ?_)
 rcases Qs hm with ⟨l, hm⟩ | ⟨l, hm⟩
 ·refine G ?_
  cases hm
 obtain ⟨i, y, a8, ah, af⟩ := Qr hm
 refine W_c Z l (Qa4 (Jt (Ze (Zc (Zc (Zd (g ?_)))))))
 refine Qp (M := fun f' w' => ∃ s', (i = .next s' ∨ i = .brk s') ∧ (fun (_ : Unit) => ∃ (p : PHeap) , PHeap.le o p ∧ St w0 p (H) w' ∧ Fx f' [(0, c), (14, d), (15, O ((b.Nogoods.length : Int)))]) s') ?_ ?_
 ·refine G ?_
  refine QF (fun k' s' f' w' => (fun (_ : Unit) => ∃ (q : PHeap) , PHeap.le o q ∧ St w0 q (H) w' ∧ Fx f' [(16, O (k' : Int)), (0, c), (14, d), (15, O ((b.Nogoods.length : Int)))]) s') y ?_ ?_ ?_
  ·have a2 := ad.drop
   exact fq
  ·intro aA aL av aw aS a7 z a a9
   obtain ⟨aH, aC, j, ⟨ax, rfl⟩⟩ := z
   obtain ⟨aY, ak, a⟩ := V a
   refine G ?_
   refine Jk Z Z Z ak ?_
   intro ar aG x
   refine G ?_
   refine Zw (E := encNogood) j A166.h Z Z Z x ?_
   intro aP al
   obtain ⟨aO, rfl, an⟩ := KF.1 al
   refine G ?_
   refine Exec.alloc (cs := [Vn, O 0]) j Qjd Z Z ?_
   intro au aT a3
   refine G ?_
   refine KJ Z Z Z ?_
   intro aU ae
   obtain ⟨ba, am, a⟩ := V a
   refine G ?_
   refine Tc Z Z Z Z (Qad am ae rq an).r ?_
   rintro _ aV ⟨aI, aD, a4, rfl⟩
   refine G ?_
   rcases Qs a with ⟨ag, a⟩ | ⟨ag, a⟩
   ·refine G ?_
    cases a
   cases a
   refine G ?_
   exact ⟨_, Z, fq⟩
  intro aM ay aW aa ai
  obtain ⟨aJ, aE, a5, ⟨az, rfl⟩⟩ := aa
  refine G ?_
  exact ⟨_, .inl ai, fq⟩
 rintro a0 aX ⟨aN, m, ab⟩
 have hm := m.elim (ah _) (af _)
 clear m
 obtain ⟨aK, aF, a6, ⟨a1, rfl⟩⟩ := ab
 cases hm
 refine G ?_
 exact fr
instance F218_0 : FTy Tryz.prog 218 0 0 := ⟨by kernel_rfl⟩
instance F218_2 : FTy Tryz.prog 218 2 6 := ⟨by kernel_rfl⟩
instance F218_1 : FTy Tryz.prog 218 1 4 := ⟨by kernel_rfl⟩
theorem Qcn {w0 w : World} {s : PHeap} {H : List Res} {a : checker_checker} {p : Int} {i : Nat} {l : Value} {m : Value} {n : Value} {o : Value} {d : Value} {r : (List (List Fact))} (hm : KP a p = some r) (hS : St w0 s (Res.box i 218 [l, m, n, o, O (a.c.Bound), d, O (a.steps)] :: H) w) (ay : SliceRep (U .i64) s l a.t.Vars) (az : SliceRep (U .i64) s m a.t.Init) (a0 : SliceRep encFact s n a.t.Goal) (a1 : SliceRep encOp s o a.t.Ops) (a2 : SliceRep encNogood s d a.c.Nogoods) :
  Calls Tryz.prog 170 #[Value.pointer (some ⟨i, 0, none⟩), O p] w fun e w' => ∃ v, e = .returned v ∧ ((fun (ax : (List (List Fact))) => ∃ (y : PHeap) (af : Value), PHeap.le s y ∧ St w0 y (Res.box i 218 [l, m, n, o, O (a.c.Bound), d, O (a.steps)] :: H) w' ∧ v = af ∧ SliceRep (Qm encFact) y af ax) r) := by
 unfold KP at hm
 refine Qd Tryz.func170 Z Z ?_
 obtain ⟨x, ah, hm⟩ := V hm
 refine G ?_
 refine QO (fun k' s' f' w' => (fun (x : (List (List Fact))) => ∃ (ad : PHeap) (q : Value), PHeap.le s ad ∧ St w0 ad (Res.box i 218 [l, m, n, o, O (a.c.Bound), d, O (a.steps)] :: Res.arr (Qm encFact) 23 q x :: H) w' ∧ Fx f' [(14, O (k' : Int)), (1, O p), (5, q), (12, d), (13, O ((a.c.Nogoods.length : Int)))]) s') ah ?_ ?_ ?_
 ·have aC := hS.nilArr (Qm encFact) 23
  exact fq
 ·intro ap x aP a6 aV aH ai j
  obtain ⟨av, q, aI, ab, ⟨a7, rfl⟩⟩ := ai
  obtain ⟨aw, aq, j⟩ := V j
  refine G ?_
  refine Jk Z Z Z aq ?_
  intro a3 aN ag
  refine G ?_
  refine Zw (E := encNogood) ab A166.h Z Z Z ag ?_
  intro aT ar
  obtain ⟨z, rfl, ac⟩ := KF.1 ar
  refine G ?_
  refine Exec.alloc (cs := [Vn, O 0]) ab Qjd Z Z ?_
  intro a4 aW aD
  refine G ?_
  refine KJ Z Z Z ?_
  intro aX al
  obtain ⟨u, b, j⟩ := V j
  refine g ?_
  refine Zc (Zd (g ?_))
  refine Qp (M := fun f' w' => (fun (u : (List (List Fact))) => ∃ (ae : PHeap) (aa : Value), PHeap.le av ae ∧ St w0 ae (Res.box i 218 [l, m, n, o, O (a.c.Bound), d, O (a.steps)] :: Res.arr (Qm encFact) 23 aa u :: H) w' ∧ Fx f' [(1, O p), (5, aa), (12, d), (13, O ((a.c.Nogoods.length : Int))), (14, O ((ap : Int)))]) u) ?_ ?_
  ·rcases Qs b with ⟨ao, b⟩ | ⟨ao, b⟩
   ·refine G ?_
    refine Exec.buildSlice (Te := 23) (cs := [z]) al Z (Qc (c := [z]) (Qe Z (Qz ac.one)) Qi) (fun _ => by kernel_rfl) ?_
    intro a5 aY am
    obtain ⟨aJ, au, b⟩ := V b
    refine G ?_
    refine Q5 (E := (Qm encFact)) (ys := [aw.Facts]) am.f3 S86.h Z23 Z (by decide) Z Z Z Z ⟨[z], [], Z, ⟨_, Z, ac⟩, Z⟩ Z au ?_
    intro aU aZ aE
    cases b
    refine G ?_
    exact fq
   cases b
   refine G ?_
   exact fq
  intro a8 ba ak
  obtain ⟨aQ, aa, aK, aF, ⟨a9, rfl⟩⟩ := ak
  cases j
  refine G ?_
  exact fq
 intro aA bb aj
 obtain ⟨aR, q, aL, an, ⟨aB, rfl⟩⟩ := aj
 cases hm
 refine G ?_
 refine ⟨_, KR Z, ?_⟩
 obtain ⟨aS, aM, aG, aO⟩ := an.f1.freezeArr
 exact fq
theorem QqY : (Tryz.f194.name == "runtime.NumGoroutine") = false := by kernel_rfl
theorem QdQ {w0 w : World} {s : PHeap} {H : List Res} {d : (List Fact)} {b : (List Int)} {g : Value} {a c : Nat} {r : Bool} (hm : Qak d b = some r) (hS : St w0 s (H) w) (i : SliceRep encFact s g d) (j : At s a c (Qm (U .i64)) b) :
  Calls Tryz.prog 194 #[g, Value.pointer (some ⟨a, c, none⟩)] w fun e w' => ∃ v, e = .returned v ∧ ((fun (n : Bool) => ∃ (f : PHeap) , PHeap.le s f ∧ St w0 f (H) w' ∧ v = Value.bool (n)) r) := by
 unfold Qak at hm
 refine Qd Tryz.func194 Z Z (G ?_)
 refine Zw (E := (Qm (U .i64))) hS A22.h Z Z Z j ?_
 intro t k
 have m := QH.1 k
 obtain ⟨x, l, hm⟩ := V hm
 refine G ?_
 refine Tc Z Z Z Z (Qad l hS m i).r ?_
 rintro _ u ⟨q, p, o, rfl⟩
 cases hm
 refine G ?_
 exact fr
theorem Qec {w0 w : World} {s : PHeap} {H : List Res} {d : (List (List Fact))} {j : (List Int)} {i : Value} {b c : Nat} {r : Int} (hm : Qa2 d j = some r) (hS : St w0 s (H) w) (ao : SliceRep (Qm encFact) s i d) (t : At s b c (Qm (U .i64)) j) :
  Calls Tryz.prog 99 #[i, Value.func (.func 194) #[] #[Value.pointer (some ⟨b, c, none⟩)]] w fun e w' => ∃ v, e = .returned v ∧ ((fun (an : Int) => ∃ (o : PHeap) , PHeap.le s o ∧ St w0 o (H) w' ∧ v = O an) r) := by
 unfold Qa2 at hm
 refine Qd Tryz.func99 Z Z ?_
 obtain ⟨l, x, af, ad, ab⟩ := Qr hm
 refine Zc (Zd (g ?_))
 refine Zc (Zc (Zd (g ?_)))
 refine Qp (M := fun f' w' => ∃ s', (l = .next s' ∨ l = .brk s') ∧ (fun (_ : Unit) => ∃ (p : PHeap) , PHeap.le s p ∧ St w0 p (H) w' ∧ Fx f' [(0, i), (1, Value.func (.func 194) #[] #[Vp (some ⟨b, c, none⟩)]), (7, O ((d.length : Int)))]) s') ?_ ?_
 ·refine G ?_
  refine QF (fun k' s' f' w' => (fun (_ : Unit) => ∃ (q : PHeap) , PHeap.le s q ∧ St w0 q (H) w' ∧ Fx f' [(8, O (k' : Int)), (0, i), (1, Value.func (.func 194) #[] #[Vp (some ⟨b, c, none⟩)]), (7, O ((d.length : Int)))]) s') x ?_ ?_ ?_
  ·exact fq
  ·intro a3 aC aq ar aG a2 y a ag
   obtain ⟨a8, ai, m, ⟨au, rfl⟩⟩ := y
   obtain ⟨aK, aj, a⟩ := V a
   refine G ?_
   refine Jk Z Z Z aj ?_
   intro ap a7 u
   refine G ?_
   refine Zw (E := (Qm encFact)) m A23.h Z Z Z u ?_
   intro aF ak
   have am := QH.1 ak
   obtain ⟨aL, al, a⟩ := V a
   refine G ?_
   refine Qib Z Z Tryz.func194 Z QqY (Zi Z Qw) Z ((QdQ al m am (t.mono ai)).mono ?_)
   rintro _ aH ⟨_, rfl, ⟨a9, a4, az, rfl⟩⟩
   refine ⟨_, Z, ?_⟩
   refine G ?_
   rcases Qs a with ⟨ac, a⟩ | ⟨ac, a⟩
   ·cases a
    have ae := af _ (ag (by intro _ h; cases h))
    cases ae
    refine G ?_
    exact fr
   cases a
   refine G ?_
   exact ⟨_, Z, fq⟩
  intro aD av aI z ah
  obtain ⟨aA, a5, a0, ⟨aw, rfl⟩⟩ := z
  refine G ?_
  exact ⟨_, .inl ah, fq⟩
 rintro ax aJ ⟨aE, n, aa⟩
 have hm := n.elim (ad _) (ab _)
 clear n
 obtain ⟨aB, a6, a1, ⟨ay, rfl⟩⟩ := aa
 cases hm
 refine G ?_
 exact fr
theorem Qfr {w0 w : World} {s : PHeap} {H : List Res} {f : (List (List Fact))} {b : (List Int)} {g : Value} {a c : Nat} {r : Bool} (hm : QbJ f b = some r) (hS : St w0 s (H) w) (h : SliceRep (Qm encFact) s g f) (i : At s a c (Qm (U .i64)) b) :
  Calls Tryz.prog 69 #[g, Value.func (.func 194) #[] #[Value.pointer (some ⟨a, c, none⟩)]] w fun e w' => ∃ v, e = .returned v ∧ ((fun (k : Bool) => ∃ (d : PHeap) , PHeap.le s d ∧ St w0 d (H) w' ∧ v = Value.bool (k)) r) := by
 unfold QbJ at hm
 refine Qd Tryz.func69 Z Z ?_
 obtain ⟨p, j, hm⟩ := V hm
 refine G ?_
 refine Tc Z Z Z Z (Qec j hS h i).r ?_
 rintro _ o ⟨n, m, l, rfl⟩
 cases hm
 refine G ?_
 exact fr
instance F276_1 : FTy Tryz.prog 276 1 1 := ⟨by kernel_rfl⟩
instance F276_2 : FTy Tryz.prog 276 2 2 := ⟨by kernel_rfl⟩
theorem Qgv {w0 w : World} {s : PHeap} {H : List Res} {b : (List Fact)} {c : Int} {d : Value} {r : Int} (hm : QcH b c = some r) (hS : St w0 s (H) w) (ai : SliceRep encFact s d b) :
  Calls Tryz.prog 176 #[d, O c] w fun e w' => ∃ v, e = .returned v ∧ ((fun (ah : Int) => ∃ (m : PHeap) , PHeap.le s m ∧ St w0 m (H) w' ∧ v = O ah) r) := by
 unfold QcH at hm
 refine Qd Tryz.func176 Z Z ?_
 obtain ⟨i, q, ac, aa, y⟩ := Qr hm
 refine Zc (Zd (g ?_))
 refine Zc (Zc (Zd (g ?_)))
 refine Qp (M := fun f' w' => ∃ s', (i = .next s' ∨ i = .brk s') ∧ (fun (_ : Unit) => ∃ (n : PHeap) , PHeap.le s n ∧ St w0 n (H) w' ∧ Fx f' [(1, O c), (7, d), (8, O ((b.length : Int)))]) s') ?_ ?_
 ·refine G ?_
  refine QF (fun k' s' f' w' => (fun (_ : Unit) => ∃ (o : PHeap) , PHeap.le s o ∧ St w0 o (H) w' ∧ Fx f' [(9, O (k' : Int)), (1, O c), (7, d), (8, O ((b.length : Int)))]) s') q ?_ ?_ ?_
  ·exact fq
  ·intro az a7 al am aB ay t a ad
   obtain ⟨a4, a0, j, ⟨an, rfl⟩⟩ := t
   obtain ⟨aG, af, a⟩ := V a
   refine G ?_
   refine Jk Z Z Z af ?_
   intro aj a3 p
   refine G ?_
   refine Zw (E := encFact) j A36.h Z Z Z p ?_
   intro aA ag
   obtain rfl := JH.1 ag
   refine G ?_
   refine Exec.alloc (cs := [O 0, O 0]) j Z36 Z Z ?_
   intro ak aC au
   refine G ?_
   refine KJ Z Z Z ?_
   intro aD av
   refine G ?_
   rcases Qs a with ⟨z, a⟩ | ⟨z, a⟩
   ·cases a
    have ab := ac _ (ad (by intro _ h; cases h))
    cases ab
    refine G ?_
    exact fr
   cases a
   refine G ?_
   exact ⟨_, Z, fq⟩
  intro a8 ao aE u ae
  obtain ⟨a5, a1, aw, ⟨ap, rfl⟩⟩ := u
  refine G ?_
  exact ⟨_, .inl ae, fq⟩
 rintro aq aF ⟨a9, l, x⟩
 have hm := l.elim (aa _) (y _)
 clear l
 obtain ⟨a6, a2, ax, ⟨ar, rfl⟩⟩ := x
 cases hm
 refine G ?_
 exact fr
theorem Qe0 {w0 w : World} {s : PHeap} {H : List Res} {j : (List Fact)} {b : (List Fact)} {c : Value} {d : Value} {r : Bool} (hm : QaQ j b = some r) (hS : St w0 s (H) w) (aj : SliceRep encFact s c j) (ak : SliceRep encFact s d b) :
  Calls Tryz.prog 161 #[c, d] w fun e w' => ∃ v, e = .returned v ∧ ((fun (ai : Bool) => ∃ (o : PHeap) , PHeap.le s o ∧ St w0 o (H) w' ∧ v = Value.bool (ai)) r) := by
 unfold QaQ at hm
 refine Qd Tryz.func161 Z Z ?_
 obtain ⟨l, x, a1, ad, ab⟩ := Qr hm
 refine Zc (Zd (g ?_))
 refine Zc (Zc (Zd (g ?_)))
 refine Qp (M := fun f' w' => ∃ s', (l = .next s' ∨ l = .brk s') ∧ (fun (_ : Unit) => ∃ (p : PHeap) , PHeap.le s p ∧ St w0 p (H) w' ∧ Fx f' [(0, c), (7, d), (8, O ((b.length : Int)))]) s') ?_ ?_
 ·refine G ?_
  refine QF (fun k' s' f' w' => (fun (_ : Unit) => ∃ (t : PHeap) , PHeap.le s t ∧ St w0 t (H) w' ∧ Fx f' [(9, O (k' : Int)), (0, c), (7, d), (8, O ((b.length : Int)))]) s') x ?_ ?_ ?_
  ·exact fq
  ·intro a3 aD an ao aH a0 y a a2
   obtain ⟨a9, a4, m, ⟨ap, rfl⟩⟩ := y
   obtain ⟨aN, af, a⟩ := V a
   refine G ?_
   refine Jk Z Z Z af ?_
   intro al a8 u
   refine G ?_
   refine Zw (E := encFact) m A36.h Z Z Z u ?_
   intro aG ag
   obtain rfl := JH.1 ag
   refine G ?_
   refine Exec.alloc (cs := [O 0, O 0]) m Z36 Z Z ?_
   intro am aI aw
   refine G ?_
   refine KJ Z Z Z ?_
   intro aJ i
   refine G ?_
   refine JE (n0 := 7) (qs 0 3 (.q 4 (.q 5 (.e 3 [4, 5] (.q 6 .done))))) JM (by kernel_rfl) (by kernel_rfl) (G ?_)
   refine Zn (i.drew) A3.h Z Z Z ⟨Z, ?_⟩
   refine G ?_
   refine Zn (i.drew) A3.h Z Z Z ⟨Z, ?_⟩
   obtain ⟨aO, ah, a⟩ := V a
   refine G ?_
   refine Tc Z Z Z Z (Qgv ah i.drew rq).r ?_
   rintro _ aK ⟨aA, a5, ax, rfl⟩
   refine ⟨agq, ?_⟩
   refine G ?_
   rcases Qs a with ⟨ac, a⟩ | ⟨ac, a⟩
   ·refine G ?_
    cases a
   cases a
   refine G ?_
   exact ⟨_, Z, fq⟩
  intro aE aq aL z ae
  obtain ⟨aB, a6, ay, ⟨ar, rfl⟩⟩ := z
  refine G ?_
  exact ⟨_, .inl ae, fq⟩
 rintro au aM ⟨aF, n, aa⟩
 have hm := n.elim (ad _) (ab _)
 clear n
 obtain ⟨aC, a7, az, ⟨av, rfl⟩⟩ := aa
 cases hm
 refine G ?_
 exact fr
theorem Qdj {w0 w : World} {s : PHeap} {H : List Res} {a : partial_cover} {p : (List Fact)} {i : (List (List Fact))} {c : Nat} {d : Value} {j : Value} {l : Value} {r : Bool × Int} (hm : YA a p i = some r) (hS : St w0 s (Res.box c 276 [d, O (a.used), O (a.steps), Value.bool (a.full)] :: H) w) (aq : SliceRep (U .i64) s d a.vars) (ar : SliceRep encFact s j p) (au : SliceRep (Qm encFact) s l i) :
  Calls Tryz.prog 195 #[Value.pointer (some ⟨c, 0, none⟩), j, l] w fun e w' => ∃ v, e = .returned v ∧ ((QI fun (ao : Bool) (ap : Int) => ∃ (q : PHeap) , PHeap.le s q ∧ St w0 q (Res.box c 276 [d, O ap, O (a.steps), Value.bool (a.full)] :: H) w' ∧ v = Value.bool (ao)) r) := by
 unfold YA at hm
 refine Qd Tryz.func195 Z Z (G ?_)
 refine JE (n0 := 9) (qs 0 9 .done) JM (by kernel_rfl) (by kernel_rfl) (G ?_)
 refine Zn (hS.drew) A3.h Z Z Z ⟨Z, ?_⟩
 refine G ?_
 refine Zn (hS.drew) A3.h Z Z Z ⟨Z, ?_⟩
 refine G ?_
 rcases Qs hm with ⟨ad, hm⟩ | ⟨ad, hm⟩
 ·refine G ?_
  cases hm
 refine G ?_
 refine Zn (hS.drew) A3.h Z Z Z (G ?_)
 refine Qq (ds := [O (IntKind.i64.wrap (a.used + 1))]) (es := [d, O (IntKind.i64.wrap (a.used + 1)), O (a.steps), Vb (a.full)]) hS.drew A3.h Z Z Z Z (Zj Z QU) (Nat.le_of_ble_eq_true Z) Z ?_
 intro aM a3
 obtain ⟨m, y, ah, af, ac⟩ := Qr hm
 refine g ?_
 refine Zc (Zd (g ?_))
 refine Zc (Zc (Zd (g ?_)))
 refine Qp (M := fun f' w' => ∃ s', (m = .next s' ∨ m = .brk s') ∧ (fun (_ : Unit) => ∃ (t : PHeap) , PHeap.le s t ∧ St w0 t (Res.box c 276 [d, O (IntKind.i64.wrap (a.used + 1)), O (a.steps), Vb (a.full)] :: H) w' ∧ Fx f' [(0, Vq c), (1, j), (7, Vn), (35, l), (36, O ((i.length : Int)))]) s') ?_ ?_
 ·refine G ?_
  refine QF (fun k' s' f' w' => (fun (_ : Unit) => ∃ (u : PHeap) , PHeap.le s u ∧ St w0 u (Res.box c 276 [d, O (IntKind.i64.wrap (a.used + 1)), O (a.steps), Vb (a.full)] :: H) w' ∧ Fx f' [(37, O (k' : Int)), (0, Vq c), (1, j), (7, Vn), (35, l), (36, O ((i.length : Int)))]) s') y ?_ ?_ ?_
  ·exact fq
  ·intro a8 aI aw ax aN a7 z b ai
   obtain ⟨aE, a9, n, ⟨ay, rfl⟩⟩ := z
   obtain ⟨aR, ak, b⟩ := V b
   refine G ?_
   refine Jk Z Z Z ak ?_
   intro av aD x
   refine G ?_
   refine Zw (E := (Qm encFact)) n A23.h Z Z Z x ?_
   intro aL al
   have an := QH.1 al
   obtain ⟨aS, am, b⟩ := V b
   refine G ?_
   refine Tc Z Z Z Z (Qe0 am n rq an).r ?_
   rintro _ aO ⟨aF, aA, a4, rfl⟩
   refine G ?_
   rcases Qs b with ⟨ae, b⟩ | ⟨ae, b⟩
   ·cases b
    have ag := ah _ (ai (by intro _ h; cases h))
    cases ag
    refine G ?_
    exact fr
   refine G ?_
   cases b
  intro aJ az aP aa aj
  obtain ⟨aG, aB, a5, ⟨a0, rfl⟩⟩ := aa
  refine G ?_
  exact ⟨_, .inl aj, fq⟩
 rintro a1 aQ ⟨aK, o, ab⟩
 have hm := o.elim (af _) (ac _)
 clear o
 obtain ⟨aH, aC, a6, ⟨a2, rfl⟩⟩ := ab
 refine G ?_
 cases hm
instance F276_3 : FTy Tryz.prog 276 3 3 := ⟨by kernel_rfl⟩
theorem QeM {w0 w : World} {s : PHeap} {H : List Res} {d : (List Int)} {z : (List Fact)} {u : (List (List Fact))} {b : Int} {k : Value} {l : Value} {m : Value} {r : Bool × Int × (Option Int)} (hm : Qb2 d z u b = some r) (hS : St w0 s (H) w) (o : SliceRep (U .i64) s k d) (a1 : SliceRep encFact s l z) (ad : SliceRep (Qm encFact) s m u) :
  Calls Tryz.prog 169 #[k, l, m, O b] w fun e w' => ∃ v, e = .returned v ∧ ((un3 fun (ay : Bool) (az : Int) (a0 : (Option Int)) => ∃ (aa : PHeap) , PHeap.le s aa ∧ St w0 aa (H) w' ∧ v = Value.tuple #[Value.bool (ay), O az, K4 52 (a0)]) r) := by
 unfold Qb2 at hm
 refine Qd Tryz.func169 Z Z (G ?_)
 refine Exec.box (cs := [k]) hS Z Z (Qz o.one) ?_
 intro ae aD ag
 obtain ⟨av, al, p, j⟩ := St.freezeVar (E := (Qm (U .i64))) (y := d) ag ⟨_, rfl, o⟩
 obtain ⟨n, a, hm⟩ := V hm
 refine g ?_
 refine Zc (Zc (Qp (M := fun f' w' => (fun (n : Bool) => ∃ (ab : PHeap) , PHeap.le av ab ∧ St w0 ab (H) w' ∧ Fx f' [(1, l), (2, m), (3, O b), (4, Vq ae), (21, Vb n)]) n) ?_ ?_))
 ·refine G ?_
  refine Zw (E := (Qm (U .i64))) p A22.h Z Z Z j ?_
  intro aC an
  have au : SliceRep _ _ _ (d) := QH.1 an
  obtain ⟨aJ, ao, a⟩ := V a
  refine G ?_
  refine Tc Z Z Z Z (Qad ao p au rq).r ?_
  rintro _ aE ⟨a9, t, ah, rfl⟩
  refine G ?_
  rcases Qs a with ⟨ak, a⟩ | ⟨ak, a⟩
  ·cases a
   refine G ?_
   exact fq
  refine G ?_
  refine Exec.makeFunc Z (Zi Z Qw) ?_
  obtain ⟨aK, ap, a⟩ := V a
  refine G ?_
  refine Tc Z Z Z Z (Qfr ap ah (ad.mono (Zt al t)) (j.mono t)).r ?_
  rintro _ aF ⟨aA, a7, a6, rfl⟩
  cases a
  refine G ?_
  exact fq
 intro a4 aG af
 obtain ⟨aB, am, ai, ⟨a5, rfl⟩⟩ := af
 refine G ?_
 rcases YC hm with ⟨i, hm⟩ | ⟨i, hm⟩
 ·refine G ?_
  cases hm
 replace i := Zk i
 refine G ?_
 refine Zw (E := (Qm (U .i64))) ai A22.h Z Z Z (j.mono am) ?_
 intro ac aq
 have x : SliceRep _ _ _ (d) := QH.1 aq
 refine G ?_
 refine Exec.build Z (Qc (c := [ac]) (Qe Z (Qz x.one)) (Qc (c := [O b]) (Qe Z Z) Qi)) (v := Value.agg #[ac, O 0, O b, Vb false]) (fun _ => by kernel_rfl) (G ?_)
 refine Kq Z Z ?_
 intro a2 aH aj
 obtain ⟨ax, ar, hm⟩ := V hm
 obtain ⟨aL, aM⟩ := ax
 replace hm := Q7 hm
 refine G ?_
 refine Tc Z Z Z Z (Qdj ar aj x rq rq).r ?_
 rintro _ aI ⟨aw, a8, q, rfl⟩
 refine G ?_
 refine JE (n0 := 6) (qs 0 6 .done) JM (by kernel_rfl) (by kernel_rfl) (G ?_)
 refine Zn (q.drew) A3.h Z Z Z ⟨Z, ?_⟩
 have a3 := Zu hm
 subst r
 refine G ?_
 refine ⟨_, Qp4 Z, ?_⟩
 exact ⟨aw, lq, (q.drew).drop, (QqG Z Z Z)⟩
theorem Qcz {w0 w : World} {s : PHeap} {H : List Res} {a : checker_checker} {l : (List Fact)} {k : Int} {b : Nat} {d : Value} {f : Value} {g : Value} {i : Value} {j : Value} {n : Value} {r : Bool × (Option Int) × Int} (hm : KT a l k = some r) (hS : St w0 s (Res.box b 218 [d, f, g, i, O (a.c.Bound), j, O (a.steps)] :: H) w) (o : SliceRep (U .i64) s d a.t.Vars) (p : SliceRep (U .i64) s f a.t.Init) (q : SliceRep encFact s g a.t.Goal) (u : SliceRep encOp s i a.t.Ops) (x : SliceRep encNogood s j a.c.Nogoods) (ah : SliceRep encFact s n l) :
  Calls Tryz.prog 136 #[Value.pointer (some ⟨b, 0, none⟩), n, O k] w fun e w' => ∃ v, e = .returned v ∧ ((un3 fun (ae : Bool) (af : (Option Int)) (ag : Int) => ∃ (m : PHeap) , PHeap.le s m ∧ St w0 m (Res.box b 218 [d, f, g, i, O (a.c.Bound), j, O ag] :: H) w' ∧ v = Value.tuple #[Value.bool (ae), K4 52 (af)]) r) := by
 unfold KT at hm
 refine Qd Tryz.func136 Z Z (G ?_)
 refine JE (n0 := 20) (qs 0 8 (qs 9 4 (.e 8 [0, 1, 2, 3, 4, 5, 9, 10, 11, 12] (.e 13 [] (qs 14 6 .done))))) JM (by kernel_rfl) (by kernel_rfl) (G ?_)
 refine Zn (hS.drew) A22.h Z Z Z ⟨Z, ?_⟩
 refine G ?_
 refine Zn (hS.drew) A3.h Z Z Z ⟨Z, ?_⟩
 obtain ⟨au, aa, hm⟩ := V hm
 refine G ?_
 refine Tc Z Z Z Z (Qcn aa hS.drew o p q u x).r ?_
 rintro ao ap ⟨am, _, ak, y, rfl, ac⟩
 refine ⟨agq, ?_⟩
 obtain ⟨ad, ab, hm⟩ := V hm
 obtain ⟨av, aw, ax⟩ := ad
 replace hm := QaM hm
 refine G ?_
 refine Tc Z Z Z Z (QeM ab y rq rq ac).r ?_
 rintro _ aq ⟨an, al, ai, rfl⟩
 refine ⟨agq, ?_⟩
 refine G ?_
 refine Qv (T := 52) Tryz.underlying39 Z Z Z (G ?_)
 rcases Qs hm with ⟨z, hm⟩ | ⟨z, hm⟩
 ·refine G ?_
  cases hm
 refine G ?_
 refine KJ Z Z Z ?_
 intro ar aj
 cases hm
 refine G ?_
 refine ⟨_, QaL Z, ?_⟩
 exact fq
theorem QaB {w0 w : World} {s : PHeap} {H : List Res} {a : checker_checker} {f : Nogood} {m : Int} {d : Nat} {g : Value} {i : Value} {j : Value} {k : Value} {l : Value} {o : Value} {r : (Option Int)} (hm : KC a f m = some r) (hS : St w0 s (Res.box d 218 [g, i, j, k, O (a.c.Bound), l, O (a.steps)] :: H) w) (ab : SliceRep (U .i64) s g a.t.Vars) (ac : SliceRep (U .i64) s i a.t.Init) (ad : SliceRep encFact s j a.t.Goal) (p : SliceRep encOp s k a.t.Ops) (ae : SliceRep encNogood s l a.c.Nogoods) (af : SliceRep encFact s o f.Facts) :
  Calls Tryz.prog 137 #[Value.pointer (some ⟨d, 0, none⟩), Value.agg #[o, O (f.Dist)], O m] w fun e w' => ∃ v, e = .returned v ∧ ((fun (aa : (Option Int)) => ∃ (n : PHeap) , PHeap.le s n ∧ St w0 n (Res.box d 218 [g, i, j, k, O (a.c.Bound), l, O (a.steps)] :: H) w' ∧ v = K4 52 (aa)) r) := by
 unfold KC at hm
 refine Qd Tryz.func137 Z Z (G ?_)
 refine Kq Z Z ?_
 intro ag al b
 refine G ?_
 rcases Qs hm with ⟨u, hm⟩ | ⟨u, hm⟩
 ·refine G ?_
  refine JE (n0 := 12) (qs 0 12 .done) JM (by kernel_rfl) (by kernel_rfl) (G ?_)
  refine Zn (b.drew) A3.h Z Z Z ⟨Z, ?_⟩
  refine G ?_
  refine Zn ((b.drew).f1) A24.h Z Z Z ⟨Z, ?_⟩
  obtain ⟨am, y, hm⟩ := V hm
  refine G ?_
  refine Qy S24.h Z Z Z p y ?_
  intro ah aj q ai
  refine ⟨Z, ?_⟩
  refine G ?_
  refine Zw (E := (U .i64)) b.drew A3.h Z Z Z (q.sub (Sub.iso (QdF (QdG (Sub.refl _)) Z)) Z) ?_
  intro ak z
  obtain rfl := Qg.1 z
  refine ⟨Z, ?_⟩
  refine G ?_
  refine Zn ((b.drew).f1) A3.h Z Z Z (G ?_)
  rcases Qs hm with ⟨x, hm⟩ | ⟨x, hm⟩
  ·cases hm
   refine G ?_
   refine ⟨_, KR Z, ?_⟩
   exact ⟨s, (Zv _), (b.drew).drop, Z⟩
  refine G ?_
  cases hm
 refine G ?_
 cases hm
theorem QfU {w0 w : World} {s : PHeap} {H : List Res} {q : Task} {a : Certificate} {o : Int} {d : Value} {i : Value} {j : Value} {l : Value} {b : Value} {r : Int × Int × (Option Int)} (hm : QaF q a o = some r) (hS : St w0 s (H) w) (aI : SliceRep (U .i64) s d q.Vars) (aJ : SliceRep (U .i64) s i q.Init) (aK : SliceRep encFact s j q.Goal) (aL : SliceRep encOp s l q.Ops) (bU : SliceRep encNogood s b a.Nogoods) :
  Calls Tryz.prog 98 #[Value.agg #[d, i, j, l], Value.agg #[O (a.Bound), b], O o] w fun e w' => ∃ v, e = .returned v ∧ ((un3 fun (bE : Int) (bF : Int) (aP : (Option Int)) => ∃ (ay : PHeap) , PHeap.le s ay ∧ St w0 ay (H) w' ∧ v = Value.tuple #[O bE, O bF, K4 52 (aP)]) r) := by
 unfold QaF at hm
 refine Qd Tryz.func98 Z Z (G ?_)
 refine Kq Z Z ?_
 intro m en c9
 refine G ?_
 refine Kq Z Z ?_
 intro z eo bk
 obtain ⟨eJ, bG, hm⟩ := V hm
 refine G ?_
 refine Tc Z Z Z Z (Qae bG bk aI aJ aK aL).r ?_
 rintro _ ep ⟨dE, dn, bl, rfl⟩
 refine G ?_
 refine Qv (T := 52) Tryz.underlying39 Z Z Z (G ?_)
 rcases Qs hm with ⟨bz, hm⟩ | ⟨bz, hm⟩
 ·refine G ?_
  cases hm
 obtain ⟨eK, bH, hm⟩ := V hm
 refine G ?_
 refine Tc Z Z Z Z (QdT bH bl rq rq).r ?_
 rintro _ er ⟨az, dp, bm, rfl⟩
 refine G ?_
 refine Qv (T := 52) Tryz.underlying39 Z Z Z (G ?_)
 rcases Qs hm with ⟨ao, hm⟩ | ⟨ao, hm⟩
 ·refine G ?_
  cases hm
 obtain ⟨af, aQ, da, b4, bt⟩ := Qr hm
 refine W_c Z ao (Qa4 (Jt (Ze (Zc (Zc (Zd (g ?_)))))))
 refine Qp (M := fun f' w' => ∃ s', (af = .next s' ∨ af = .brk s') ∧ (fun (_ : Unit) => ∃ (a0 : PHeap) , PHeap.le az a0 ∧ St w0 a0 (Res.box m 26 [d, i, j, l] :: Res.box z 125 [O (a.Bound), b] :: H) w' ∧ Fx f' [(2, O o), (3, Vq m), (4, Vq z), (33, b), (34, O ((a.Nogoods.length : Int)))]) s') ?_ ?_
 ·refine G ?_
  refine QF (fun k' s' f' w' => (fun (_ : Unit) => ∃ (a1 : PHeap) , PHeap.le az a1 ∧ St w0 a1 (Res.box m 26 [d, i, j, l] :: Res.box z 125 [O (a.Bound), b] :: H) w' ∧ Fx f' [(35, O (k' : Int)), (2, O o), (3, Vq m), (4, Vq z), (33, b), (34, O ((a.Nogoods.length : Int)))]) s') aQ ?_ ?_ ?_
  ·have cA := bm.f1
   exact fq
  ·intro dk dU bZ ce es cV aV p df
   obtain ⟨dF, dq, ak, ⟨cf, rfl⟩⟩ := aV
   obtain ⟨eI, bI, p⟩ := V p
   refine G ?_
   refine Jk Z Z Z bI ?_
   intro bV d9 aM
   refine G ?_
   refine Zw (E := encNogood) ak A166.h Z Z Z aM ?_
   intro ek bJ
   obtain ⟨ej, rfl, bS⟩ := KF.1 bJ
   refine G ?_
   refine Exec.alloc (cs := [Vn, O 0]) ak Qjd Z Z ?_
   intro bW et cB
   refine G ?_
   refine KJ Z Z Z ?_
   intro eu bn
   obtain ⟨eL, bK, p⟩ := V p
   refine G ?_
   refine Tc Z Z Z Z (Qes bK bn bS rq).r ?_
   rintro _ ev ⟨dG, dr, cC, rfl⟩
   refine G ?_
   rcases Qs p with ⟨b0, p⟩ | ⟨b0, p⟩
   ·refine G ?_
    cases p
   cases p
   refine G ?_
   exact ⟨_, Z, fq⟩
  intro dV cg ew aW b9
  obtain ⟨dH, ds, cD, ⟨ch, rfl⟩⟩ := aW
  refine G ?_
  exact ⟨_, .inl b9, fq⟩
 rintro ci ex ⟨dW, ap, bf⟩
 have hm := ap.elim (b4 _) (bt _)
 clear ap
 obtain ⟨a2, dt, cE, ⟨cj, rfl⟩⟩ := bf
 refine G ?_
 refine Qd2 Z Z Z (G ?_)
 refine QbE Z Z Z (G ?_)
 refine Exec.build Z (Qc (c := [d, i, j, l]) (Qe Z Z) (Qc (c := [O (a.Bound), b]) (Qe Z Z) (Qc (c := [O (max 0 (min o 1048576))]) (Qe Z Z) Qi))) (v := Value.agg #[d, i, j, l, O (a.Bound), b, O (max 0 (min o 1048576))]) (fun _ => by kernel_rfl) (G ?_)
 refine Kq Z Z ?_
 intro n ey al
 refine G ?_
 rcases Qs hm with ⟨aq, hm⟩ | ⟨aq, hm⟩
 ·obtain ⟨bT, bL, hm⟩ := V hm
  obtain ⟨eM, eN, ae⟩ := bT
  replace hm := QaM hm
  refine G ?_
  refine Tc Z Z Z Z (Qcz bL al rq rq rq rq rq rq).r ?_
  rintro _ ez ⟨a3, du, bo, rfl⟩
  refine G ?_
  refine Qv (T := 52) Tryz.underlying39 Z Z Z (G ?_)
  rcases Qs hm with ⟨b1, hm⟩ | ⟨b1, hm⟩
  ·refine G ?_
   cases hm
  refine G ?_
  rcases Qs hm with ⟨ar, hm⟩ | ⟨ar, hm⟩
  ·refine G ?_
   cases hm
  obtain ⟨ag, aR, db, b5, bu⟩ := Qr hm
  refine W_c Z ar (Qa4 (Jt (Ze (Zc (Zc (Zd (g ?_)))))))
  refine Qp (M := fun f' w' => ∃ s', (ag = .next s' ∨ ag = .brk s') ∧ (fun (_ : Unit) => ∃ (a4 : PHeap) , PHeap.le a3 a4 ∧ St w0 a4 (Res.box m 26 [d, i, j, l] :: Res.box n 218 [d, i, j, l, O (a.Bound), b, O ae] :: H) w' ∧ Fx f' [(3, Vq m), (13, Vq n), (70, b), (71, O ((a.Nogoods.length : Int)))]) s') ?_ ?_
  ·refine G ?_
   refine QF (fun k' s' f' w' => (fun (_ : Unit) => ∃ (a5 : PHeap) , PHeap.le a3 a5 ∧ St w0 a5 (Res.box m 26 [d, i, j, l] :: Res.box n 218 [d, i, j, l, O (a.Bound), b, O ae] :: H) w' ∧ Fx f' [(72, O (k' : Int)), (3, Vq m), (13, Vq n), (70, b), (71, O ((a.Nogoods.length : Int)))]) s') aR ?_ ?_ ?_
   ·have cF := (bo.f2).drop
    exact fq
   ·intro ac dX ca ck e0 cW aX x dg
    obtain ⟨a6, dv, am, ⟨cl, rfl⟩⟩ := aX
    obtain ⟨aG, bM, x⟩ := V x
    refine G ?_
    refine Jk Z Z Z bM ?_
    intro bX dA aN
    refine G ?_
    refine Zw (E := encNogood) am A166.h Z Z Z aN ?_
    intro el bN
    obtain ⟨aE, rfl, dC⟩ := KF.1 bN
    refine G ?_
    refine Exec.alloc (cs := [Vn, O 0]) am Qjd Z Z ?_
    intro aa e1 cG
    refine G ?_
    refine KJ Z Z Z ?_
    intro e2 bp
    obtain ⟨ah, aS, dc, b6, bv⟩ := Qr x
    refine g ?_
    refine Zc (Zd (g ?_))
    refine Qp (M := fun f' w' => ∃ s', (ah = .next s' ∨ ah = .brk s') ∧ (fun (_ : Unit) => ∃ (a7 : PHeap) , PHeap.le a6 a7 ∧ St w0 a7 (Res.box m 26 [d, i, j, l] :: Res.box n 218 [d, i, j, l, O (a.Bound), b, O ae] :: Res.box aa 166 [aE, O (aG.Dist)] :: H) w' ∧ Fx f' [(3, Vq m), (13, Vq n), (16, O ((ac : Int))), (17, Vq aa), (70, b), (71, O ((a.Nogoods.length : Int))), (72, O ((ac : Int))), (79, O ((q.Ops.length : Int)))]) s') ?_ ?_
    ·refine G ?_
     refine QF (fun k' s' f' w' => (fun (_ : Unit) => ∃ (a8 : PHeap) , PHeap.le a6 a8 ∧ St w0 a8 (Res.box m 26 [d, i, j, l] :: Res.box n 218 [d, i, j, l, O (a.Bound), b, O ae] :: Res.box aa 166 [aE, O (aG.Dist)] :: H) w' ∧ Fx f' [(80, O (k' : Int)), (3, Vq m), (13, Vq n), (16, O ((ac : Int))), (17, Vq aa), (70, b), (71, O ((a.Nogoods.length : Int))), (72, O ((ac : Int))), (79, O ((q.Ops.length : Int)))]) s') aS ?_ ?_ ?_
     ·have cH := bp.f2
      exact fq
     ·intro dl dY cb cm e3 cX aY t dh
      obtain ⟨dI, dw, bq, ⟨cn, rfl⟩⟩ := aY
      obtain ⟨eO, bO, t⟩ := V t
      refine G ?_
      refine Tc Z Z Z Z (QaB bO bq.f1 rq rq rq rq rq rq).r ?_
      rintro _ e4 ⟨dJ, dx, cI, rfl⟩
      refine G ?_
      refine Qv (T := 52) Tryz.underlying39 Z Z Z (G ?_)
      rcases Qs t with ⟨b2, t⟩ | ⟨b2, t⟩
      ·refine G ?_
       cases t
      cases t
      refine G ?_
      exact ⟨_, Z, fq⟩
     intro dZ co e5 aZ bA
     obtain ⟨dK, dy, cJ, ⟨cp, rfl⟩⟩ := aZ
     refine G ?_
     exact ⟨_, .inl bA, fq⟩
    rintro cq e6 ⟨ea, au, bg⟩
    have x := au.elim (b6 _) (bv _)
    clear au
    obtain ⟨dL, dz, cK, ⟨cr, rfl⟩⟩ := bg
    cases x
    refine G ?_
    exact ⟨_, Z, fq⟩
   intro eb ct e7 ba bB
   obtain ⟨dM, d0, cL, ⟨cu, rfl⟩⟩ := ba
   refine G ?_
   exact ⟨_, .inl bB, fq⟩
  rintro cv e8 ⟨ec, av, bh⟩
  have hm := av.elim (b5 _) (bu _)
  clear av
  obtain ⟨dN, d1, cM, ⟨cw, rfl⟩⟩ := bh
  cases hm
  refine G ?_
  refine ⟨_, Qp4 Z, ?_⟩
  exact fq
 obtain ⟨ai, aT, dd, b7, bw⟩ := Qr hm
 refine W_c Z aq (Qa4 (Jt (Ze (Zc (Zc (Zd (g ?_)))))))
 refine Qp (M := fun f' w' => ∃ s', (ai = .next s' ∨ ai = .brk s') ∧ (fun (_ : Unit) => ∃ (a9 : PHeap) , PHeap.le a2 a9 ∧ St w0 a9 (Res.box m 26 [d, i, j, l] :: Res.box n 218 [d, i, j, l, O (a.Bound), b, O (max 0 (min o 1048576))] :: H) w' ∧ Fx f' [(3, Vq m), (13, Vq n), (70, b), (71, O ((a.Nogoods.length : Int)))]) s') ?_ ?_
 ·refine G ?_
  refine QF (fun k' s' f' w' => (fun (_ : Unit) => ∃ (aA : PHeap) , PHeap.le a2 aA ∧ St w0 aA (Res.box m 26 [d, i, j, l] :: Res.box n 218 [d, i, j, l, O (a.Bound), b, O (max 0 (min o 1048576))] :: H) w' ∧ Fx f' [(72, O (k' : Int)), (3, Vq m), (13, Vq n), (70, b), (71, O ((a.Nogoods.length : Int)))]) s') aT ?_ ?_ ?_
  ·have cN := (al.f2).drop
   exact fq
  ·intro ad ed cc cx e9 cY bb y di
   obtain ⟨aB, d2, an, ⟨cy, rfl⟩⟩ := bb
   obtain ⟨aH, bP, y⟩ := V y
   refine G ?_
   refine Jk Z Z Z bP ?_
   intro bY dB aO
   refine G ?_
   refine Zw (E := encNogood) an A166.h Z Z Z aO ?_
   intro em bQ
   obtain ⟨aF, rfl, dD⟩ := KF.1 bQ
   refine G ?_
   refine Exec.alloc (cs := [Vn, O 0]) an Qjd Z Z ?_
   intro ab eA cO
   refine G ?_
   refine KJ Z Z Z ?_
   intro eB br
   obtain ⟨aj, aU, de, b8, bx⟩ := Qr y
   refine g ?_
   refine Zc (Zd (g ?_))
   refine Qp (M := fun f' w' => ∃ s', (aj = .next s' ∨ aj = .brk s') ∧ (fun (_ : Unit) => ∃ (aC : PHeap) , PHeap.le aB aC ∧ St w0 aC (Res.box m 26 [d, i, j, l] :: Res.box n 218 [d, i, j, l, O (a.Bound), b, O (max 0 (min o 1048576))] :: Res.box ab 166 [aF, O (aH.Dist)] :: H) w' ∧ Fx f' [(3, Vq m), (13, Vq n), (16, O ((ad : Int))), (17, Vq ab), (70, b), (71, O ((a.Nogoods.length : Int))), (72, O ((ad : Int))), (79, O ((q.Ops.length : Int)))]) s') ?_ ?_
   ·refine G ?_
    refine QF (fun k' s' f' w' => (fun (_ : Unit) => ∃ (aD : PHeap) , PHeap.le aB aD ∧ St w0 aD (Res.box m 26 [d, i, j, l] :: Res.box n 218 [d, i, j, l, O (a.Bound), b, O (max 0 (min o 1048576))] :: Res.box ab 166 [aF, O (aH.Dist)] :: H) w' ∧ Fx f' [(80, O (k' : Int)), (3, Vq m), (13, Vq n), (16, O ((ad : Int))), (17, Vq ab), (70, b), (71, O ((a.Nogoods.length : Int))), (72, O ((ad : Int))), (79, O ((q.Ops.length : Int)))]) s') aU ?_ ?_ ?_
    ·have cP := br.f2
     exact fq
    ·intro dm ee cd cz eC cZ bc u dj
     obtain ⟨dO, d3, bs, ⟨c0, rfl⟩⟩ := bc
     obtain ⟨eP, bR, u⟩ := V u
     refine G ?_
     refine Tc Z Z Z Z (QaB bR bs.f1 rq rq rq rq rq rq).r ?_
     rintro _ eD ⟨dP, d4, cQ, rfl⟩
     refine G ?_
     refine Qv (T := 52) Tryz.underlying39 Z Z Z (G ?_)
     rcases Qs u with ⟨b3, u⟩ | ⟨b3, u⟩
     ·refine G ?_
      cases u
     cases u
     refine G ?_
     exact ⟨_, Z, fq⟩
    intro ef c1 eE bd bC
    obtain ⟨dQ, d5, cR, ⟨c2, rfl⟩⟩ := bd
    refine G ?_
    exact ⟨_, .inl bC, fq⟩
   rintro c3 eF ⟨eg, aw, bi⟩
   have y := aw.elim (b8 _) (bx _)
   clear aw
   obtain ⟨dR, d6, cS, ⟨c4, rfl⟩⟩ := bi
   cases y
   refine G ?_
   exact ⟨_, Z, fq⟩
  intro eh c5 eG be bD
  obtain ⟨dS, d7, cT, ⟨c6, rfl⟩⟩ := be
  refine G ?_
  exact ⟨_, .inl bD, fq⟩
 rintro c7 eH ⟨ei, ax, bj⟩
 have hm := ax.elim (b7 _) (bw _)
 clear ax
 obtain ⟨dT, d8, cU, ⟨c8, rfl⟩⟩ := bj
 cases hm
 refine G ?_
 refine ⟨_, Qp4 Z, ?_⟩
 exact fq
theorem Qfq {w0 w : World} {s : PHeap} {H : List Res} {a : Task} {b : Certificate} {d : Int} {f : Value} {g : Value} {h : Value} {i : Value} {j : Value} {r : (Option Int)} (hm : Y3 a b d = some r) (hS : St w0 s (H) w) (k : SliceRep (U .i64) s f a.Vars) (l : SliceRep (U .i64) s g a.Init) (m : SliceRep encFact s h a.Goal) (n : SliceRep encOp s i a.Ops) (o : SliceRep encNogood s j b.Nogoods) :
  Calls Tryz.prog 68 #[Value.agg #[f, g, h, i], Value.agg #[O (b.Bound), j], O d] w fun e w' => ∃ v, e = .returned v ∧ ((fun (u : (Option Int)) => ∃ (c : PHeap) , PHeap.le s c ∧ St w0 c (H) w' ∧ v = K4 52 (u)) r) := by
 unfold Y3 at hm
 refine Qd Tryz.func68 Z Z (G ?_)
 refine Kq Z Z ?_
 intro x ag aa
 refine G ?_
 refine Kq Z Z ?_
 intro y ah p
 obtain ⟨t, q, hm⟩ := V hm
 obtain ⟨ad, ae, z⟩ := t
 replace hm := QaM hm
 refine G ?_
 refine Tc Z Z Z Z (QfU q p k l m n o).r ?_
 rintro _ ai ⟨af, ac, ab, rfl⟩
 cases hm
 refine G ?_
 exact fr
theorem Qcf {w0 w : World} {s : PHeap} {H : List Res} {r : Bool} (hm : J3 = some r) (hS : St w0 s (H) w) :
  Calls Tryz.prog 35 #[] w fun e w' => ∃ v, e = .returned v ∧ ((fun (az : Bool) => ∃ (l : PHeap) , PHeap.le s l ∧ St w0 l (H) w' ∧ v = Value.bool (az)) r) := by
 unfold J3 at hm
 refine Qd Tryz.func35 Z Z (G ?_)
 refine Exec.buildSlice (Te := 3) (cs := [O 2]) hS Z (Qc (c := [O 2]) (Qe Z Z) Qi) (fun _ => by kernel_rfl) ?_
 intro h aT o
 refine G ?_
 refine Exec.buildSlice (Te := 3) (cs := [O 0]) o Z (Qc (c := [O 0]) (Qe Z Z) Qi) (fun _ => by kernel_rfl) ?_
 intro i aU p
 refine G ?_
 refine Exec.build Z (Qc (c := [O 0]) (Qe Z Z) (Qc (c := [O 1]) (Qe Z Z) Qi)) (v := Value.agg #[O 0, O 1]) (fun _ => by kernel_rfl) (G ?_)
 refine Exec.buildSlice (Te := 36) (cs := [O 0, O 1]) p Z (Qc (c := [O 0, O 1]) (Qe Z Z) Qi) (fun _ => by kernel_rfl) ?_
 intro j aV q
 refine G ?_
 refine Exec.build Z (Qc (c := [O 0]) (Qe Z Z) (Qc (c := [O 1]) (Qe Z Z) Qi)) (v := Value.agg #[Vn, O 0, O 1]) (fun _ => by kernel_rfl) (G ?_)
 refine Exec.buildSlice (Te := 34) (cs := [Vn, O 0, O 1]) q Z (Qc (c := [Vn, O 0, O 1]) (Qe Z Z) Qi) (fun _ => by kernel_rfl) ?_
 intro b aW t
 refine G ?_
 refine Exec.build Z (Qc (c := [O 2]) (Qe Z Z) (Qc (c := [Vs (some ⟨b, 0, none⟩) 1 1]) (Qe Z Z) Qi)) (v := Value.agg #[Value.string (⟨#[]⟩), O 2, Vn, Vs (some ⟨b, 0, none⟩) 1 1]) (fun _ => by kernel_rfl) ?_
 have u := St.boxArr (E := encEffect) (xs := [(⟨[], 0, 1⟩ : Effect)]) t ⟨[Vn, O 0, O 1], [], rfl, ⟨[Vn], [O 0, O 1], rfl, ⟨_, rfl, (SliceRep.nil _ _)⟩, ⟨[O 0], [O 1], rfl, rfl, rfl⟩⟩, rfl⟩ (by simp [maxLen])
 obtain ⟨aK, a8, x, ar⟩ := u.freezeArr
 refine G ?_
 refine Exec.buildSlice (Te := 32) (cs := [Value.string (⟨#[]⟩), O 2, Vn, Vs (some ⟨b, 0, none⟩) 1 1]) x Z (Qc (c := [Value.string (⟨#[]⟩), O 2, Vn, Vs (some ⟨b, 0, none⟩) 1 1]) (Qe Z Z) Qi) (fun _ => by kernel_rfl) ?_
 intro k aX y
 refine G ?_
 refine Exec.build Z (Qc (c := [Vs (some ⟨h, 0, none⟩) 1 1]) (Qe Z Z) (Qc (c := [Vs (some ⟨i, 0, none⟩) 1 1]) (Qe Z Z) (Qc (c := [Vs (some ⟨j, 0, none⟩) 1 1]) (Qe Z Z) (Qc (c := [Vs (some ⟨k, 0, none⟩) 1 1]) (Qe Z Z) Qi)))) (v := Value.agg #[Vs (some ⟨h, 0, none⟩) 1 1, Vs (some ⟨i, 0, none⟩) 1 1, Vs (some ⟨j, 0, none⟩) 1 1, Vs (some ⟨k, 0, none⟩) 1 1]) (fun _ => by kernel_rfl) (G ?_)
 refine Exec.alloc (cs := [Vn, Vn, Vn, Vn]) y Z26 Z Z ?_
 intro a0 aY a4
 refine G ?_
 refine KJ Z Z Z ?_
 intro aZ z
 refine G ?_
 have aa := St.boxArr (E := (U .i64)) (xs := [2]) z.f4 ⟨[O 2], [], rfl, rfl, rfl⟩ (by simp [maxLen])
 obtain ⟨aL, a9, ab, aH⟩ := aa.freezeArr
 have ac := St.boxArr (E := (U .i64)) (xs := [0]) ab.f3 ⟨[O 0], [], rfl, rfl, rfl⟩ (by simp [maxLen])
 obtain ⟨aM, aA, ad, aI⟩ := ac.freezeArr
 have ae := St.boxArr (E := encFact) (xs := [(⟨0, 1⟩ : Fact)]) ad.f2 ⟨[O 0, O 1], [], rfl, ⟨[O 0], [O 1], rfl, rfl, rfl⟩, rfl⟩ (by simp [maxLen])
 obtain ⟨aN, aB, af, aJ⟩ := ae.freezeArr
 have ag := St.boxArr (E := encOp) (xs := [(⟨⟨#[]⟩, 2, [], [(⟨[], 0, 1⟩ : Effect)]⟩ : Op)]) af.f1 (reps.mono lq ⟨[Value.string (⟨#[]⟩), O 2, Vn, Vs (some ⟨b, 0, none⟩) 1 1], [], rfl, ⟨[Value.string (⟨#[]⟩)], [O 2, Vn, Vs (some ⟨b, 0, none⟩) 1 1], rfl, rfl, ⟨[O 2], [Vn, Vs (some ⟨b, 0, none⟩) 1 1], rfl, rfl, ⟨[Vn], [Vs (some ⟨b, 0, none⟩) 1 1], rfl, ⟨_, rfl, (SliceRep.nil _ _)⟩, ⟨_, rfl, ar⟩⟩⟩⟩, rfl⟩) (by simp [maxLen])
 obtain ⟨aO, aC, ah, au⟩ := ag.freezeArr
 obtain ⟨ax, ao, hm⟩ := V hm
 obtain ⟨bg, bh⟩ := ax
 replace hm := Q7 hm
 refine G ?_
 refine Tc Z Z Z Z (QfV ao ah rq rq rq au).r ?_
 rintro _ ba ⟨aP, aS, aD, ai, rfl, av⟩
 refine G ?_
 refine Exec.alloc (cs := [O 0, Vn]) ai QpA Z Z ?_
 intro a1 bb a5
 refine G ?_
 refine KJ Z Z Z ?_
 intro bc aj
 obtain ⟨ay, ap, hm⟩ := V hm
 obtain ⟨bi, bj⟩ := ay
 replace hm := Q7 hm
 refine G ?_
 refine Tc Z Z Z Z (QdU ap aj av).r ?_
 rintro _ bd ⟨aw, aE, ak, rfl⟩
 obtain ⟨d, a, hm⟩ := V hm
 refine g ?_
 refine Zc (Qp (M := fun f' w' => (fun (d : Bool) => ∃ (m : PHeap) , PHeap.le aw m ∧ St w0 m (H) w' ∧ Fx f' [(0, Vb d)]) d) ?_ ?_)
 ·refine G ?_
  refine Jl (T := 52) Tryz.underlying39 Z Z Z (G ?_)
  rcases Qs a with ⟨al, a⟩ | ⟨al, a⟩
  ·refine G ?_
   refine Jl (T := 52) Tryz.underlying39 Z Z Z (G ?_)
   rcases Qs a with ⟨am, a⟩ | ⟨am, a⟩
   ·refine G ?_
    rcases Qs a with ⟨an, a⟩ | ⟨an, a⟩
    ·obtain ⟨bk, aq, a⟩ := V a
     refine G ?_
     refine Tc Z Z Z Z (Qfq aq ak rq rq rq rq rq).r ?_
     rintro _ be ⟨aQ, aF, a6, rfl⟩
     refine G ?_
     refine Jl (T := 52) Tryz.underlying39 Z Z Z ?_
     cases a
     refine G ?_
     exact fq
    cases a
    refine G ?_
    exact fq
   cases a
   refine G ?_
   exact fq
  cases a
  refine G ?_
  exact fq
 intro a2 bf n
 obtain ⟨aR, aG, a7, ⟨a3, rfl⟩⟩ := n
 cases hm
 refine G ?_
 exact fr
theorem QbM {w0 w : World} {s : PHeap} {H : List Res} {r : Bool} (hm : Jv = some r) (hS : St w0 s (H) w) :
  Calls Tryz.prog 15 #[] w fun e w' => ∃ v, e = .returned v ∧ ((fun (aA : Bool) => ∃ (m : PHeap) , PHeap.le s m ∧ St w0 m (H) w' ∧ v = Value.bool (aA)) r) := by
 unfold Jv at hm
 refine Qd Tryz.func15 Z Z (G ?_)
 refine Exec.buildSlice (Te := 3) (cs := [O 2]) hS Z (Qc (c := [O 2]) (Qe Z Z) Qi) (fun _ => by kernel_rfl) ?_
 intro i b0 p
 refine G ?_
 refine Exec.buildSlice (Te := 3) (cs := [O 0]) p Z (Qc (c := [O 0]) (Qe Z Z) Qi) (fun _ => by kernel_rfl) ?_
 intro j b1 q
 refine G ?_
 refine Exec.build Z (Qc (c := [O 0]) (Qe Z Z) (Qc (c := [O 1]) (Qe Z Z) Qi)) (v := Value.agg #[O 0, O 1]) (fun _ => by kernel_rfl) (G ?_)
 refine Exec.buildSlice (Te := 36) (cs := [O 0, O 1]) q Z (Qc (c := [O 0, O 1]) (Qe Z Z) Qi) (fun _ => by kernel_rfl) ?_
 intro k b2 t
 refine G ?_
 refine Exec.build Z (Qc (c := [O 0]) (Qe Z Z) (Qc (c := [O 1]) (Qe Z Z) Qi)) (v := Value.agg #[Vn, O 0, O 1]) (fun _ => by kernel_rfl) (G ?_)
 refine Exec.buildSlice (Te := 34) (cs := [Vn, O 0, O 1]) t Z (Qc (c := [Vn, O 0, O 1]) (Qe Z Z) Qi) (fun _ => by kernel_rfl) ?_
 intro b b3 u
 refine G ?_
 refine Exec.build Z (Qc (c := [O 2]) (Qe Z Z) (Qc (c := [Vs (some ⟨b, 0, none⟩) 1 1]) (Qe Z Z) Qi)) (v := Value.agg #[Value.string (⟨#[]⟩), O 2, Vn, Vs (some ⟨b, 0, none⟩) 1 1]) (fun _ => by kernel_rfl) ?_
 have x := St.boxArr (E := encEffect) (xs := [(⟨[], 0, 1⟩ : Effect)]) u ⟨[Vn, O 0, O 1], [], rfl, ⟨[Vn], [O 0, O 1], rfl, ⟨_, rfl, (SliceRep.nil _ _)⟩, ⟨[O 0], [O 1], rfl, rfl, rfl⟩⟩, rfl⟩ (by simp [maxLen])
 obtain ⟨bf, aM, y, a0⟩ := x.freezeArr
 refine G ?_
 refine Exec.buildSlice (Te := 32) (cs := [Value.string (⟨#[]⟩), O 2, Vn, Vs (some ⟨b, 0, none⟩) 1 1]) y Z (Qc (c := [Value.string (⟨#[]⟩), O 2, Vn, Vs (some ⟨b, 0, none⟩) 1 1]) (Qe Z Z) Qi) (fun _ => by kernel_rfl) ?_
 intro l b4 z
 refine G ?_
 refine Exec.build Z (Qc (c := [Vs (some ⟨i, 0, none⟩) 1 1]) (Qe Z Z) (Qc (c := [Vs (some ⟨j, 0, none⟩) 1 1]) (Qe Z Z) (Qc (c := [Vs (some ⟨k, 0, none⟩) 1 1]) (Qe Z Z) (Qc (c := [Vs (some ⟨l, 0, none⟩) 1 1]) (Qe Z Z) Qi)))) (v := Value.agg #[Vs (some ⟨i, 0, none⟩) 1 1, Vs (some ⟨j, 0, none⟩) 1 1, Vs (some ⟨k, 0, none⟩) 1 1, Vs (some ⟨l, 0, none⟩) 1 1]) (fun _ => by kernel_rfl) (G ?_)
 refine Exec.alloc (cs := [Vn, Vn, Vn, Vn]) z Z26 Z Z ?_
 intro aC b5 aI
 refine G ?_
 refine KJ Z Z Z ?_
 intro b6 aa
 refine G ?_
 refine Exec.buildSlice (Te := 3) (cs := [O 0]) aa Z (Qc (c := [O 0]) (Qe Z Z) Qi) (fun _ => by kernel_rfl) ?_
 intro aD b7 ab
 have ac := St.boxArr (E := (U .i64)) (xs := [2]) ab.f5 ⟨[O 2], [], rfl, rfl, rfl⟩ (by simp [maxLen])
 obtain ⟨bg, aN, ad, ba⟩ := ac.freezeArr
 have ae := St.boxArr (E := (U .i64)) (xs := [0]) ad.f4 ⟨[O 0], [], rfl, rfl, rfl⟩ (by simp [maxLen])
 obtain ⟨bh, aO, af, bb⟩ := ae.freezeArr
 have ag := St.boxArr (E := encFact) (xs := [(⟨0, 1⟩ : Fact)]) af.f3 ⟨[O 0, O 1], [], rfl, ⟨[O 0], [O 1], rfl, rfl, rfl⟩, rfl⟩ (by simp [maxLen])
 obtain ⟨bi, aP, ah, bc⟩ := ag.freezeArr
 have ai := St.boxArr (E := encOp) (xs := [(⟨⟨#[]⟩, 2, [], [(⟨[], 0, 1⟩ : Effect)]⟩ : Op)]) ah.f2 (reps.mono lq ⟨[Value.string (⟨#[]⟩), O 2, Vn, Vs (some ⟨b, 0, none⟩) 1 1], [], rfl, ⟨[Value.string (⟨#[]⟩)], [O 2, Vn, Vs (some ⟨b, 0, none⟩) 1 1], rfl, rfl, ⟨[O 2], [Vn, Vs (some ⟨b, 0, none⟩) 1 1], rfl, rfl, ⟨[Vn], [Vs (some ⟨b, 0, none⟩) 1 1], rfl, ⟨_, rfl, (SliceRep.nil _ _)⟩, ⟨_, rfl, a0⟩⟩⟩⟩, rfl⟩) (by simp [maxLen])
 obtain ⟨bj, aQ, aj, bd⟩ := ai.freezeArr
 have ak := St.boxArr (E := (U .i64)) (xs := [0]) aj ⟨[O 0], [], rfl, rfl, rfl⟩ (by simp [maxLen])
 obtain ⟨bk, aR, al, a1⟩ := ak.freezeArr
 obtain ⟨a8, aw, hm⟩ := V hm
 obtain ⟨aZ, bE⟩ := a8
 replace hm := Q7 hm
 refine G ?_
 refine Tc Z Z Z Z (Qdi aw al rq rq rq rq a1 (SliceRep.nil _ _)).r ?_
 rintro _ b8 av
 rcases av with ⟨aF, rfl, a7, bs, bt, bu, bv, a9, bw, bx, aS, am, rfl, a2, a3, a4, a5⟩ | ⟨rfl, bl, aT, aJ, rfl⟩
 ·replace hm := Qc1 hm
  obtain ⟨br, d, hm⟩ := V hm
  obtain ⟨h, a, hm⟩ := V hm
  refine g ?_
  refine Zc (Qp (M := fun f' w' => (fun (h : Bool) => ∃ (n : PHeap) , PHeap.le a7 n ∧ St w0 n (H) w' ∧ Fx f' [(0, Vb h)]) h) ?_ ?_)
  ·refine G ?_
   refine Jl (T := 52) Tryz.underlying39 Z Z Z (G ?_)
   refine JO Z (Zf Z (Zx (Ql d))) Z (Zm (v := Vq a9) Z Z ?_)
   obtain ⟨bF, ax, a⟩ := V a
   refine JO Z (Zf Z (Zx (Ql d))) Z (Tc Z Z Z (Zi Z Qw) (QdP ax ((am.f2).f2).f2 a2 a3 a4 a5).r ?_)
   rintro bz b9 ⟨bm, _, aU, an, rfl, be⟩
   refine JO Z (Zf Z (Zx (Ql d))) Z (Exec.buildSlice (Te := 3) (cs := [O 2, O 0]) an Z (Qc (c := [O 2]) (Qe Z Z) (Qc (c := [O 0]) (Qe Z Z) Qi)) (fun _ => by kernel_rfl) ?_)
   intro aE bA ao
   have ap := St.boxArr (E := (U .i64)) (xs := [2, 0]) ao ⟨[O 2], [O 0], rfl, rfl, ⟨[O 0], [], rfl, rfl, rfl⟩⟩ (by simp [maxLen])
   obtain ⟨bn, aV, aq, a6⟩ := ap.freezeArr
   obtain ⟨aB, ay, a⟩ := V a
   refine JO Z (Zf Z (Zx (Ql d))) Z (Tc Z Z Z Z (Qi4 ay aq rq a6).r ?_)
   rintro _ bB ⟨bo, aW, ar, rfl⟩
   refine G ?_
   refine Zs (v := Vb aB) Z (Zx (Ql d)) Z (G ?_)
   rcases Qs a with ⟨au, a⟩ | ⟨au, a⟩
   ·obtain ⟨bG, az, a⟩ := V a
    refine G ?_
    refine Tc Z Z Z Qw (Qcf az ar).r ?_
    rintro _ bC ⟨bp, aX, aK, rfl⟩
    cases a
    refine G ?_
    exact fq
   cases a
   refine G ?_
   exact fq
  intro aG bD o
  obtain ⟨bq, aY, aL, ⟨aH, rfl⟩⟩ := o
  cases hm
  refine G ?_
  exact fr
 replace hm := Qc2 hm
 cases hm
theorem Y4 {w0 w : World} {s : PHeap} {H : List Res} {r : Bool} (hm : Jb = some r) (hS : St w0 s (H) w) :
  Calls Tryz.prog 5 #[] w fun e w' => ∃ v, e = .returned v ∧ ((fun (a7 : Bool) => ∃ (m : PHeap) , PHeap.le s m ∧ St w0 m (H) w' ∧ v = Value.bool (a7)) r) := by
 unfold Jb at hm
 refine Qd Tryz.func5 Z Z (G ?_)
 refine Exec.buildSlice (Te := 3) (cs := [O 2]) hS Z (Qc (c := [O 2]) (Qe Z Z) Qi) (fun _ => by kernel_rfl) ?_
 intro i br q
 refine G ?_
 refine Exec.buildSlice (Te := 3) (cs := [O 0]) q Z (Qc (c := [O 0]) (Qe Z Z) Qi) (fun _ => by kernel_rfl) ?_
 intro j bs t
 refine G ?_
 refine Exec.build Z (Qc (c := [O 0]) (Qe Z Z) (Qc (c := [O 1]) (Qe Z Z) Qi)) (v := Value.agg #[O 0, O 1]) (fun _ => by kernel_rfl) (G ?_)
 refine Exec.buildSlice (Te := 36) (cs := [O 0, O 1]) t Z (Qc (c := [O 0, O 1]) (Qe Z Z) Qi) (fun _ => by kernel_rfl) ?_
 intro k bt u
 refine G ?_
 refine Exec.build Z (Qc (c := [O 0]) (Qe Z Z) (Qc (c := [O 1]) (Qe Z Z) Qi)) (v := Value.agg #[Vn, O 0, O 1]) (fun _ => by kernel_rfl) (G ?_)
 refine Exec.buildSlice (Te := 34) (cs := [Vn, O 0, O 1]) u Z (Qc (c := [Vn, O 0, O 1]) (Qe Z Z) Qi) (fun _ => by kernel_rfl) ?_
 intro b bu x
 refine G ?_
 refine Exec.build Z (Qc (c := [O 2]) (Qe Z Z) (Qc (c := [Vs (some ⟨b, 0, none⟩) 1 1]) (Qe Z Z) Qi)) (v := Value.agg #[Value.string (⟨#[]⟩), O 2, Vn, Vs (some ⟨b, 0, none⟩) 1 1]) (fun _ => by kernel_rfl) ?_
 have y := St.boxArr (E := encEffect) (xs := [(⟨[], 0, 1⟩ : Effect)]) x ⟨[Vn, O 0, O 1], [], rfl, ⟨[Vn], [O 0, O 1], rfl, ⟨_, rfl, (SliceRep.nil _ _)⟩, ⟨[O 0], [O 1], rfl, rfl, rfl⟩⟩, rfl⟩ (by simp [maxLen])
 obtain ⟨bb, aI, z, a1⟩ := y.freezeArr
 refine G ?_
 refine Exec.buildSlice (Te := 32) (cs := [Value.string (⟨#[]⟩), O 2, Vn, Vs (some ⟨b, 0, none⟩) 1 1]) z Z (Qc (c := [Value.string (⟨#[]⟩), O 2, Vn, Vs (some ⟨b, 0, none⟩) 1 1]) (Qe Z Z) Qi) (fun _ => by kernel_rfl) ?_
 intro l bv aa
 refine G ?_
 refine Exec.build Z (Qc (c := [Vs (some ⟨i, 0, none⟩) 1 1]) (Qe Z Z) (Qc (c := [Vs (some ⟨j, 0, none⟩) 1 1]) (Qe Z Z) (Qc (c := [Vs (some ⟨k, 0, none⟩) 1 1]) (Qe Z Z) (Qc (c := [Vs (some ⟨l, 0, none⟩) 1 1]) (Qe Z Z) Qi)))) (v := Value.agg #[Vs (some ⟨i, 0, none⟩) 1 1, Vs (some ⟨j, 0, none⟩) 1 1, Vs (some ⟨k, 0, none⟩) 1 1, Vs (some ⟨l, 0, none⟩) 1 1]) (fun _ => by kernel_rfl) (G ?_)
 refine Exec.alloc (cs := [Vn, Vn, Vn, Vn]) aa Z26 Z Z ?_
 intro a9 bw aE
 refine G ?_
 refine KJ Z Z Z ?_
 intro bx ab
 refine G ?_
 refine Exec.buildSlice (Te := 3) (cs := [O 0]) ab Z (Qc (c := [O 0]) (Qe Z Z) Qi) (fun _ => by kernel_rfl) ?_
 intro aA bz ac
 have ad := St.boxArr (E := (U .i64)) (xs := [2]) ac.f5 ⟨[O 2], [], rfl, rfl, rfl⟩ (by simp [maxLen])
 obtain ⟨bc, aJ, ae, aW⟩ := ad.freezeArr
 have af := St.boxArr (E := (U .i64)) (xs := [0]) ae.f4 ⟨[O 0], [], rfl, rfl, rfl⟩ (by simp [maxLen])
 obtain ⟨bd, aK, ag, aX⟩ := af.freezeArr
 have ah := St.boxArr (E := encFact) (xs := [(⟨0, 1⟩ : Fact)]) ag.f3 ⟨[O 0, O 1], [], rfl, ⟨[O 0], [O 1], rfl, rfl, rfl⟩, rfl⟩ (by simp [maxLen])
 obtain ⟨be, aL, ai, aY⟩ := ah.freezeArr
 have aj := St.boxArr (E := encOp) (xs := [(⟨⟨#[]⟩, 2, [], [(⟨[], 0, 1⟩ : Effect)]⟩ : Op)]) ai.f2 (reps.mono lq ⟨[Value.string (⟨#[]⟩), O 2, Vn, Vs (some ⟨b, 0, none⟩) 1 1], [], rfl, ⟨[Value.string (⟨#[]⟩)], [O 2, Vn, Vs (some ⟨b, 0, none⟩) 1 1], rfl, rfl, ⟨[O 2], [Vn, Vs (some ⟨b, 0, none⟩) 1 1], rfl, rfl, ⟨[Vn], [Vs (some ⟨b, 0, none⟩) 1 1], rfl, ⟨_, rfl, (SliceRep.nil _ _)⟩, ⟨_, rfl, a1⟩⟩⟩⟩, rfl⟩) (by simp [maxLen])
 obtain ⟨bf, aM, ak, aZ⟩ := aj.freezeArr
 have al := St.boxArr (E := (U .i64)) (xs := [0]) ak ⟨[O 0], [], rfl, rfl, rfl⟩ (by simp [maxLen])
 obtain ⟨bg, aN, am, a2⟩ := al.freezeArr
 obtain ⟨a5, ay, hm⟩ := V hm
 obtain ⟨aV, b6⟩ := a5
 replace hm := Q7 hm
 refine G ?_
 refine Tc Z Z Z Z (YU ay am rq rq rq rq a2).r ?_
 rintro _ b0 ax
 rcases ax with ⟨o, rfl, a4, bo, a6, bp, bq, aO, an, rfl, ba⟩ | ⟨rfl, bh, aP, aF, rfl⟩
 ·replace hm := Qc1 hm
  obtain ⟨bn, d, hm⟩ := V hm
  obtain ⟨h, a, hm⟩ := V hm
  refine g ?_
  refine Zc (Qp (M := fun f' w' => (fun (h : Bool) => ∃ (n : PHeap) , PHeap.le a4 n ∧ St w0 n (H) w' ∧ Fx f' [(0, Vb h)]) h) ?_ ?_)
  ·refine G ?_
   refine Jl (T := 52) Tryz.underlying39 Z Z Z (G ?_)
   refine JO Z (Zf Z (Zx (Ql d))) Z (Zm (v := Vq a6) Z Z (JO Z (Zf Z (Zx (Ql d))) Z (Exec.buildSlice (Te := 3) (cs := [O 0]) an Z (Qc (c := [O 0]) (Qe Z Z) Qi) (fun _ => by kernel_rfl) ?_)))
   intro aB b1 ao
   have ap := St.boxArr (E := (U .i64)) (xs := [0]) ao ⟨[O 0], [], rfl, rfl, rfl⟩ (by simp [maxLen])
   obtain ⟨bi, aQ, aq, a3⟩ := ap.freezeArr
   obtain ⟨a8, az, a⟩ := V a
   refine JO Z (Zf Z (Zx (Ql d))) Z (Tc Z Z Z (Zi Z (Zi Z Qw)) (Q4 az ((aq.f2).f2).f2 rq a3).r ?_)
   rintro _ b2 ⟨bj, aR, ar, rfl⟩
   refine JO Z (Zf Z (Zx (Ql d))) Z (Exec.eql Z Z Z (G ?_))
   refine Zs (v := Vb (decide (a8 = 2))) Z (Zx (Ql d)) Z (G ?_)
   rcases Qs a with ⟨av, a⟩ | ⟨av, a⟩
   ·refine G ?_
    refine Tc Z Z Z (Zi Z Qw) (QY (QJ o) ((ar.f2).f2).f2 rq).r ?_
    rintro _ b3 ⟨bk, aS, au, rfl⟩
    refine G ?_
    rcases Qs a with ⟨aw, a⟩ | ⟨aw, a⟩
    ·obtain ⟨b7, a0, a⟩ := V a
     refine G ?_
     refine Tc Z Z Z Qw (QbM a0 au).r ?_
     rintro _ b4 ⟨bl, aT, aG, rfl⟩
     cases a
     refine G ?_
     exact fq
    cases a
    refine G ?_
    exact fq
   cases a
   refine G ?_
   exact fq
  intro aC b5 p
  obtain ⟨bm, aU, aH, ⟨aD, rfl⟩⟩ := p
  cases hm
  refine G ?_
  exact fr
 replace hm := Qc2 hm
 cases hm
theorem QaG {w0 w : World} {s : PHeap} {H : List Res} {m : (List Int)} {j : Value} {r : (List (List Int))} (hm : KH m = some r) (hS : St w0 s (H) w) (aW : SliceRep (U .i64) s j m) :
  Calls Tryz.prog 9 #[j] w fun e w' => ∃ v, e = .returned v ∧ ((fun (aV : (List (List Int))) => ∃ (z : PHeap) (ai : Value), PHeap.le s z ∧ St w0 z (H) w' ∧ v = ai ∧ SliceRep (Qm (U .i64)) z ai aV) r) := by
 unfold KH at hm
 refine Qd Tryz.func9 Z Z (G ?_)
 refine Exec.buildSlice (Te := 3) (cs := []) hS Z Qi (fun _ => by kernel_rfl) ?_
 intro t bL av
 have aw := St.boxArr (E := (U .i64)) (xs := []) av rfl (by simp [maxLen])
 obtain ⟨aM, bx, ax, aL⟩ := aw.freezeArr
 refine G ?_
 refine Exec.buildSlice (Te := 22) (cs := [Vs (some ⟨t, 0, none⟩) 0 0]) ax Z (Qc (c := [Vs (some ⟨t, 0, none⟩) 0 0]) (Qe Z Z) Qi) (fun _ => by kernel_rfl) ?_
 intro aX bM ay
 obtain ⟨g, ak, hm⟩ := V hm
 refine G ?_
 refine QO (fun k' s' f' w' => (fun (g : (List (List Int))) => ∃ (af : PHeap) (a : Value), PHeap.le aM af ∧ St w0 af (Res.arr (Qm (U .i64)) 22 a g :: H) w' ∧ Fx f' [(14, O (k' : Int)), (3, a), (12, j), (13, O ((m.length : Int)))]) s') ak ?_ ?_ ?_
 ·have br := St.boxArr (E := (Qm (U .i64))) (xs := [[]]) ay ⟨[Vs (some ⟨t, 0, none⟩) 0 0], [], rfl, ⟨_, rfl, aL⟩, rfl⟩ (by simp [maxLen])
  exact fq
 ·intro ad g bC be bN bw an i
  obtain ⟨aN, a, bz, n, ⟨bf, rfl⟩⟩ := an
  obtain ⟨ab, aE, i⟩ := V i
  refine G ?_
  refine Jk Z Z Z aE ?_
  intro aY b9 aj
  refine G ?_
  refine Zw (E := (U .i64)) n A3.h Z Z Z aj ?_
  intro bJ aF
  obtain rfl := Qg.1 aF
  refine G ?_
  refine Q0 (n) S46.h Z Z ?_
  obtain ⟨y, al, i⟩ := V i
  refine G ?_
  refine QO (fun k' s' f' w' => (fun (y : (List (List Int))) => ∃ (ag : PHeap) (q : Value), PHeap.le aN ag ∧ St w0 ag (Res.arr (Qm (U .i64)) 22 q y :: Res.arr (Qm (U .i64)) 22 a g :: H) w' ∧ Fx f' [(20, O (k' : Int)), (5, O ab), (6, q), (12, j), (13, O ((m.length : Int))), (14, O ((ad : Int))), (18, a), (19, O ((g.length : Int)))]) s') al ?_ ?_ ?_
  ·have bs := n.nilArr (Qm (U .i64)) 22
   exact fq
  ·intro aC y aO bg bO aA ao b
   obtain ⟨aP, q, b0, u, ⟨bh, rfl⟩⟩ := ao
   obtain ⟨aU, p, b⟩ := V b
   obtain ⟨bq, bc, ac⟩ := (u.f1).arr_at p
   refine G ?_
   refine Qa S46.h Z ac Z (Qb p).1 (Qb p).2.1 (G ?_)
   refine Qf (F := (Qm (U .i64))) (u.f1) ac A22.h Z Z Z p (Sub.refl _) ?_
   intro aS aG
   have bA := QH.1 aG
   obtain ⟨bI, aH, b⟩ := V b
   obtain ⟨x, am, b⟩ := V b
   refine G ?_
   refine QO (fun k' s' f' w' => (fun (x : (List (List Int))) => ∃ (ah : PHeap) (l : Value), PHeap.le aP ah ∧ St w0 ah (Res.arr (Qm (U .i64)) 22 l x :: Res.arr (Qm (U .i64)) 22 a g :: H) w' ∧ Fx f' [(25, O (k' : Int)), (5, O ab), (6, l), (8, aS), (12, j), (13, O ((m.length : Int))), (14, O ((ad : Int))), (18, a), (19, O ((g.length : Int))), (20, O ((aC : Int))), (24, O ab)]) s') am ?_ ?_ ?_
   ·have bt := u.f1
    exact fq
   ·intro o x bD bi bP aB ap d
    obtain ⟨bE, l, b1, az, ⟨bj, rfl⟩⟩ := ap
    refine G ?_
    refine Exec.buildSlice (Te := 3) (cs := []) az Z Qi (fun _ => by kernel_rfl) ?_
    intro aZ bQ a0
    refine G ?_
    have a1 := St.boxArr (E := (U .i64)) (xs := []) a0 rfl (by simp [maxLen])
    obtain ⟨b2, aI, d⟩ := V d
    refine G ?_
    refine QaI (E := (U .i64)) (ys := aU) a1 S22.h Z3 Z (by decide) Z Z Z rq aI ?_
    intro bK bR a2
    refine G ?_
    refine Exec.buildSlice (Te := 3) (cs := [O ((o : Int))]) a2 Z (Qc (c := [O ((o : Int))]) (Qe Z Z) Qi) (fun _ => by kernel_rfl) ?_
    intro ba bS a3
    obtain ⟨aD, aJ, d⟩ := V d
    refine G ?_
    refine Q5 (E := (U .i64)) (ys := [(o : Int)]) a3.f1 S22.h Z3 Z (by decide) Z Z Z Z ⟨[O ((o : Int))], [], Z, Z, Z⟩ Z aJ ?_
    intro aa bT a4
    obtain ⟨aQ, b3, a5, ae⟩ := a4.freezeArr
    refine G ?_
    refine Exec.buildSlice (Te := 22) (cs := [aa]) a5 Z (Qc (c := [aa]) (Qe Z (Qz ae.one)) Qi) (fun _ => by kernel_rfl) ?_
    intro bb bU a6
    obtain ⟨b4, aK, d⟩ := V d
    refine G ?_
    refine Q5 (E := (Qm (U .i64))) (ys := [aD]) a6.f1 S46.h Z22 Z (by decide) Z Z Z Z ⟨[aa], [], Z, ⟨_, Z, ae⟩, Z⟩ Z aK ?_
    intro aT bV a7
    cases d
    refine G ?_
    exact ⟨aQ, aT, lq, (a7.f1).f1, (Fx.mk (FxL.cons (QM aB (by have h := Ql aH; simp at h; simp only [maxLen]; omega)) fxl))⟩
   intro bk bW aq
   obtain ⟨aR, l, b5, a8, ⟨bl, rfl⟩⟩ := aq
   have bd := Zu b
   subst aO
   refine G ?_
   exact ⟨aR, l, lq, (a8.f1).f1, (Fx.mk (FxL.cons (QM aA n.arr_le) fxl))⟩
  intro bm bX ar
  obtain ⟨bF, q, b6, bu, ⟨bn, rfl⟩⟩ := ar
  cases i
  refine G ?_
  exact fq
 intro bo bY au
 obtain ⟨bG, a, b7, a9, ⟨bp, rfl⟩⟩ := au
 cases hm
 refine G ?_
 refine ⟨_, KR Z, ?_⟩
 obtain ⟨bH, b8, bv, bB⟩ := a9.freezeArr
 exact fq
theorem QcI {w0 w : World} {s : PHeap} {H : List Res} {c : (List Fact)} {u : (List Int)} {d : Value} {i : Value} {r : Bool} (hm : Y7 c u = some r) (hS : St w0 s (H) w) (a0 : SliceRep encFact s d c) (x : SliceRep (U .i64) s i u) :
  Calls Tryz.prog 28 #[d, i] w fun e w' => ∃ v, e = .returned v ∧ ((fun (az : Bool) => ∃ (o : PHeap) , PHeap.le s o ∧ St w0 o (H) w' ∧ v = Value.bool (az)) r) := by
 unfold Y7 at hm
 refine Qd Tryz.func28 Z Z ?_
 obtain ⟨l, aa, an, al, ah⟩ := Qr hm
 refine Zc (Zd (g ?_))
 refine Zc (Zc (Zd (g ?_)))
 refine Qp (M := fun f' w' => ∃ s', (l = .next s' ∨ l = .brk s') ∧ (fun (_ : Unit) => ∃ (p : PHeap) , PHeap.le s p ∧ St w0 p (H) w' ∧ Fx f' [(1, i), (7, d), (8, O ((c.length : Int)))]) s') ?_ ?_
 ·refine G ?_
  refine QF (fun k' s' f' w' => (fun (_ : Unit) => ∃ (q : PHeap) , PHeap.le s q ∧ St w0 q (H) w' ∧ Fx f' [(9, O (k' : Int)), (1, i), (7, d), (8, O ((c.length : Int)))]) s') aa ?_ ?_ ?_
  ·exact fq
  ·intro aq aR a4 a6 aW aI ab b ao
   obtain ⟨ay, ar, m, ⟨a7, rfl⟩⟩ := ab
   obtain ⟨bc, au, b⟩ := V b
   refine G ?_
   refine Jk Z Z Z au ?_
   intro a1 aM y
   refine G ?_
   refine Zw (E := encFact) m A36.h Z Z Z y ?_
   intro aU av
   obtain rfl := JH.1 av
   refine G ?_
   refine Exec.alloc (cs := [O 0, O 0]) m Z36 Z Z ?_
   intro a2 aX aE
   refine G ?_
   refine KJ Z Z Z ?_
   intro aY af
   obtain ⟨j, a, b⟩ := V b
   refine g ?_
   refine Zc (Qp (M := fun f' w' => (fun (j : Bool) => ∃ (t : PHeap) , PHeap.le ay t ∧ St w0 t (H) w' ∧ Fx f' [(1, i), (7, d), (8, O ((c.length : Int))), (9, O ((aq : Int))), (32, Vb j)]) j) ?_ ?_)
   ·refine JE (n0 := 20) (qs 0 20 .done) JM (by kernel_rfl) (by kernel_rfl) ?_
    have ag := af.drew
    refine G ?_
    rcases Qs a with ⟨ai, a⟩ | ⟨ai, a⟩
    ·cases a
     refine G ?_
     exact fq
    refine G ?_
    rcases Qs a with ⟨aj, a⟩ | ⟨aj, a⟩
    ·cases a
     refine G ?_
     exact fq
    obtain ⟨bd, aw, a⟩ := V a
    refine G ?_
    refine Qy S22.h Z Z Z (x.mono ar) aw ?_
    intro a3 aN z a5
    refine ⟨Z, ?_⟩
    refine G ?_
    refine Zw (E := (U .i64)) ag A3.h Z Z Z z ?_
    intro aV ax
    obtain rfl := Qg.1 ax
    refine ⟨Z, ?_⟩
    cases a
    refine G ?_
    exact fq
   intro a8 aZ ad
   obtain ⟨aO, aJ, aF, ⟨a9, rfl⟩⟩ := ad
   refine G ?_
   rcases Qs b with ⟨ak, b⟩ | ⟨ak, b⟩
   ·cases b
    have am := an _ (ao (by intro _ h; cases h))
    cases am
    refine G ?_
    exact fr
   cases b
   refine G ?_
   exact ⟨_, Z, fq⟩
  intro aS aA ba ac ap
  obtain ⟨aP, aK, aG, ⟨aB, rfl⟩⟩ := ac
  refine G ?_
  exact ⟨_, .inl ap, fq⟩
 rintro aC bb ⟨aT, n, ae⟩
 have hm := n.elim (al _) (ah _)
 clear n
 obtain ⟨aQ, aL, aH, ⟨aD, rfl⟩⟩ := ae
 cases hm
 refine G ?_
 exact fr
theorem Qii {w0 w : World} {s : PHeap} {H : List Res} {d : Task} {q : (List Int)} {n : Int} {t : Value} {u : Value} {x : Value} {y : Value} {i : Value} {r : (List Int) × Bool} (hm : Qbq d q n = some r) (hS : St w0 s (H) w) (aN : SliceRep (U .i64) s t d.Vars) (aO : SliceRep (U .i64) s u d.Init) (aP : SliceRep encFact s x d.Goal) (aQ : SliceRep encOp s y d.Ops) (am : SliceRep (U .i64) s i q) :
  Calls Tryz.prog 61 #[Value.agg #[t, u, x, y], i, O n] w fun e w' => ∃ v, e = .returned v ∧ ((QI fun (aL : (List Int)) (aM : Bool) => ∃ (p : PHeap) (aj : Value), PHeap.le s p ∧ St w0 p (H) w' ∧ v = Value.tuple #[aj, Value.bool (aM)] ∧ SliceRep (U .i64) p aj aL) r) := by
 unfold Qbq at hm
 refine Qd Tryz.func61 Z Z (G ?_)
 refine Kq Z Z ?_
 intro aa bB ac
 obtain ⟨z, a, hm⟩ := V hm
 refine g ?_
 refine Zc (Zc (Qp (M := fun f' w' => (fun (z : Bool) => ∃ (ag : PHeap) , PHeap.le s ag ∧ St w0 ag (Res.box aa 26 [t, u, x, y] :: H) w' ∧ Fx f' [(1, i), (2, O n), (3, Vq aa), (30, Vb z)]) z) ?_ ?_))
 ·refine G ?_
  rcases Qs a with ⟨a2, a⟩ | ⟨a2, a⟩
  ·cases a
   refine G ?_
   exact fq
  refine G ?_
  rcases Qs a with ⟨a3, a⟩ | ⟨a3, a⟩
  ·cases a
   refine G ?_
   exact fq
  obtain ⟨bN, a7, a⟩ := V a
  refine G ?_
  refine Jk Z Z Z a7 ?_
  intro aR bw an
  refine G ?_
  refine Zw (E := (Qm encFact)) ac A23.h Z Z Z (an.sub (Sub.iso (QdF (QdF (QdG (Sub.refl _)) Z) Z)) Z) ?_
  intro b9 a8
  have aH := QH.1 a8
  obtain ⟨bQ, a9, a⟩ := V a
  refine G ?_
  refine Tc Z Z Z Z (QcI a9 ac aH am).r ?_
  rintro _ bC ⟨b2, bn, bg, rfl⟩
  cases a
  refine G ?_
  exact fq
 intro aX bD av
 obtain ⟨aJ, bo, ax, ⟨aY, rfl⟩⟩ := av
 refine G ?_
 rcases Qs hm with ⟨a4, hm⟩ | ⟨a4, hm⟩
 ·cases hm
  refine G ?_
  refine ⟨_, QaL Z, ?_⟩
  exact fq
 refine G ?_
 refine Exec.buildSlice (Te := 3) (cs := []) ax Z Qi (fun _ => by kernel_rfl) ?_
 intro aS bE ay
 refine G ?_
 have az := St.boxArr (E := (U .i64)) (xs := []) ay rfl (by simp [maxLen])
 obtain ⟨bp, aA, hm⟩ := V hm
 refine G ?_
 refine QaI (E := (U .i64)) (ys := q) az S22.h Z3 Z (by decide) Z Z Z rq aA ?_
 intro j bF ad
 obtain ⟨al, aB, hm⟩ := V hm
 refine G ?_
 refine Jk Z Z Z aB ?_
 intro aT bx ao
 refine G ?_
 refine Zw (E := (Qm encEffect)) ad A30.h Z Z Z (ao.sub (Sub.iso (QdF (QdF (QdF (Sub.refl _) Z) Z) Z)) Z) ?_
 intro ak aC
 have b0 := QH.1 aC
 obtain ⟨l, aq, hm⟩ := V hm
 refine G ?_
 refine QO (fun k' s' f' w' => (fun (l : (List Int)) => ∃ (ah : PHeap) , PHeap.le aJ ah ∧ St w0 ah (Res.arr (U .i64) 3 j l :: H) w' ∧ Fx f' [(41, O (k' : Int)), (1, i), (8, j), (39, ak), (40, O ((al.Effs.length : Int)))]) s') aq ?_ ?_ ?_
 ·have bh := (ad.f1).drop
  exact fq
 ·intro a6 l b3 aZ bG bm ar c
  obtain ⟨b4, bq, ae, ⟨ba, rfl⟩⟩ := ar
  obtain ⟨bO, aD, c⟩ := V c
  refine G ?_
  refine Jk Z Z Z aD ?_
  intro aU bz ap
  refine G ?_
  refine Zw (E := encEffect) ae A34.h Z Z Z ap ?_
  intro bA aE
  obtain ⟨b8, rfl, aI⟩ := KG.1 aE
  refine G ?_
  refine Exec.alloc (cs := [Vn, O 0, O 0]) ae Z34 Z Z ?_
  intro aV bH bi
  refine G ?_
  refine KJ Z Z Z ?_
  intro bI a0
  obtain ⟨bR, aF, c⟩ := V c
  refine G ?_
  refine Tc Z Z Z Z (QcI aF a0 aI rq).r ?_
  rintro _ bJ ⟨aK, br, af, rfl⟩
  obtain ⟨m, b, c⟩ := V c
  refine g ?_
  refine Qp (M := fun f' w' => (fun (m : (List Int)) => ∃ (ai : PHeap) , PHeap.le aK ai ∧ St w0 ai (Res.arr (U .i64) 3 j m :: H) w' ∧ Fx f' [(1, i), (8, j), (39, ak), (40, O ((al.Effs.length : Int))), (41, O ((a6 : Int)))]) m) ?_ ?_
  ·rcases Qs b with ⟨a5, b⟩ | ⟨a5, b⟩
   ·obtain ⟨bP, o, b⟩ := V b
    obtain ⟨bf, aW, ab⟩ := (af.f1).arr_at o
    refine G ?_
    refine Qa S22.h Z ab Z (Qb o).1 (Qb o).2.1 ?_
    obtain ⟨bs, aG, b⟩ := V b
    refine G ?_
    refine Qx af.f1 ab A3.h Z Z Z Z (Qg.2 Z) aG ?_
    intro bK bj
    cases b
    refine G ?_
    exact fq
   cases b
   refine G ?_
   exact fq
  intro bb bL aw
  obtain ⟨b5, bt, bk, ⟨bc, rfl⟩⟩ := aw
  cases c
  refine G ?_
  exact fq
 intro bd bM au
 obtain ⟨b6, bu, a1, ⟨be, rfl⟩⟩ := au
 cases hm
 refine G ?_
 refine ⟨_, QaL Z, ?_⟩
 obtain ⟨b7, bv, bl, b1⟩ := a1.freezeArr
 exact fq
theorem Qi2 {w0 w : World} {s : PHeap} {H : List Res} {o : (List Int)} {g : (List Int)} {i : Value} {j : Value} {r : Int} (hm : Qca o g = some r) (hS : St w0 s (H) w) (p : SliceRep (U .i64) s i o) (l : SliceRep (U .i64) s j g) :
  Calls Tryz.prog 62 #[i, j] w fun e w' => ∃ v, e = .returned v ∧ ((fun (af : Int) => ∃ (m : PHeap) , PHeap.le s m ∧ St w0 m (H) w' ∧ v = O af) r) := by
 unfold Qca at hm
 refine Qd Tryz.func62 Z Z ?_
 obtain ⟨d, u, hm⟩ := V hm
 refine G ?_
 refine QO (fun k' s' f' w' => (fun (d : Int) => ∃ (n : PHeap) , PHeap.le s n ∧ St w0 n (H) w' ∧ Fx f' [(9, O (k' : Int)), (0, i), (1, j), (5, O d), (8, O ((g.length : Int)))]) s') u ?_ ?_ ?_
 ·exact fq
 ·intro ap d av ak az z x a
  obtain ⟨ae, c, b, ⟨al, rfl⟩⟩ := x
  refine G ?_
  refine JE (n0 := 11) (qs 0 11 .done) JM (by kernel_rfl) (by kernel_rfl) ?_
  obtain ⟨a1, aa, a⟩ := V a
  refine G ?_
  refine Qy S22.h Z Z Z (p.mono c) aa ?_
  intro ag ar q ai
  refine ⟨Z, ?_⟩
  refine G ?_
  refine Zw (E := (U .i64)) b.drew A3.h Z Z Z q ?_
  intro ax ab
  obtain rfl := Qg.1 ab
  refine ⟨Z, ?_⟩
  obtain ⟨a2, ac, a⟩ := V a
  refine G ?_
  refine Qy S22.h Z Z Z (l.mono c) ac ?_
  intro ah au t aj
  refine ⟨Z, ?_⟩
  refine G ?_
  refine Zw (E := (U .i64)) b.drew A3.h Z Z Z t ?_
  intro ay ad
  obtain rfl := Qg.1 ad
  refine ⟨Z, ?_⟩
  cases a
  refine G ?_
  exact ⟨ae, c, b.drew, (Fx.mk (FxL.cons (QM z (SliceRep.le l)) fxl))⟩
 intro am a0 y
 obtain ⟨aw, aq, ao, ⟨an, rfl⟩⟩ := y
 cases hm
 refine G ?_
 exact fr
instance S78 : STy Tryz.prog 78 81 3 24 := ⟨by kernel_rfl⟩
theorem Z81 : Ji Tryz.prog 81 = some (Value.agg #[O 0, O 0, O 0]) := by kernel_rfl
theorem Qih {w0 w : World} {s : PHeap} {H : List Res} {l : Task} {o : Value} {p : Value} {q : Value} {t : Value} {r : (List base_Edge)} (hm : Qbp l = some r) (hS : St w0 s (H) w) (al : SliceRep (U .i64) s o l.Vars) (aG : SliceRep (U .i64) s p l.Init) (aH : SliceRep encFact s q l.Goal) (aI : SliceRep encOp s t l.Ops) :
  Calls Tryz.prog 29 #[Value.agg #[o, p, q, t]] w fun e w' => ∃ v, e = .returned v ∧ ((fun (aF : (List base_Edge)) => ∃ (ab : PHeap) (aj : Value), PHeap.le s ab ∧ St w0 ab (H) w' ∧ v = aj ∧ SliceRep encbase_Edge ab aj aF) r) := by
 unfold Qbp at hm
 refine Qd Tryz.func29 Z Z (G ?_)
 refine Kq Z Z ?_
 intro m b2 aw
 obtain ⟨ae, a4, hm⟩ := V hm
 refine G ?_
 refine Tc Z Z Z Z (QaG a4 aw al).r ?_
 rintro ac b3 ⟨aB, _, bd, ax, rfl, bo⟩
 obtain ⟨aa, an, hm⟩ := V hm
 refine G ?_
 refine QO (fun k' s' f' w' => (fun (aa : (List base_Edge)) => ∃ (ag : PHeap) (u : Value), PHeap.le aB ag ∧ St w0 ag (Res.box m 26 [o, p, q, t] :: Res.arr encbase_Edge 81 u aa :: H) w' ∧ Fx f' [(13, O (k' : Int)), (1, Vq m), (3, u), (11, ac), (12, O ((ae.length : Int)))]) s') an ?_ ?_ ?_
 ·have aV := ax.nilArr encbase_Edge 81
  exact fq
 ·intro a aa br aL b4 bb ap n
  obtain ⟨aC, u, be, af, ⟨aM, rfl⟩⟩ := ap
  obtain ⟨bD, a5, n⟩ := V n
  refine G ?_
  refine Jk Z Z Z a5 ?_
  intro aJ bn am
  refine G ?_
  refine Zw (E := (Qm (U .i64))) af A22.h Z Z Z am ?_
  intro ak a6
  have bp := QH.1 a6
  obtain ⟨y, ao, n⟩ := V n
  refine G ?_
  refine QO (fun k' s' f' w' => (fun (y : (List base_Edge)) => ∃ (ah : PHeap) (x : Value), PHeap.le aC ah ∧ St w0 ah (Res.box m 26 [o, p, q, t] :: Res.arr encbase_Edge 81 x y :: H) w' ∧ Fx f' [(21, O (k' : Int)), (1, Vq m), (3, x), (4, O ((a : Int))), (5, ak), (11, ac), (12, O ((ae.length : Int))), (13, O ((a : Int))), (20, O ((l.Ops.length : Int)))]) s') ao ?_ ?_ ?_
  ·have aW := af.f1
   exact fq
  ·intro d y bs aN b5 bc aq j
   obtain ⟨bt, x, bf, ay, ⟨aO, rfl⟩⟩ := aq
   obtain ⟨aE, a7, j⟩ := V j
   obtain ⟨bE, bF⟩ := aE
   replace j := Q7 j
   refine G ?_
   refine Tc Z Z Z Z (Qii a7 ay rq rq rq rq rq).r ?_
   rintro _ b6 ⟨aD, b0, bg, az, rfl, aA⟩
   obtain ⟨z, b, j⟩ := V j
   refine g ?_
   refine Zc (Zd (g ?_))
   refine Qp (M := fun f' w' => (fun (z : (List base_Edge)) => ∃ (ai : PHeap) (ad : Value), PHeap.le aD ai ∧ St w0 ai (Res.box m 26 [o, p, q, t] :: Res.arr encbase_Edge 81 ad z :: H) w' ∧ Fx f' [(1, Vq m), (3, ad), (4, O ((a : Int))), (5, ak), (11, ac), (12, O ((ae.length : Int))), (13, O ((a : Int))), (20, O ((l.Ops.length : Int))), (21, O ((d : Int)))]) z) ?_ ?_
   ·rcases Qs b with ⟨a3, b⟩ | ⟨a3, b⟩
    ·obtain ⟨i, a8, b⟩ := V b
     refine G ?_
     refine Tc Z Z Z Z (Qi2 a8 az rq aA).r ?_
     rintro _ b7 ⟨bu, bh, a0, rfl⟩
     refine G ?_
     refine Exec.build Z (Qc (c := [O ((a : Int))]) (Qe Z Z) (Qc (c := [O ((d : Int))]) (Qe Z Z) (Qc (c := [O i]) (Qe Z Z) Qi))) (v := Value.agg #[O ((a : Int)), O ((d : Int)), O i]) (fun _ => by kernel_rfl) (G ?_)
     refine Exec.buildSlice (Te := 81) (cs := [O ((a : Int)), O ((d : Int)), O i]) a0 Z (Qc (c := [O ((a : Int)), O ((d : Int)), O i]) (Qe Z Z) Qi) (fun _ => by kernel_rfl) ?_
     intro aK b8 a1
     obtain ⟨bi, a9, b⟩ := V b
     refine G ?_
     refine Q5 (E := encbase_Edge) (ys := [(⟨(a : Int), (d : Int), i⟩ : base_Edge)]) a1.f2 S78.h Z81 Z (by decide) Z Z Z Z ⟨[O ((a : Int)), O ((d : Int)), O i], [], Z, ⟨[O ((a : Int))], [O ((d : Int)), O i], Z, Z, ⟨[O ((d : Int))], [O i], Z, Z, Z⟩⟩, Z⟩ Z a9 ?_
     intro b1 b9 aX
     cases b
     refine G ?_
     exact fq
    cases b
    refine G ?_
    exact fq
   intro aP bA av
   obtain ⟨bv, ad, bj, aY, ⟨aQ, rfl⟩⟩ := av
   cases j
   refine G ?_
   exact fq
  intro aR bB ar
  obtain ⟨bw, x, bk, aZ, ⟨aS, rfl⟩⟩ := ar
  cases n
  refine G ?_
  exact fq
 intro aT bC au
 obtain ⟨bx, u, bl, a2, ⟨aU, rfl⟩⟩ := au
 cases hm
 refine G ?_
 refine ⟨_, KR Z, ?_⟩
 obtain ⟨bz, bm, ba, bq⟩ := a2.f1.freezeArr
 exact fq
instance A81 : ATy Tryz.prog 81 true 3 := ⟨by kernel_rfl⟩
instance F81_1 : FTy Tryz.prog 81 1 1 := ⟨by kernel_rfl⟩
instance F81_2 : FTy Tryz.prog 81 2 2 := ⟨by kernel_rfl⟩
instance F81_0 : FTy Tryz.prog 81 0 0 := ⟨by kernel_rfl⟩
end Go.Pw
