/- -/
import Derived.Test.YtcpkjkmbdolfnaaGreatDoorLC
import Derived.Test.YtcpkjkmbdolfnaaGreatDoorLD
import Derived.Test.YtcpkjkmbdolfnaaGreatDoorMb2
import Derived.Test.YtcpkjkmbdolfnaaGreatDoorMbPu
set_option maxRecDepth 100000
set_option maxHeartbeats 4000000
set_option linter.unusedVariables false
namespace Go.Pw
open Go.Proofs
attribute [local irreducible] Exec WL W andThen Y2 DL QW
instance F38_4 : FTy Tryz.prog 38 4 4 := ⟨by kernel_rfl⟩
instance A36 : ATy Tryz.prog 36 false 1 := ⟨by kernel_rfl⟩
instance S36 : STy Tryz.prog 36 4 1 1 := ⟨by kernel_rfl⟩
theorem Z4 : Jp Tryz.prog 4 = some (Value.bool false) := by kernel_rfl
theorem Qbt {w0 w : World} {s : PHeap} {H : List Res} {b : (List Int)} {c : Value} {r : (List Int)} (hm : Jw b = some r) (hS : St w0 s (Res.arr (U .i64) 3 c b :: H) w) :
  Calls Tryz.prog 22 #[c] w fun e w' => ∃ v, e = .returned v ∧ ((fun (p : (List Int)) => ∃ (f : PHeap) (g : Value), PHeap.le s f ∧ St w0 f (Res.arr (U .i64) 3 c b :: Res.arr (U .i64) 3 g p :: H) w' ∧ v = g) r) := by
 unfold Jw at hm
 refine Qj Tryz.func22 Z Z ?_
 obtain ⟨i, y, t, j, m⟩ := hS.nilShape
 refine G ?_
 refine QbU Tryz.underlying22 Z j Z (G ?_)
 rcases tf (i.isNone) with a | a
 ·have n := m a
  replace hm := (show (some []) = ((app 8 [] b).bind fun d => some d) from by simp [n, app]).trans hm
  refine QaO ((Zx a)) ?_
  cases hm
  refine G ?_
  refine ⟨_, Yc Z, ?_⟩
  have u := hS.nilArr (U .i64) 3
  exact fq
 refine Qba ((Zx a)) (G ?_)
 refine Exec.buildSlice (Te := 3) (cs := []) hS Z Qh (fun _ => by kernel_rfl) ?_
 intro q aa k
 refine G ?_
 have l := St.boxArr (E := (U .i64)) (xs := []) k rfl (by simp [maxLen])
 obtain ⟨d, o, hm⟩ := V hm
 refine G ?_
 refine QfS (E := (U .i64)) (l.f1).f1 S22.h Z3 Z (by decide) Z Z Z o ?_
 intro z ab x
 cases hm
 refine G ?_
 exact fr
theorem Qfq {w0 w : World} {s : PHeap} {H : List Res} {i : (List Fact)} {d : (List Int)} {j : Value} {c : Value} {r : Bool} (hm : QaA i d = some r) (hS : St w0 s (Res.arr (U .i64) 3 c d :: H) w) (ay : SliceRep encFact s j i) :
  Calls Tryz.prog 95 #[j, c] w fun e w' => ∃ v, e = .returned v ∧ ((fun (ax : Bool) => ∃ (u : PHeap) , PHeap.le s u ∧ St w0 u (Res.arr (U .i64) 3 c d :: H) w' ∧ v = Value.bool (ax)) r) := by
 unfold QaA at hm
 refine Qj Tryz.func95 Z Z ?_
 obtain ⟨o, ab, an, al, ah⟩ := Qs hm
 refine Zc (Zd (g ?_))
 refine Zc (Zc (Zd (g ?_)))
 refine Qo (M := fun f' w' => ∃ s', (o = .next s' ∨ o = .brk s') ∧ (fun (_ : Unit) => ∃ (x : PHeap) , PHeap.le s x ∧ St w0 x (Res.arr (U .i64) 3 c d :: H) w' ∧ Fx f' [(1, c), (7, j), (8, O ((i.length : Int)))]) s') ?_ ?_
 ·refine G ?_
  refine QP (fun k' s' f' w' => (fun (_ : Unit) => ∃ (y : PHeap) , PHeap.le s y ∧ St w0 y (Res.arr (U .i64) 3 c d :: H) w' ∧ Fx f' [(9, O (k' : Int)), (1, c), (7, j), (8, O ((i.length : Int)))]) s') ab ?_ ?_ ?_
  ·exact fq
  ·intro aq aP a1 a3 aU aG ac b ao
   obtain ⟨aw, aH, q, ⟨a4, rfl⟩⟩ := ac
   obtain ⟨ba, ar, b⟩ := V b
   refine G ?_
   refine Jt Z Z Z ar ?_
   intro az aL aa
   refine G ?_
   refine Zw (E := encFact) q A77.h Z Z Z aa ?_
   intro aS au
   obtain rfl := KH.1 au
   refine G ?_
   refine Exec.alloc (cs := [O 0, O 0]) q Z77 Z Z ?_
   intro a0 aV aC
   refine G ?_
   refine JU Z Z Z ?_
   intro aW ag
   obtain ⟨n, a, b⟩ := V b
   refine g ?_
   refine Zc (Qo (M := fun f' w' => (fun (n : Bool) => ∃ (z : PHeap) , PHeap.le aw z ∧ St w0 z (Res.arr (U .i64) 3 c d :: H) w' ∧ Fx f' [(1, c), (7, j), (8, O ((i.length : Int))), (9, O ((aq : Int))), (32, Vb n)]) n) ?_ ?_)
   ·refine Jz (n0 := 20) (qs 0 20 .done) J2 (by kernel_rfl) (by kernel_rfl) ?_
    have m := ag.drew
    refine G ?_
    rcases Qp a with ⟨ai, a⟩ | ⟨ai, a⟩
    ·cases a
     refine G ?_
     exact fq
    refine G ?_
    refine Qw (m.f1) S22.h Z Z ⟨Z, ?_⟩
    refine G ?_
    rcases Qp a with ⟨aj, a⟩ | ⟨aj, a⟩
    ·cases a
     refine G ?_
     exact fq
    obtain ⟨bb, l, a⟩ := V a
    obtain ⟨aB, a2, p⟩ := (m.f1).arr_at l
    refine G ?_
    refine Qb S22.h Z p Z (Qd l).1 (Qd l).2.1 ⟨Z, ?_⟩
    refine G ?_
    refine Qg (F := (U .i64)) (m.f1) p A3.h Z Z Z l (Sub.refl _) ?_
    intro aT av
    obtain rfl := Qf.1 av
    refine ⟨Z, ?_⟩
    cases a
    refine G ?_
    exact fq
   intro a5 aX ae
   obtain ⟨aM, aI, aD, ⟨a6, rfl⟩⟩ := ae
   refine G ?_
   rcases Qp b with ⟨ak, b⟩ | ⟨ak, b⟩
   ·cases b
    have am := an _ (ao (by intro _ h; cases h))
    cases am
    refine G ?_
    exact fr
   cases b
   refine G ?_
   exact ⟨_, Z, fq⟩
  intro aQ a7 aY ad ap
  obtain ⟨aN, aJ, aE, ⟨a8, rfl⟩⟩ := ad
  refine G ?_
  exact ⟨_, .inl ap, fq⟩
 rintro a9 aZ ⟨aR, t, af⟩
 have hm := t.elim (al _) (ah _)
 clear t
 obtain ⟨aO, aK, aF, ⟨aA, rfl⟩⟩ := af
 cases hm
 refine G ?_
 exact fr
theorem QaK {w0 w : World} {s : PHeap} {H : List Res} {t : (List Int)} {b : Value} {r : Nat × (List Int)} (hm : Jn t = some r) (hS : St w0 s (Res.arr (U .i64) 3 b t :: H) w) :
  Calls Tryz.prog 96 #[b] w fun e w' => ∃ v, e = .returned v ∧ ((QM fun (bn : Nat) (aX : (List Int)) => ∃ (a3 : PHeap) (aA : Value), PHeap.le s a3 ∧ St w0 a3 (Res.arr (U .i64) 3 b aX :: H) w' ∧ v = aA ∧ SubOf 1 b aA 0 bn) r) := by
 unfold Jn at hm
 refine Qj Tryz.func96 Z Z (G ?_)
 refine Qw (hS) S22.h Z Z (G ?_)
 rcases Qp hm with ⟨an, hm⟩ | ⟨an, hm⟩
 ·cases hm
  refine G ?_
  refine ⟨_, Yc Z, ?_⟩
  exact ⟨s, b, (Zv _), hS, Z, (Or.inl ⟨Z, Z, hS.arr_shape⟩)⟩
 obtain ⟨ac, aE, aV, aS, aM⟩ := Qs hm
 refine W_c Z an (QaN (J3 (Ze (Zc (Zc (Zd (g ?_)))))))
 refine Qo (M := fun f' w' => ∃ s', (ac = .next s' ∨ ac = .brk s') ∧ (fun (ar : Int) => ∃ (a4 : PHeap) , PHeap.le s a4 ∧ St w0 a4 (Res.arr (U .i64) 3 b t :: H) w' ∧ Fx f' [(0, b), (3, O ar)]) s') ?_ ?_
 ·refine G ?_
  refine KA (fun s' f' w' => (fun (au : Int) => ∃ (a5 : PHeap) , PHeap.le s a5 ∧ St w0 a5 (Res.arr (U .i64) 3 b t :: H) w' ∧ Fx f' [(0, b), (3, O au)]) s') aE ?_ ?_
  ·exact fq
  intro au aB bz bW aG a aq
  obtain ⟨aa, aY, u, ⟨b0, rfl⟩⟩ := aG
  refine G ?_
  refine Qw (u) S22.h Z Z (G ?_)
  rcases Qp a with ⟨aO, a⟩ | ⟨aO, a⟩
  ·refine G ?_
   refine Jz (n0 := 10) (qs 0 10 .done) J2 (by kernel_rfl) (by kernel_rfl) ?_
   have j := u.drew
   obtain ⟨cd, l, a⟩ := V a
   obtain ⟨b9, bo, ae⟩ := j.arr_at l
   refine G ?_
   refine Qb S22.h Z ae Z (Qd l).1 (Qd l).2.1 ⟨Z, ?_⟩
   refine G ?_
   refine Qg (F := (U .i64)) (j) ae A3.h Z Z Z l (Sub.refl _) ?_
   intro bQ ba
   obtain rfl := Qf.1 ba
   refine ⟨Z, ?_⟩
   obtain ⟨ce, m, a⟩ := V a
   obtain ⟨bA, bp, af⟩ := j.arr_at m
   refine G ?_
   refine Qb S22.h Z af Z (Qd m).1 (Qd m).2.1 ⟨Z, ?_⟩
   refine G ?_
   refine Qg (F := (U .i64)) (j) af A3.h Z Z Z m (Sub.refl _) ?_
   intro bR bb
   obtain rfl := Qf.1 bb
   refine ⟨Z, ?_⟩
   refine G ?_
   rcases Qp a with ⟨aP, a⟩ | ⟨aP, a⟩
   ·obtain ⟨bM, n, a⟩ := V a
    refine G ?_
    refine KS (j) S22.h Z Z Z n ?_
    intro ab k
    obtain ⟨ad, aF, bH, aT, aN⟩ := Qs a
    refine g ?_
    refine Zc (Zc (Zd (g ?_)))
    refine Qo (M := fun f' w' => ∃ s', (ad = .next s' ∨ ad = .brk s') ∧ (un3 fun (av : Int) (aw : Int) (az : (List Int)) => ∃ (a6 : PHeap) , PHeap.le aa a6 ∧ St w0 a6 (Res.arr (U .i64) 3 b az :: H) w' ∧ Fx f' [(0, b), (3, O av), (4, ab), (5, O aw)]) s') ?_ ?_
    ·refine G ?_
     refine KA (fun s' f' w' => (un3 fun (ax : Int) (x : Int) (a0 : (List Int)) => ∃ (a7 : PHeap) , PHeap.le aa a7 ∧ St w0 a7 (Res.arr (U .i64) 3 b a0 :: H) w' ∧ Fx f' [(0, b), (3, O ax), (4, ab), (5, O x)]) s') aF ?_ ?_
     ·exact fq
     intro bk bq b1 bX aH c aW
     obtain ⟨ax, x, a0⟩ := bk
     replace c := Qaz c
     obtain ⟨bh, bI, aL, ⟨b2, rfl⟩⟩ := aH
     refine G ?_
     refine Qa8 S22.h k Z Z (G ?_)
     rcases Qp c with ⟨aQ, c⟩ | ⟨aQ, c⟩
     ·refine G ?_
      refine Jz (n0 := 10) (qs 0 10 .done) J2 (by kernel_rfl) (by kernel_rfl) ?_
      have i := aL.drew
      obtain ⟨cf, o, c⟩ := V c
      obtain ⟨bB, br, ag⟩ := i.arr_at (Q8 o).2.2
      refine G ?_
      refine J9 S22.h (KE n).1 k ag Z Z Z (Q8 o).1 (Q8 o).2.1 ⟨Z, ?_⟩
      refine G ?_
      refine Qg (F := (U .i64)) (i) ag A3.h Z Z Z (Q8 o).2.2 (Sub.refl _) ?_
      intro bS bc
      obtain rfl := Qf.1 bc
      refine ⟨Z, ?_⟩
      obtain ⟨cg, p, c⟩ := V c
      obtain ⟨bC, bs, ah⟩ := i.arr_at (Q8 p).2.2
      refine G ?_
      refine J9 S22.h (KE n).1 k ah Z Z Z (Q8 p).1 (Q8 p).2.1 ⟨Z, ?_⟩
      refine G ?_
      refine Qg (F := (U .i64)) (i) ah A3.h Z Z Z (Q8 p).2.2 (Sub.refl _) ?_
      intro bT bd
      obtain rfl := Qf.1 bd
      refine ⟨Z, ?_⟩
      obtain ⟨a9, d, c⟩ := V c
      refine g ?_
      refine Qo (M := fun f' w' => (QM fun (ay : Int) (a1 : (List Int)) => ∃ (a8 : PHeap) , PHeap.le bh a8 ∧ St w0 a8 (Res.arr (U .i64) 3 b a1 :: H) w' ∧ Fx f' [(0, b), (3, O ay), (4, ab), (5, O x)]) a9) ?_ ?_
      ·rcases Qp d with ⟨aR, d⟩ | ⟨aR, d⟩
       ·obtain ⟨ch, q, d⟩ := V d
        obtain ⟨bD, bt, ai⟩ := i.arr_at (Q8 q).2.2
        refine G ?_
        refine J9 S22.h (KE n).1 k ai Z Z Z (Q8 q).1 (Q8 q).2.1 (G ?_)
        refine Qg (F := (U .i64)) (i) ai A3.h Z Z Z (Q8 q).2.2 (Sub.refl _) ?_
        intro bU be
        obtain rfl := Qf.1 be
        obtain ⟨ci, z, d⟩ := V d
        obtain ⟨bE, bu, aj⟩ := i.arr_at z
        refine G ?_
        refine Qb S22.h Z aj Z (Qd z).1 (Qd z).2.1 ?_
        obtain ⟨bJ, bf, d⟩ := V d
        refine G ?_
        refine Qv i aj A3.h Z Z Z Z (Qf.2 Z) bf ?_
        intro bY bF
        cases d
        refine G ?_
        exact fq
       cases d
       refine G ?_
       exact fq
      intro b3 bZ aI
      obtain ⟨ay, a1⟩ := a9
      replace c := Q6 c
      obtain ⟨bP, bK, bG, ⟨b4, rfl⟩⟩ := aI
      cases c
      refine G ?_
      exact ⟨_, Z, fq⟩
     cases c
     refine G ?_
     exact ⟨_, .inr (aW (by intro _ h; cases h)), fq⟩
    rintro b5 ca ⟨bl, ao, aJ⟩
    have a := ao.elim (aT _) (aN _)
    clear ao
    obtain ⟨av, aw, az⟩ := bl
    replace a := Qaz a
    obtain ⟨bi, bL, ak, ⟨b6, rfl⟩⟩ := aJ
    obtain ⟨bN, a2, a⟩ := V a
    refine G ?_
    refine KS (ak) S22.h Z Z Z a2 ?_
    intro bV aC
    refine G ?_
    refine QaC (E := (U .i64)) (y := 0) ak aC (KE a2).2.2.2.2.2 S22.h Z3 Z Z Z ?_
    intro cb al
    obtain ⟨bO, bg, a⟩ := V a
    refine G ?_
    refine Qcg (al) S22.h Z Z Z bg ?_
    intro bm aD
    cases a
    have aU := aV _ (aq (by intro _ h; cases h))
    have bv := Zu aU
    subst r
    refine G ?_
    refine ⟨_, Yc Z, ?_⟩
    exact ⟨bi, bm, lq, al, Z, aD⟩
   cases a
   refine G ?_
   exact ⟨_, Z, fq⟩
  have bw := Zu a
  subst aB
  refine G ?_
  refine ⟨_, .inr (aq (by intro _ h; cases h)), ?_⟩; exact ⟨aa, aY, u, (Fx.mk)⟩
 rintro b7 cc ⟨ar, ap, aK⟩
 have hm := ap.elim (aS _) (aM _)
 clear ap
 obtain ⟨bj, aZ, am, ⟨b8, rfl⟩⟩ := aK
 have bx := Zu hm
 subst r
 refine G ?_
 refine ⟨_, Yc Z, ?_⟩
 exact ⟨bj, b, aZ, am, Z, (Or.inl ⟨Z, Z, am.arr_shape⟩)⟩
theorem QdK {w0 w : World} {s : PHeap} {H : List Res} {ae : Task} {aA : Int} {aB : (List Int)} {a0 : (List Int)} {a1 : Int} {t : Value} {u : Value} {x : Value} {y : Value} {z : Value} {aa : Value} {r : (List Int)} (hm : KM ae aA aB a0 a1 = some r) (hS : St w0 s (H) w) (aL : SliceRep (U .i64) s t ae.Vars) (aM : SliceRep (U .i64) s u ae.Init) (aN : SliceRep encFact s x ae.Goal) (aO : SliceRep encOp s y ae.Ops) (aP : SliceRep (U .i64) s z aB) (cm : SliceRep (U .i64) s aa a0) :
  Calls Tryz.prog 68 #[Value.agg #[t, u, x, y], O aA, z, aa, O a1] w fun e w' => ∃ v, e = .returned v ∧ ((fun (cl : (List Int)) => ∃ (ar : PHeap) (aJ : Value), PHeap.le s ar ∧ St w0 ar (H) w' ∧ v = aJ ∧ SliceRep (U .i64) ar aJ cl) r) := by
 unfold KM at hm
 refine Qj Tryz.func68 Z Z (G ?_)
 refine JY Z Z ?_
 intro i dV a2
 obtain ⟨b, bB, hm⟩ := V hm
 refine G ?_
 refine Jt Z Z Z bB ?_
 intro cn d0 aQ
 refine G ?_
 refine Zw (E := encOp) a2 A82.h Z Z Z aQ ?_
 intro dQ bC
 obtain ⟨q, p, rfl, d3, d4⟩ := Ys.1 bC
 refine G ?_
 refine Exec.alloc (cs := [Value.string (⟨#[]⟩), O 0, Vn, Vn]) a2 Z82 Z Z ?_
 intro j dW cI
 refine G ?_
 refine JU Z Z Z ?_
 intro dX bf
 obtain ⟨cX, bD, hm⟩ := V hm
 refine G ?_
 refine QU (E := (U .i64)) bf S22.h Z3 Z Z Z Z bD ?_
 intro l dY bg
 obtain ⟨cY, bE, hm⟩ := V hm
 refine G ?_
 refine Tc Z Z Z Z (Qii bE bg aL aM aN aO aP).r ?_
 rintro _ dZ ⟨aC, cZ, bh, rfl⟩
 obtain ⟨aw, aT, b8, b6, b0⟩ := Qs hm
 refine g ?_
 refine Zc (Zc (Zd (g ?_)))
 refine Qo (M := fun f' w' => ∃ s', (aw = .next s' ∨ aw = .brk s') ∧ (fun (a9 : (List Int)) => ∃ (aD : PHeap) , PHeap.le aC aD ∧ St w0 aD (Res.box i 26 [t, u, x, y] :: Res.box j 82 [Value.string (b.Name), O (b.Cost), q, p] :: Res.arr (U .i64) 3 l a9 :: H) w' ∧ Fx f' [(2, z), (3, aa), (5, Vq i), (11, Vq j), (12, l), (37, q), (38, O ((b.Pre.length : Int)))]) s') ?_ ?_
 ·refine G ?_
  refine QP (fun k' s' f' w' => (fun (al : (List Int)) => ∃ (aE : PHeap) , PHeap.le aC aE ∧ St w0 aE (Res.box i 26 [t, u, x, y] :: Res.box j 82 [Value.string (b.Name), O (b.Cost), q, p] :: Res.arr (U .i64) 3 l al :: H) w' ∧ Fx f' [(39, O (k' : Int)), (2, z), (3, aa), (5, Vq i), (11, Vq j), (12, l), (37, q), (38, O ((b.Pre.length : Int)))]) s') aT ?_ ?_ ?_
  ·have cJ := bh.f1
   exact fq
  ·intro cW al ct cx ea cU aW a b9
   obtain ⟨d7, da, a3, ⟨cy, rfl⟩⟩ := aW
   obtain ⟨e1, bF, a⟩ := V a
   refine G ?_
   refine Jt Z Z Z bF ?_
   intro co d1 aR
   refine G ?_
   refine Zw (E := encFact) a3 A77.h Z Z Z aR ?_
   intro dR bG
   obtain rfl := KH.1 bG
   refine G ?_
   refine Exec.alloc (cs := [O 0, O 0]) a3 Z77 Z Z ?_
   intro cp eb cK
   refine G ?_
   refine JU Z Z Z ?_
   intro ec bi
   obtain ⟨e5, bH, a⟩ := V a
   refine G ?_
   refine Tc Z Z Z Z (Ji bH bi rq).r ?_
   rintro _ ed ⟨d8, db, aj, rfl⟩
   refine G ?_
   rcases Qp a with ⟨b1, a⟩ | ⟨b1, a⟩
   ·refine G ?_
    refine Jz (n0 := 8) (qs 0 8 .done) J2 (by kernel_rfl) (by kernel_rfl) ?_
    have a4 := aj.drew
    obtain ⟨e2, ag, a⟩ := V a
    obtain ⟨cF, cu, ax⟩ := (a4.f3).arr_at ag
    refine G ?_
    refine Qb S22.h Z ax Z (Qd ag).1 (Qd ag).2.1 ⟨Z, ?_⟩
    refine G ?_
    refine Qg (F := (U .i64)) (a4.f3) ax A3.h Z Z Z ag (Sub.refl _) ?_
    intro dS bI
    obtain rfl := Qf.1 bI
    refine ⟨Z, ?_⟩
    refine G ?_
    rcases Qp a with ⟨b2, a⟩ | ⟨b2, a⟩
    ·cases a
     have b7 := b8 _ (b9 (by intro _ h; cases h))
     cases b7
     refine G ?_
     exact fr
    cases a
    refine G ?_
    exact ⟨_, Z, fq⟩
   obtain ⟨e3, ap, a⟩ := V a
   obtain ⟨cG, cv, ay⟩ := (aj.f3).arr_at ap
   refine G ?_
   refine Qb S22.h Z ay Z (Qd ap).1 (Qd ap).2.1 ?_
   obtain ⟨dc, bJ, a⟩ := V a
   refine G ?_
   refine Qv aj.f3 ay A3.h Z Z Z Z (Qf.2 Z) bJ ?_
   intro ee cL
   cases a
   refine G ?_
   exact ⟨_, Z, fq⟩
  intro al cz ef aX bA
  obtain ⟨d9, dd, cM, ⟨c0, rfl⟩⟩ := aX
  refine G ?_
  exact ⟨_, .inl bA, fq⟩
 rintro c1 eg ⟨a9, a7, bc⟩
 have hm := a7.elim (b6 _) (b0 _)
 clear a7
 obtain ⟨dA, de, bj, ⟨c2, rfl⟩⟩ := bc
 obtain ⟨cf, bK, hm⟩ := V hm
 obtain ⟨ah, e6⟩ := cf
 replace hm := Q6 hm
 refine G ?_
 refine Tc Z Z Z Z (QaE bK bj rq rq rq rq rq).r ?_
 rintro _ eh ⟨ca, df, bk, rfl⟩
 obtain ⟨dO, bL, hm⟩ := V hm
 obtain ⟨cg, aU, hm⟩ := V hm
 refine G ?_
 refine QH (fun k' s' f' w' => (QM fun (ac : (List Int)) (am : (List Int)) => ∃ (aF : PHeap) (m : Value), PHeap.le ca aF ∧ St w0 aF (Res.box i 26 [t, u, x, y] :: Res.box j 82 [Value.string (b.Name), O (b.Cost), q, p] :: Res.arr (U .i64) 3 l am :: Res.arr (U .i64) 3 m ac :: H) w' ∧ Fx f' [(69, O (k' : Int)), (2, z), (3, aa), (5, Vq i), (11, Vq j), (12, l), (17, m), (68, O ah)]) s') aU ?_ ?_ ?_
 ·have cN := bk.nilArr (U .i64) 3
  exact fq
 ·intro ak ch dB c3 ei b5 aY d
  obtain ⟨ac, am⟩ := ch
  replace d := Q6 d
  obtain ⟨dC, m, dg, bl, ⟨c4, rfl⟩⟩ := aY
  obtain ⟨an, bM, d⟩ := V d
  refine G ?_
  refine Tc Z Z Z Z (Qii bM bl.f2 rq rq rq rq rq).r ?_
  rintro _ ej ⟨dD, dh, bm, rfl⟩
  obtain ⟨e7, bN, d⟩ := V d
  refine G ?_
  refine Tc Z Z Z Z (Qbt bN bm).r ?_
  rintro ad ek ⟨cb, _, di, bn, rfl⟩
  obtain ⟨af, aV, d⟩ := V d
  refine G ?_
  refine QH (fun k' s' f' w' => (fun (af : (List Int)) => ∃ (aG : PHeap) , PHeap.le cb aG ∧ St w0 aG (Res.box i 26 [t, u, x, y] :: Res.box j 82 [Value.string (b.Name), O (b.Cost), q, p] :: Res.arr (U .i64) 3 l an :: Res.arr (U .i64) 3 m ac :: Res.arr (U .i64) 3 ad af :: H) w' ∧ Fx f' [(82, O (k' : Int)), (2, z), (3, aa), (5, Vq i), (11, Vq j), (12, l), (17, m), (19, ad), (68, O ah), (69, O ((ak : Int))), (80, p), (81, O ((b.Effs.length : Int)))]) s') aV ?_ ?_ ?_
  ·have cO := bn.f1
   exact fq
  ·intro a8 af dE c5 el cV aZ ab
   obtain ⟨cc, dj, a5, ⟨c6, rfl⟩⟩ := aZ
   obtain ⟨aK, bO, ab⟩ := V ab
   refine G ?_
   refine Jt Z Z Z bO ?_
   intro cq d2 aS
   refine G ?_
   refine Zw (E := encEffect) a5 A79.h Z Z Z aS ?_
   intro dT bP
   obtain ⟨cj, rfl, d5⟩ := Yv.1 bP
   refine G ?_
   refine Exec.alloc (cs := [Vn, O 0, O 0]) a5 Z79 Z Z ?_
   intro av em cP
   refine G ?_
   refine JU Z Z Z ?_
   intro en bo
   obtain ⟨au, n, ab⟩ := V ab
   refine g ?_
   refine Zc (Qo (M := fun f' w' => (fun (au : Bool) => ∃ (aH : PHeap) , PHeap.le cc aH ∧ St w0 aH (Res.box i 26 [t, u, x, y] :: Res.box j 82 [Value.string (b.Name), O (b.Cost), q, p] :: Res.arr (U .i64) 3 l an :: Res.arr (U .i64) 3 m ac :: Res.arr (U .i64) 3 ad af :: Res.box av 79 [cj, O (aK.Var), O (aK.Val)] :: H) w' ∧ Fx f' [(2, z), (3, aa), (5, Vq i), (11, Vq j), (12, l), (17, m), (19, ad), (21, Vq av), (68, O ah), (69, O ((ak : Int))), (80, p), (81, O ((b.Effs.length : Int))), (82, O ((a8 : Int))), (95, Vb au)]) au) ?_ ?_)
   ·obtain ⟨e8, bQ, n⟩ := V n
    refine G ?_
    refine Tc Z Z Z Z (Ji bQ bo rq).r ?_
    rintro _ eo ⟨dF, dk, bp, rfl⟩
    refine G ?_
    rcases Qp n with ⟨b3, n⟩ | ⟨b3, n⟩
    ·obtain ⟨e9, bR, n⟩ := V n
     refine G ?_
     refine Tc Z Z Z Z (Qfq bR bp.f3 rq).r ?_
     rintro _ ep ⟨dG, dl, cQ, rfl⟩
     cases n
     refine G ?_
     exact fq
    cases n
    refine G ?_
    exact fq
   intro c7 er bd
   obtain ⟨cd, dm, a6, ⟨c8, rfl⟩⟩ := bd
   obtain ⟨ao, o, ab⟩ := V ab
   refine g ?_
   refine Qo (M := fun f' w' => (fun (ao : (List Int)) => ∃ (aI : PHeap) , PHeap.le cd aI ∧ St w0 aI (Res.box i 26 [t, u, x, y] :: Res.box j 82 [Value.string (b.Name), O (b.Cost), q, p] :: Res.arr (U .i64) 3 l an :: Res.arr (U .i64) 3 m ac :: Res.arr (U .i64) 3 ad ao :: H) w' ∧ Fx f' [(2, z), (3, aa), (5, Vq i), (11, Vq j), (12, l), (17, m), (19, ad), (68, O ah), (69, O ((ak : Int))), (80, p), (81, O ((b.Effs.length : Int))), (82, O ((a8 : Int)))]) ao) ?_ ?_
   ·rcases Qp o with ⟨b4, o⟩ | ⟨b4, o⟩
    ·obtain ⟨e4, aq, o⟩ := V o
     obtain ⟨cH, cw, az⟩ := (a6.f4).arr_at aq
     refine G ?_
     refine Qb S22.h Z az Z (Qd aq).1 (Qd aq).2.1 ?_
     obtain ⟨dn, bS, o⟩ := V o
     refine G ?_
     refine Qv a6.f4 az A3.h Z Z Z Z (Qf.2 Z) bS ?_
     intro es cR
     cases o
     refine G ?_
     exact fq
    cases o
    refine G ?_
    exact fq
   intro c9 et be
   obtain ⟨dH, dp, cS, ⟨cA, rfl⟩⟩ := be
   cases ab
   refine G ?_
   exact fq
  intro cB eu ba
  obtain ⟨dI, dq, bq, ⟨cC, rfl⟩⟩ := ba
  refine G ?_
  obtain ⟨dJ, dr, br, bY⟩ := bq.f4.freezeArr
  obtain ⟨ai, bT, d⟩ := V d
  refine G ?_
  refine Tc Z Z Z Z (QbQ bT br rq rq rq rq rq bY).r ?_
  rintro _ ev ⟨ce, ds, bs, rfl⟩
  refine G ?_
  refine Exec.buildSlice (Te := 3) (cs := [O ai]) bs Z (Qc (c := [O ai]) (Qe Z Z) Qh) (fun _ => by kernel_rfl) ?_
  intro cr ew bt
  obtain ⟨dt, bU, d⟩ := V d
  refine G ?_
  refine Qt (E := (U .i64)) (ys := [ai]) bt.f4 S22.h Z3 Z (by decide) Z Z Z Z ⟨[O ai], [], Z, Z, Z⟩ Z bU ?_
  intro ck ex bu
  cases d
  refine G ?_
  exact ⟨ce, ck, lq, ((bu.f3).f3).f3, (Fx.mk (FxL.cons (QD b5 (by have h := Qr bL; simp at h; simp only [maxLen]; omega)) fxl))⟩
 intro cD ey bb
 obtain ⟨ac, am⟩ := cg
 replace hm := Q6 hm
 obtain ⟨dK, m, du, bv, ⟨cE, rfl⟩⟩ := bb
 obtain ⟨dv, bV, hm⟩ := V hm
 refine G ?_
 refine Tc Z Z Z Z (QcI bV bv.f3).r ?_
 rintro _ ez ⟨dL, dw, bw, rfl⟩
 obtain ⟨ci, bW, hm⟩ := V hm
 obtain ⟨eA, dx⟩ := ci
 replace hm := Q6 hm
 refine G ?_
 refine Tc Z Z Z Z (QaK bW bw).r ?_
 rintro dU e0 ⟨dM, _, dy, bx, rfl, bZ⟩
 obtain ⟨dP, bX, hm⟩ := V hm
 have bz := bx.arr_head bZ (by simpa using Qr bX)
 cases hm
 refine G ?_
 refine ⟨_, Yc Z, ?_⟩
 obtain ⟨dN, dz, cT, d6⟩ := bz.freezeArr
 exact fq
instance F38_3 : FTy Tryz.prog 38 3 3 := ⟨by kernel_rfl⟩
instance A35 : ATy Tryz.prog 35 false 1 := ⟨by kernel_rfl⟩
instance S35 : STy Tryz.prog 35 73 3 24 := ⟨by kernel_rfl⟩
theorem Z73 : Jp Tryz.prog 73 = some (Value.agg #[O 0, O 0, O 0]) := by kernel_rfl
theorem Qb3 {w0 w : World} {s : PHeap} {H : List Res} {aa : Task} {bj : (List Int)} {x : Value} {y : Value} {o : Value} {p : Value} {ac : Value} {r : (Option Int) × System} (hm : J6 aa bj = some r) (hS : St w0 s (H) w) (b6 : SliceRep (U .i64) s x aa.Vars) (b7 : SliceRep (U .i64) s y aa.Init) (b8 : SliceRep encFact s o aa.Goal) (b9 : SliceRep encOp s p aa.Ops) (bA : SliceRep (U .i64) s ac bj) :
  Calls Tryz.prog 38 #[Value.agg #[x, y, o, p], ac] w fun e w' => ∃ v, e = .returned v ∧ ((QM fun (dQ : (Option Int)) (aq : System) => ∃ (ap : PHeap) (bz : Value) (b0 : Value) (b1 : Value), PHeap.le s ap ∧ St w0 ap (H) w' ∧ v = Value.tuple #[Value.agg #[O (aq.States), O (aq.Init), bz, b0, b1], Qaw 57 (dQ)] ∧ SliceRep (U .i64) ap bz aq.Costs ∧ SliceRep encEdge ap b0 aq.Edges ∧ SliceRep encBool ap b1 aq.Goals) r) := by
 unfold J6 at hm
 refine Qj Tryz.func38 Z Z (G ?_)
 refine JY Z Z ?_
 intro i gj bY
 refine G ?_
 refine Exec.alloc (cs := [O 0, O 0, Vn, Vn, Vn]) bY Z38 Z Z ?_
 intro j gk bZ
 obtain ⟨hb, df, hm⟩ := V hm
 refine G ?_
 refine Tc Z Z Z Z (QeR df bZ b6 b7 b8 b9 bA).r ?_
 rintro _ gl ⟨fJ, fb, ca, rfl⟩
 refine G ?_
 refine QL (T := 57) Tryz.underlying32 Z Z Z (G ?_)
 rcases Qp hm with ⟨c8, hm⟩ | ⟨c8, hm⟩
 ·refine G ?_
  refine Exec.build Z Qh (v := Value.agg #[O 0, O 0, Vn, Vn, Vn]) (fun _ => by kernel_rfl) (G ?_)
  refine JU Z Z Z ?_
  intro gm cb
  cases hm
  refine G ?_
  refine ⟨_, Yg Z ⟨_, _, Z, Je (cb) A38.h⟩ Z, ?_⟩
  exact fq
 obtain ⟨dI, dg, hm⟩ := V hm
 obtain ⟨a, hc⟩ := dI
 replace hm := Q6 hm
 refine G ?_
 refine Tc Z Z Z Z (QaE dg ca rq rq rq rq rq).r ?_
 rintro _ gn ⟨fK, fc, cc, rfl⟩
 refine G ?_
 rcases Qp hm with ⟨c9, hm⟩ | ⟨c9, hm⟩
 ·refine G ?_
  refine Exec.build Z Qh (v := Value.agg #[O 0, O 0, Vn, Vn, Vn]) (fun _ => by kernel_rfl) (G ?_)
  refine Exec.makeInterface C57 Z Z (G ?_)
  refine JU Z Z Z ?_
  intro go cd
  cases hm
  refine G ?_
  refine ⟨_, Yg Z ⟨_, _, Z, Je (cd) A38.h⟩ Z, ?_⟩
  exact fq
 obtain ⟨u, dh, hm⟩ := V hm
 refine G ?_
 refine Tc Z Z Z Z (QbQ dh cc rq rq rq rq rq rq).r ?_
 rintro _ gp ⟨bk, fd, ce, rfl⟩
 refine G ?_
 refine Exec.build Z (Qc (c := [O a]) (Qe Z Z) (Qc (c := [O u]) (Qe Z Z) Qh)) (v := Value.agg #[O a, O u, Vn, Vn, Vn]) (fun _ => by kernel_rfl) (G ?_)
 refine Exec.alloc (cs := [O 0, O 0, Vn, Vn, Vn]) ce Z38 Z Z ?_
 intro l gq eK
 refine G ?_
 refine JU Z Z Z ?_
 intro gr cf
 obtain ⟨fe, di, hm⟩ := V hm
 refine G ?_
 refine QU (E := (Qu (U .i64))) cf S44.h Z22 ⟨_, Z, (SliceRep.nil _ _)⟩ Z Z Z di ?_
 intro m gs cg
 obtain ⟨aP, bE, cQ, cI, c4⟩ := Qs hm
 refine g ?_
 refine Zc (Zc (Zd (g ?_)))
 refine Qo (M := fun f' w' => ∃ s', (aP = .next s' ∨ aP = .brk s') ∧ (QM fun (ah : (List Int)) (af : (List (List Int))) => ∃ (bl : PHeap) (d : Value), PHeap.le bk bl ∧ St w0 bl (Res.box i 26 [x, y, o, p] :: Res.box j 38 [O 0, O 0, Vn, Vn, Vn] :: Res.box l 38 [O a, O u, d, Vn, Vn] :: Res.arr (Qu (U .i64)) 22 m af :: Res.arr (U .i64) 3 d ah :: H) w' ∧ Fx f' [(1, ac), (2, Vq i), (4, Vq j), (7, O a), (9, Vq l), (10, m), (52, p), (53, O ((aa.Ops.length : Int)))]) s') ?_ ?_
 ·refine G ?_
  refine QP (fun k' s' f' w' => (QM fun (aO : (List Int)) (aD : (List (List Int))) => ∃ (bm : PHeap) (a1 : Value), PHeap.le bk bm ∧ St w0 bm (Res.box i 26 [x, y, o, p] :: Res.box j 38 [O 0, O 0, Vn, Vn, Vn] :: Res.box l 38 [O a, O u, a1, Vn, Vn] :: Res.arr (Qu (U .i64)) 22 m aD :: Res.arr (U .i64) 3 a1 aO :: H) w' ∧ Fx f' [(54, O (k' : Int)), (1, ac), (2, Vq i), (4, Vq j), (7, O a), (9, Vq l), (10, m), (52, p), (53, O ((aa.Ops.length : Int)))]) s') bE ?_ ?_ ?_
  ·have eL := cg.nilArr (U .i64) 3
   exact fq
  ·intro eZ dJ dZ ek gu cE bJ b cU
   obtain ⟨aO, aD⟩ := dJ
   replace b := Q6 b
   obtain ⟨fL, a1, ff, aY, ⟨el, rfl⟩⟩ := bJ
   obtain ⟨a5, dj, b⟩ := V b
   refine G ?_
   refine Jt Z Z Z dj ?_
   intro dR fD bB
   refine G ?_
   refine Zw (E := encOp) aY A82.h Z Z Z bB ?_
   intro gb dk
   obtain ⟨fY, fZ, rfl, d5, d6⟩ := Ys.1 dk
   refine G ?_
   refine Exec.alloc (cs := [Value.string (⟨#[]⟩), O 0, Vn, Vn]) aY Z82 Z Z ?_
   intro dS gv eM
   refine G ?_
   refine JU Z Z Z ?_
   intro gw ch
   refine G ?_
   refine Exec.buildSlice (Te := 3) (cs := [O (a5.Cost)]) ch Z (Qc (c := [O (a5.Cost)]) (Qe Z Z) Qh) (fun _ => by kernel_rfl) ?_
   intro dT gx ci
   obtain ⟨fg, dl, b⟩ := V b
   refine G ?_
   refine Qt (E := (U .i64)) (ys := [a5.Cost]) ci.f6 S22.h Z3 Z (by decide) Z Z Z Z ⟨[O (a5.Cost)], [], Z, Z, Z⟩ Z dl ?_
   intro aJ gy a7
   refine G ?_
   refine Qq (ds := [aJ]) (es := [O a, O u, aJ, Vn, Vn]) a7.f4 A22.h Z Z Z (Ql ((a7.f4).f1).arr_one) (Zj ((a7.f4).f1).arr_one Ja) (Nat.le_of_ble_eq_true Z) Z ?_
   intro gz cj
   obtain ⟨hd, dm, b⟩ := V b
   refine G ?_
   refine Tc Z Z Z Z (QdL dm cj d5 d6 rq).r ?_
   rintro gc g0 ⟨fM, _, fh, aZ, rfl, d7⟩
   obtain ⟨gW, aH, b⟩ := V b
   obtain ⟨eG, ea, aU⟩ := (aZ.f5).arr_at aH
   refine G ?_
   refine Qb S44.h Z aU Z (Qd aH).1 (Qd aH).2.1 ?_
   obtain ⟨fi, dn, b⟩ := V b
   refine G ?_
   refine Qv aZ.f5 aU A22.h Z Z Z Z (Jb.2 d7) dn ?_
   intro g1 av
   refine G ?_
   refine Jz (n0 := 10) (qs 0 5 (.e 5 [] (qs 6 4 .done))) J2 (by kernel_rfl) (by kernel_rfl) (G ?_)
   refine Q4 (ds := [x, y, o, p]) ((av.drew).f4) A26.h Z Z Z ⟨Z, ?_⟩
   obtain ⟨gX, ay, b⟩ := V b
   obtain ⟨eH, eb, aV⟩ := (av.drew).arr_at ay
   refine G ?_
   refine Qb S44.h Z aV Z (Qd ay).1 (Qd ay).2.1 ⟨Z, ?_⟩
   refine G ?_
   refine Qg (F := (Qu (U .i64))) (av.drew) aV A22.h Z Z Z ay (Sub.refl _) ?_
   intro gd dp
   have d8 := Jb.1 dp
   refine ⟨Z, ?_⟩
   obtain ⟨dK, dq, b⟩ := V b
   obtain ⟨he, hf⟩ := dK
   replace b := Q6 b
   refine G ?_
   refine Tc Z Z Z Z (QaE dq av.drew rq rq rq rq d8).r ?_
   rintro _ g2 ⟨dB, fj, ck, rfl⟩
   refine ⟨YD, ?_⟩
   refine G ?_
   rcases Qp b with ⟨cA, b⟩ | ⟨cA, b⟩
   ·refine G ?_
    refine Exec.build Z Qh (v := Value.agg #[O 0, O 0, Vn, Vn, Vn]) (fun _ => by kernel_rfl) (G ?_)
    refine Exec.makeInterface C57 Z Z (G ?_)
    refine JU Z Z Z ?_
    intro g3 cl
    cases b
    have cM := cQ _ (cU (by intro _ h; cases h))
    cases cM
    refine G ?_
    refine ⟨_, Yg Z ⟨_, _, Z, Je (cl) A38.h⟩ Z, ?_⟩
    exact fq
   cases b
   refine G ?_
   refine ⟨_, Z, ?_⟩; exact ⟨dB, aJ, lq, ((((((ck.f3).drop).f2).f1).f2).f4).f4, (Fx.mk (FxL.cons (QD cE (SliceRep.le rq)) fxl))⟩
  intro dL em g4 bK cV
  obtain ⟨aO, aD⟩ := dL
  obtain ⟨fN, a1, fk, eN, ⟨en, rfl⟩⟩ := bK
  refine G ?_
  exact ⟨_, .inl cV, fq⟩
 rintro eo g5 ⟨dM, bc, bT⟩
 have hm := bc.elim (cI _) (c4 _)
 clear bc
 obtain ⟨ah, af⟩ := dM
 replace hm := Q6 hm
 obtain ⟨bn, d, fl, cm, ⟨ep, rfl⟩⟩ := bT
 obtain ⟨fm, dr, hm⟩ := V hm
 refine G ?_
 refine QU (E := (U .i64)) cm S22.h Z3 Z Z Z Z dr ?_
 intro t g6 cn
 obtain ⟨ga, dt, hm⟩ := V hm
 obtain ⟨aQ, bF, cR, cJ, c5⟩ := Qs hm
 refine g ?_
 refine Zc (Zc (Zd (g ?_)))
 refine Qo (M := fun f' w' => ∃ s', (aQ = .next s' ∨ aQ = .brk s') ∧ (un3 fun (b4 : (List Edge)) (b5 : (List Bool)) (bg : (List Int)) => ∃ (bo : PHeap) (aK : Value) (aL : Value), PHeap.le bn bo ∧ St w0 bo (Res.box i 26 [x, y, o, p] :: Res.box j 38 [O 0, O 0, Vn, Vn, Vn] :: Res.box l 38 [O a, O u, d, aK, aL] :: Res.arr (Qu (U .i64)) 22 m af :: Res.arr (U .i64) 3 t bg :: Res.arr (U .i64) 3 d ah :: Res.arr encEdge 73 aK b4 :: Res.arr encBool 4 aL b5 :: H) w' ∧ Fx f' [(1, ac), (2, Vq i), (4, Vq j), (9, Vq l), (10, m), (15, t), (90, O a)]) s') ?_ ?_
 ·refine G ?_
  refine QP (fun k' s' f' w' => (un3 fun (ar : (List Edge)) (au : (List Bool)) (aE : (List Int)) => ∃ (bp : PHeap) (ag : Value) (aj : Value), PHeap.le bn bp ∧ St w0 bp (Res.box i 26 [x, y, o, p] :: Res.box j 38 [O 0, O 0, Vn, Vn, Vn] :: Res.box l 38 [O a, O u, d, ag, aj] :: Res.arr (Qu (U .i64)) 22 m af :: Res.arr (U .i64) 3 t aE :: Res.arr (U .i64) 3 d ah :: Res.arr encEdge 73 ag ar :: Res.arr encBool 4 aj au :: H) w' ∧ Fx f' [(91, O (k' : Int)), (1, ac), (2, Vq i), (4, Vq j), (9, Vq l), (10, m), (15, t), (90, O a)]) s') bF ?_ ?_ ?_
  ·have co := cn.nilArr encEdge 73
   have eO := co.nilArr encBool 4
   exact fq
  ·intro n dN ec er g7 cF bL ae cW
   obtain ⟨ar, au, aE⟩ := dN
   replace ae := Qaz ae
   obtain ⟨fO, ag, aj, fn, cp, ⟨et, rfl⟩⟩ := bL
   obtain ⟨an, du, ae⟩ := V ae
   refine G ?_
   refine Tc Z Z Z Z (Qii du cp.f4 rq rq rq rq rq).r ?_
   rintro _ g8 ⟨dC, fo, cq, rfl⟩
   obtain ⟨al, bG, ae⟩ := V ae
   refine G ?_
   refine QH (fun k' s' f' w' => (fun (al : Bool) => ∃ (bq : PHeap) , PHeap.le dC bq ∧ St w0 bq (Res.box i 26 [x, y, o, p] :: Res.box j 38 [O 0, O 0, Vn, Vn, Vn] :: Res.box l 38 [O a, O u, d, ag, aj] :: Res.arr (Qu (U .i64)) 22 m af :: Res.arr (U .i64) 3 t an :: Res.arr (U .i64) 3 d ah :: Res.arr encEdge 73 ag ar :: Res.arr encBool 4 aj au :: H) w' ∧ Fx f' [(102, O (k' : Int)), (1, ac), (2, Vq i), (4, Vq j), (9, Vq l), (10, m), (15, t), (16, O ((n : Int))), (17, Vb al), (90, O a), (91, O ((n : Int))), (100, o), (101, O ((aa.Goal.length : Int)))]) s') bG ?_ ?_ ?_
   ·have eP := cq.f7
    exact fq
   ·intro dc al dD eu g9 cG bM ao
    obtain ⟨br, fp, ba, ⟨ev, rfl⟩⟩ := bM
    obtain ⟨gY, dv, ao⟩ := V ao
    refine G ?_
    refine Jt Z Z Z dv ?_
    intro dU fE bC
    refine G ?_
    refine Zw (E := encFact) ba A77.h Z Z Z bC ?_
    intro gf dw
    obtain rfl := KH.1 dw
    refine G ?_
    refine Exec.alloc (cs := [O 0, O 0]) ba Z77 Z Z ?_
    intro dV gA eQ
    refine G ?_
    refine JU Z Z Z ?_
    intro gB a8
    obtain ⟨a6, z, ao⟩ := V ao
    refine g ?_
    refine Qo (M := fun f' w' => (fun (a6 : Bool) => ∃ (bs : PHeap) , PHeap.le br bs ∧ St w0 bs (Res.box i 26 [x, y, o, p] :: Res.box j 38 [O 0, O 0, Vn, Vn, Vn] :: Res.box l 38 [O a, O u, d, ag, aj] :: Res.arr (Qu (U .i64)) 22 m af :: Res.arr (U .i64) 3 t an :: Res.arr (U .i64) 3 d ah :: Res.arr encEdge 73 ag ar :: Res.arr encBool 4 aj au :: H) w' ∧ Fx f' [(1, ac), (2, Vq i), (4, Vq j), (9, Vq l), (10, m), (15, t), (16, O ((n : Int))), (17, Vb a6), (90, O a), (91, O ((n : Int))), (100, o), (101, O ((aa.Goal.length : Int))), (102, O ((dc : Int)))]) a6) ?_ ?_
    ·refine Jz (n0 := 18) (qs 0 5 (.e 5 [] (qs 6 12 .done))) J2 (by kernel_rfl) (by kernel_rfl) (G ?_)
     rcases Qp z with ⟨cB, z⟩ | ⟨cB, z⟩
     ·refine G ?_
      refine Zn (a8.drew) A3.h Z Z Z ⟨Z, ?_⟩
      obtain ⟨hg, dx, z⟩ := V z
      refine G ?_
      refine Tc Z Z Z Z (Ji dx a8.drew rq).r ?_
      rintro _ gC ⟨dE, dd, a9, rfl⟩
      refine ⟨YD, ?_⟩
      refine G ?_
      rcases Qp z with ⟨cC, z⟩ | ⟨cC, z⟩
      ·cases z
       refine G ?_
       exact fq
      obtain ⟨gZ, az, z⟩ := V z
      obtain ⟨eI, ed, aW⟩ := (a9.f5).arr_at az
      refine G ?_
      refine Qb S22.h Z aW Z (Qd az).1 (Qd az).2.1 ⟨Z, ?_⟩
      refine G ?_
      refine Qg (F := (U .i64)) (a9.f5) aW A3.h Z Z Z az (Sub.refl _) ?_
      intro gg dy
      obtain rfl := Qf.1 dy
      refine ⟨Z, ?_⟩
      cases z
      refine G ?_
      exact ⟨dE, dd, ((((((((a9.drop).f7).f7).f7).f7).f7).f7).f7).f7, (Fx.mk)⟩
     cases z
     refine G ?_
     exact ⟨br, (Zv _), (((((((((a8.drew).drop).f7).f7).f7).f7).f7).f7).f7).f7, (Fx.mk)⟩
    intro ew gD bU
    obtain ⟨dF, fr, cr, ⟨ex, rfl⟩⟩ := bU
    have eg := Zu ao
    subst dD
    refine G ?_
    exact ⟨dF, lq, (((((((cr.f7).f7).f7).f7).f7).f7).f7).f7, (Fx.mk (FxL.cons (QD cG (SliceRep.le rq)) fxl))⟩
   intro ey gE bN
   obtain ⟨aI, fs, ct, ⟨ez, rfl⟩⟩ := bN
   refine G ?_
   refine Exec.buildSlice (Te := 4) (cs := [Vb al]) ct Z (Qc (c := [Vb al]) (Qe Z Z) Qh) (fun _ => by kernel_rfl) ?_
   intro dW gF cu
   obtain ⟨ax, dz, ae⟩ := V ae
   refine G ?_
   refine Qt (E := encBool) (ys := [al]) cu.f8 S36.h Z4 Z (by decide) Z Z Z Z ⟨[Vb al], [], Z, Z, Z⟩ Z dz ?_
   intro ad gG aA
   refine G ?_
   refine Qq (ds := [ad]) (es := [O a, O u, d, ag, ad]) aA.f3 A36.h Z Z Z (Ql ((aA.f3).f1).arr_one) (Zj ((aA.f3).f1).arr_one Ja) (Nat.le_of_ble_eq_true Z) Z ?_
   intro gH cv
   obtain ⟨aR, bH, cS, cK, c6⟩ := Qs ae
   refine g ?_
   refine Zc (Zd (g ?_))
   refine Qo (M := fun f' w' => ∃ s', (aR = .next s' ∨ aR = .brk s') ∧ (fun (bh : (List Edge)) => ∃ (bt : PHeap) (a2 : Value), PHeap.le aI bt ∧ St w0 bt (Res.box i 26 [x, y, o, p] :: Res.box j 38 [O 0, O 0, Vn, Vn, Vn] :: Res.box l 38 [O a, O u, d, a2, ad] :: Res.arr (Qu (U .i64)) 22 m af :: Res.arr (U .i64) 3 t an :: Res.arr (U .i64) 3 d ah :: Res.arr encEdge 73 a2 bh :: Res.arr encBool 4 ad ax :: H) w' ∧ Fx f' [(1, ac), (2, Vq i), (4, Vq j), (9, Vq l), (10, m), (15, t), (16, O ((n : Int))), (90, O a), (91, O ((n : Int))), (133, O ((aa.Ops.length : Int)))]) s') ?_ ?_
   ·refine G ?_
    refine QP (fun k' s' f' w' => (fun (aF : (List Edge)) => ∃ (bu : PHeap) (a3 : Value), PHeap.le aI bu ∧ St w0 bu (Res.box i 26 [x, y, o, p] :: Res.box j 38 [O 0, O 0, Vn, Vn, Vn] :: Res.box l 38 [O a, O u, d, a3, ad] :: Res.arr (Qu (U .i64)) 22 m af :: Res.arr (U .i64) 3 t an :: Res.arr (U .i64) 3 d ah :: Res.arr encEdge 73 a3 aF :: Res.arr encBool 4 ad ax :: H) w' ∧ Fx f' [(134, O (k' : Int)), (1, ac), (2, Vq i), (4, Vq j), (9, Vq l), (10, m), (15, t), (16, O ((n : Int))), (90, O a), (91, O ((n : Int))), (133, O ((aa.Ops.length : Int)))]) s') bH ?_ ?_ ?_
    ·have cw := cv.f1
     exact ⟨aI, ag, (Zv _), ((((((cw.f7).f7).f7).f7).f5).f7).f7, (Fx.mk)⟩
    ·intro ab aF aS e0 gI eY bO am cX
     obtain ⟨fP, a3, ft, aw, ⟨e1, rfl⟩⟩ := bO
     refine G ?_
     refine Jz (n0 := 11) (qs 0 8 (.q 10 (.e 8 [10] (.q 9 .done)))) J2 (by kernel_rfl) (by kernel_rfl) (G ?_)
     refine Q4 (ds := [x, y, o, p]) (aw.drew) A26.h Z Z Z ⟨Z, ?_⟩
     obtain ⟨ha, a0, am⟩ := V am
     obtain ⟨eJ, ee, aX⟩ := ((aw.drew).f3).arr_at a0
     refine G ?_
     refine Qb S44.h Z aX Z (Qd a0).1 (Qd a0).2.1 ⟨Z, ?_⟩
     refine G ?_
     refine Qg (F := (Qu (U .i64))) ((aw.drew).f3) aX A22.h Z Z Z a0 (Sub.refl _) ?_
     intro gh d0
     have d9 := Jb.1 d0
     refine ⟨Z, ?_⟩
     obtain ⟨b3, d1, am⟩ := V am
     refine G ?_
     refine Tc Z Z Z Z (QdK d1 aw.drew rq rq rq rq rq d9).r ?_
     rintro b2 gJ ⟨bv, _, fu, cx, rfl, dA⟩
     refine ⟨YD, ?_⟩
     obtain ⟨aT, bI, cT, cL, c7⟩ := Qs am
     refine g ?_
     refine Qo (M := fun f' w' => ∃ s', (aT = .next s' ∨ aT = .brk s') ∧ (fun (bi : (List Edge)) => ∃ (bw : PHeap) (aM : Value), PHeap.le bv bw ∧ St w0 bw (Res.box i 26 [x, y, o, p] :: Res.box j 38 [O 0, O 0, Vn, Vn, Vn] :: Res.box l 38 [O a, O u, d, aM, ad] :: Res.arr (Qu (U .i64)) 22 m af :: Res.arr (U .i64) 3 t an :: Res.arr (U .i64) 3 d ah :: Res.arr encEdge 73 aM bi :: Res.arr encBool 4 ad ax :: H) w' ∧ Fx f' [(1, ac), (2, Vq i), (4, Vq j), (9, Vq l), (10, m), (15, t), (16, O ((n : Int))), (20, O ((ab : Int))), (90, O a), (91, O ((n : Int))), (133, O ((aa.Ops.length : Int))), (134, O ((ab : Int))), (145, b2), (146, O ((b3.length : Int)))]) s') ?_ ?_
     ·refine G ?_
      refine QP (fun k' s' f' w' => (fun (aG : (List Edge)) => ∃ (bx : PHeap) (a4 : Value), PHeap.le bv bx ∧ St w0 bx (Res.box i 26 [x, y, o, p] :: Res.box j 38 [O 0, O 0, Vn, Vn, Vn] :: Res.box l 38 [O a, O u, d, a4, ad] :: Res.arr (Qu (U .i64)) 22 m af :: Res.arr (U .i64) 3 t an :: Res.arr (U .i64) 3 d ah :: Res.arr encEdge 73 a4 aG :: Res.arr encBool 4 ad ax :: H) w' ∧ Fx f' [(147, O (k' : Int)), (1, ac), (2, Vq i), (4, Vq j), (9, Vq l), (10, m), (15, t), (16, O ((n : Int))), (20, O ((ab : Int))), (90, O a), (91, O ((n : Int))), (133, O ((aa.Ops.length : Int))), (134, O ((ab : Int))), (145, b2), (146, O ((b3.length : Int)))]) s') bI ?_ ?_ ?_
      ·have eR := cx.f7
       exact fq
      ·intro fa aG ef e2 gK cH bP ai cY
       obtain ⟨dG, a4, de, aB, ⟨e3, rfl⟩⟩ := bP
       obtain ⟨ak, d2, ai⟩ := V ai
       refine G ?_
       refine Jt Z Z Z d2 ?_
       intro dX fF bD
       refine G ?_
       refine Zw (E := (U .i64)) aB A3.h Z Z Z bD ?_
       intro gi d3
       obtain rfl := Qf.1 d3
       refine G ?_
       refine Qw (aB.f6) S35.h Z Z (G ?_)
       rcases Qp ai with ⟨cD, ai⟩ | ⟨cD, ai⟩
       ·refine G ?_
        refine Exec.build Z Qh (v := Value.agg #[O 0, O 0, Vn, Vn, Vn]) (fun _ => by kernel_rfl) (G ?_)
        refine Exec.makeInterface C57 Z Z (G ?_)
        refine JU Z Z Z ?_
        intro gL cy
        cases ai
        have cN := cT _ (cY (by intro _ h; cases h))
        have eh := Zu cN
        subst aS
        have cO := cS _ (cX (by intro _ h; cases h))
        cases cO
        have cP := cR _ (cW (by intro _ h; cases h))
        have ei := Zu cP
        subst r
        refine G ?_
        refine ⟨_, Yg Z ⟨_, _, Z, Je (cy) A38.h⟩ Z, ?_⟩
        exact fq
       refine G ?_
       refine Exec.build Z (Qc (c := [O ((n : Int))]) (Qe Z Z) (Qc (c := [O ((ab : Int))]) (Qe Z Z) (Qc (c := [O ak]) (Qe Z Z) Qh))) (v := Value.agg #[O ((n : Int)), O ((ab : Int)), O ak]) (fun _ => by kernel_rfl) (G ?_)
       refine Exec.buildSlice (Te := 73) (cs := [O ((n : Int)), O ((ab : Int)), O ak]) aB Z (Qc (c := [O ((n : Int)), O ((ab : Int)), O ak]) (Qe Z Z) Qh) (fun _ => by kernel_rfl) ?_
       intro dY gM cz
       obtain ⟨fv, d4, ai⟩ := V ai
       refine G ?_
       refine Qt (E := encEdge) (ys := [(⟨(n : Int), (ab : Int), ak⟩ : Edge)]) cz.f7 S35.h Z73 Z (by decide) Z Z Z Z ⟨[O ((n : Int)), O ((ab : Int)), O ak], [], Z, ⟨[O ((n : Int))], [O ((ab : Int)), O ak], Z, Z, ⟨[O ((ab : Int))], [O ak], Z, Z, Z⟩⟩, Z⟩ Z d4 ?_
       intro aN gN aC
       refine G ?_
       refine Qq (ds := [aN]) (es := [O a, O u, d, aN, ad]) aC.f3 A35.h Z Z Z (Ql ((aC.f3).f1).arr_one) (Zj ((aC.f3).f1).arr_one Ja) (Nat.le_of_ble_eq_true Z) Z ?_
       intro gO c0
       cases ai
       refine G ?_
       refine ⟨_, Z, ?_⟩; exact ⟨dG, aN, de, (((((((c0.f7).f2).f7).f7).f7).f5).f7).f7, (Fx.mk (FxL.cons (QD cH (SliceRep.le dA)) fxl))⟩
      intro aG e4 gP bQ cZ
      obtain ⟨fQ, a4, fw, eS, ⟨e5, rfl⟩⟩ := bQ
      refine G ?_
      exact ⟨_, .inl cZ, fq⟩
     rintro e6 gQ ⟨bi, bd, bV⟩
     have am := bd.elim (cL _) (c7 _)
     clear bd
     obtain ⟨fR, aM, fx, eT, ⟨e7, rfl⟩⟩ := bV
     have ej := Zu am
     subst aS
     refine G ?_
     exact ⟨_, Z, fq⟩
    intro aF e8 gR bR da
    obtain ⟨fS, a3, fy, eU, ⟨e9, rfl⟩⟩ := bR
    refine G ?_
    exact ⟨_, .inl da, fq⟩
   rintro eA gS ⟨bh, be, bW⟩
   have ae := be.elim (cK _) (c6 _)
   clear be
   obtain ⟨dH, a2, fz, c1, ⟨eB, rfl⟩⟩ := bW
   cases ae
   refine G ?_
   refine ⟨_, Z, ?_⟩; exact ⟨dH, a2, ad, lq, (((((((c1.f7).f7).f7).f7).f7).f7).f7).f7, (Fx.mk (FxL.cons (QD cF (by have h := Qr dt; simp at h; simp only [maxLen]; omega)) fxl))⟩
  intro dO eC gT bS db
  obtain ⟨ar, au, aE⟩ := dO
  obtain ⟨fT, ag, aj, f0, eV, ⟨eD, rfl⟩⟩ := bS
  refine G ?_
  exact ⟨_, .inl db, fq⟩
 rintro eE gU ⟨dP, bf, bX⟩
 have hm := bf.elim (cJ _) (c5 _)
 clear bf
 obtain ⟨b4, b5, bg⟩ := dP
 replace hm := Qaz hm
 obtain ⟨fU, aK, aL, f9, eW, ⟨eF, rfl⟩⟩ := bX
 refine G ?_
 refine JU Z Z Z ?_
 intro gV bb
 cases hm
 refine G ?_
 refine ⟨_, Yg Z ⟨_, _, Z, Je (bb) A38.h⟩ Z, ?_⟩
 obtain ⟨fV, fA, c2, fG⟩ := bb.f5.freezeArr
 obtain ⟨fW, fB, c3, fH⟩ := c2.f5.freezeArr
 obtain ⟨fX, fC, eX, fI⟩ := c3.f5.freezeArr
 exact fq
theorem Qdr {w0 w : World} {s : PHeap} {H : List Res} {b : Int} {r : Int} (hm : JJ b = some r) (hS : St w0 s (H) w) :
  Calls Tryz.prog 39 #[O b] w fun e w' => ∃ v, e = .returned v ∧ ((fun (y : Int) => ∃ (k : PHeap) , PHeap.le s k ∧ St w0 k (H) w' ∧ v = O y) r) := by
 unfold JJ at hm
 refine Qj Tryz.func39 Z Z ?_
 obtain ⟨c, n, ag, u, q⟩ := Qs hm
 refine Zc (Zd (g ?_))
 refine Zc (Zd (g ?_))
 refine Zc (Qo (M := fun f' w' => ∃ s', (c = .next s' ∨ c = .brk s') ∧ (fun (i : Int) => ∃ (l : PHeap) , PHeap.le s l ∧ St w0 l (H) w' ∧ Fx f' [(0, O b), (3, O i)]) s') ?_ ?_)
 ·refine G ?_
  refine KA (fun s' f' w' => (fun (j : Int) => ∃ (m : PHeap) , PHeap.le s m ∧ St w0 m (H) w' ∧ Fx f' [(0, O b), (3, O j)]) s') n ?_ ?_
  ·exact fq
  intro j z aa al o a x
  obtain ⟨aj, ah, ae, ⟨ab, rfl⟩⟩ := o
  refine G ?_
  rcases Qp a with ⟨t, a⟩ | ⟨t, a⟩
  ·cases a
   refine G ?_
   exact ⟨_, Z, fq⟩
  cases a
  refine G ?_
  exact ⟨_, .inr (x (by intro _ h; cases h)), fq⟩
 rintro ac am ⟨i, d, p⟩
 have hm := d.elim (u _) (q _)
 clear d
 obtain ⟨ak, ai, af, ⟨ad, rfl⟩⟩ := p
 cases hm
 refine G ?_
 exact fr
theorem Qem {w0 w : World} {s : PHeap} {H : List Res} {d : Task} {a : Int} {g : Value} {i : Value} {j : Value} {k : Value} {r : (Option Int) × System} (hm : KX d a = some r) (hS : St w0 s (H) w) (ac : SliceRep (U .i64) s g d.Vars) (ad : SliceRep (U .i64) s i d.Init) (ae : SliceRep encFact s j d.Goal) (af : SliceRep encOp s k d.Ops) :
  Calls Tryz.prog 40 #[Value.agg #[g, i, j, k], O a] w fun e w' => ∃ v, e = .returned v ∧ ((QM fun (ab : (Option Int)) (f : System) => ∃ (b : PHeap) (l : Value) (m : Value) (n : Value), PHeap.le s b ∧ St w0 b (H) w' ∧ v = Value.tuple #[Value.agg #[O (f.States), O (f.Init), l, m, n], Qaw 57 (ab)] ∧ SliceRep (U .i64) b l f.Costs ∧ SliceRep encEdge b m f.Edges ∧ SliceRep encBool b n f.Goals) r) := by
 unfold KX at hm
 refine Qj Tryz.func40 Z Z (G ?_)
 refine JY Z Z ?_
 intro ag aw o
 refine G ?_
 refine Exec.alloc (cs := [O 0, O 0, Vn, Vn, Vn]) o Z38 Z Z ?_
 intro ah ax p
 refine G ?_
 refine Exec.buildSlice (Te := 3) (cs := [O a]) p Z (Qc (c := [O a]) (Qe Z Z) Qh) (fun _ => by kernel_rfl) ?_
 intro ai ay q
 have t := St.boxArr (E := (U .i64)) (xs := [a]) q ⟨[O a], [], rfl, rfl, rfl⟩ (by simp [maxLen])
 obtain ⟨ap, ak, u, z⟩ := t.freezeArr
 obtain ⟨aa, y, hm⟩ := V hm
 obtain ⟨a1, a2⟩ := aa
 replace hm := Q6 hm
 refine G ?_
 refine Tc Z Z Z Z (Qb3 y u rq rq rq rq z).r ?_
 rintro _ az ⟨aq, ar, au, av, al, aj, rfl, am, an, ao⟩
 refine G ?_
 refine JU Z Z Z ?_
 intro a0 x
 cases hm
 refine G ?_
 refine ⟨_, Yg Z ⟨_, _, Z, Je (x) A38.h⟩ Z, ?_⟩
 exact fq
theorem Z75 : Jp Tryz.prog 75 = some (Value.agg #[O 0, Value.slice none 0 0, Value.slice none 0 0, O 0]) := by kernel_rfl
instance A75 : ATy Tryz.prog 75 true 4 := ⟨by kernel_rfl⟩
instance F38_0 : FTy Tryz.prog 38 0 0 := ⟨by kernel_rfl⟩
instance F38_1 : FTy Tryz.prog 38 1 1 := ⟨by kernel_rfl⟩
instance A73 : ATy Tryz.prog 73 true 3 := ⟨by kernel_rfl⟩
instance F73_0 : FTy Tryz.prog 73 0 0 := ⟨by kernel_rfl⟩
instance F73_2 : FTy Tryz.prog 73 2 2 := ⟨by kernel_rfl⟩
instance F73_1 : FTy Tryz.prog 73 1 1 := ⟨by kernel_rfl⟩
theorem QbS {w0 w : World} {s : PHeap} {H : List Res} {b : Int} {r : Bool} (hm : Yb b = some r) (hS : St w0 s (H) w) :
  Calls Tryz.prog 114 #[O b] w fun e w' => ∃ v, e = .returned v ∧ ((fun (c : Bool) => ∃ (a : PHeap) , PHeap.le s a ∧ St w0 a (H) w' ∧ v = Value.bool (c)) r) := by
 unfold Yb at hm
 refine Qj Tryz.func114 Z Z ?_
 cases hm
 refine G ?_
 exact fr
theorem Jm {w0 w : World} {s : PHeap} {H : List Res} {a : Int} {b : Int} {r : Int} (hm : Kd a b = some r) (hS : St w0 s (H) w) :
  Calls Tryz.prog 107 #[O a, O b] w fun e w' => ∃ v, e = .returned v ∧ ((fun (k : Int) => ∃ (c : PHeap) , PHeap.le s c ∧ St w0 c (H) w' ∧ v = O k) r) := by
 unfold Kd at hm
 refine Qj Tryz.func107 Z Z (G ?_)
 refine Tc Z Z Z Z (QbS (Yf a) hS).r ?_
 rintro _ q ⟨o, m, d, rfl⟩
 refine G ?_
 refine Tc Z Z Z Z (QbS (Yf b) d).r ?_
 rintro _ t ⟨p, n, l, rfl⟩
 refine G ?_
 rcases Qp hm with ⟨f, hm⟩ | ⟨f, hm⟩
 ·refine G ?_
  rcases Qp hm with ⟨g, hm⟩ | ⟨g, hm⟩
  ·cases hm
   refine G ?_
   exact fr
  cases hm
  refine G ?_
  exact fr
 refine G ?_
 rcases Qp hm with ⟨h, hm⟩ | ⟨h, hm⟩
 ·cases hm
  refine G ?_
  exact fr
 refine G ?_
 rcases Qp hm with ⟨i, hm⟩ | ⟨i, hm⟩
 ·cases hm
  refine G ?_
  exact fr
 refine G ?_
 rcases Qp hm with ⟨j, hm⟩ | ⟨j, hm⟩
 ·cases hm
  refine G ?_
  exact fr
 cases hm
 refine G ?_
 exact fr
theorem Qby {w0 w : World} {s : PHeap} {H : List Res} {c : (List Int)} {b : Value} {r : Int} (hm : KQ c = some r) (hS : St w0 s (H) w) (ah : SliceRep (U .i64) s b c) :
  Calls Tryz.prog 106 #[b] w fun e w' => ∃ v, e = .returned v ∧ ((fun (ag : Int) => ∃ (j : PHeap) , PHeap.le s j ∧ St w0 j (H) w' ∧ v = O ag) r) := by
 unfold KQ at hm
 refine Qj Tryz.func106 Z Z ?_
 obtain ⟨d, o, ab, z, x⟩ := Qs hm
 refine Zc (Zd (g ?_))
 refine Zc (Zd (g ?_))
 refine Zc (Zc (Zd (g ?_)))
 refine Qo (M := fun f' w' => ∃ s', (d = .next s' ∨ d = .brk s') ∧ (fun (_ : Unit) => ∃ (l : PHeap) , PHeap.le s l ∧ St w0 l (H) w' ∧ Fx f' [(3, O 0), (6, b), (7, O ((c.length : Int)))]) s') ?_ ?_
 ·refine G ?_
  refine QP (fun k' s' f' w' => (fun (_ : Unit) => ∃ (m : PHeap) , PHeap.le s m ∧ St w0 m (H) w' ∧ Fx f' [(8, O (k' : Int)), (3, O 0), (6, b), (7, O ((c.length : Int)))]) s') o ?_ ?_ ?_
  ·exact fq
  ·intro av a3 aj ak a7 au p a ac
   obtain ⟨a0, aw, u, ⟨al, rfl⟩⟩ := p
   obtain ⟨aA, ae, a⟩ := V a
   refine G ?_
   refine Jt Z Z Z ae ?_
   intro ai az n
   refine G ?_
   refine Zw (E := (U .i64)) u A3.h Z Z Z n ?_
   intro a6 af
   obtain rfl := Qf.1 af
   refine G ?_
   rcases Qp a with ⟨y, a⟩ | ⟨y, a⟩
   ·cases a
    have aa := ab _ (ac (by intro _ h; cases h))
    cases aa
    refine G ?_
    exact fr
   cases a
   refine G ?_
   exact ⟨_, Z, fq⟩
  intro a4 am a8 q ad
  obtain ⟨a1, ax, aq, ⟨an, rfl⟩⟩ := q
  refine G ?_
  exact ⟨_, .inl ad, fq⟩
 rintro ao a9 ⟨a5, i, t⟩
 have hm := i.elim (z _) (x _)
 clear i
 obtain ⟨a2, ay, ar, ⟨ap, rfl⟩⟩ := t
 cases hm
 refine G ?_
 exact fr
theorem Qb1 {w0 w : World} {s : PHeap} {H : List Res} {a : Edge} {b : Edge} {r : Int} (hm : Kk a b = some r) (hS : St w0 s (H) w) :
  Calls Tryz.prog 75 #[Value.agg #[O (a.From), O (a.Label), O (a.To)], Value.agg #[O (b.From), O (b.Label), O (b.To)]] w fun e w' => ∃ v, e = .returned v ∧ ((fun (p : Int) => ∃ (d : PHeap) , PHeap.le s d ∧ St w0 d (H) w' ∧ v = O p) r) := by
 unfold Kk at hm
 refine Qj Tryz.func75 Z Z (G ?_)
 refine JY Z Z ?_
 intro q aj x
 refine G ?_
 refine JY Z Z ?_
 intro t ak f
 refine G ?_
 refine Jz (n0 := 17) (qs 0 4 (qs 5 4 (qs 10 4 (.e 4 [5, 6, 7, 8, 10, 11, 12, 13] (.e 9 [10, 11, 12, 13] (.e 14 [] (.e 15 [] (.e 16 [] .done)))))))) J2 (by kernel_rfl) (by kernel_rfl) ?_
 have g := f.drew
 refine G ?_
 refine Tc Z Z Z Z (Jm (Jd a.From b.From) g).r ?_
 rintro _ al ⟨ae, z, h, rfl⟩
 refine ⟨YD, ?_⟩
 refine G ?_
 refine Tc Z Z Z Z (Jm (Jd a.Label b.Label) h).r ?_
 rintro _ am ⟨af, aa, i, rfl⟩
 refine ⟨YD, ?_⟩
 refine G ?_
 refine Tc Z Z Z Z (Jm (Jd a.To b.To) i).r ?_
 rintro _ an ⟨ag, ab, j, rfl⟩
 refine ⟨YD, ?_⟩
 refine G ?_
 refine Exec.buildSlice (Te := 3) (cs := [O ((Qk a.From b.From)), O ((Qk a.Label b.Label)), O ((Qk a.To b.To))]) j Z (Qc (c := [O ((Qk a.From b.From))]) (Qe Z Z) (Qc (c := [O ((Qk a.Label b.Label))]) (Qe Z Z) (Qc (c := [O ((Qk a.To b.To))]) (Qe Z Z) Qh))) (fun _ => by kernel_rfl) ?_
 intro u ao k
 refine ⟨YD, ?_⟩
 have l := St.boxArr (E := (U .i64)) (xs := [(Qk a.From b.From), (Qk a.Label b.Label), (Qk a.To b.To)]) k ⟨[O ((Qk a.From b.From))], [O ((Qk a.Label b.Label)), O ((Qk a.To b.To))], rfl, rfl, ⟨[O ((Qk a.Label b.Label))], [O ((Qk a.To b.To))], rfl, rfl, ⟨[O ((Qk a.To b.To))], [], rfl, rfl, rfl⟩⟩⟩ (by simp [maxLen])
 obtain ⟨ah, ac, m, o⟩ := l.freezeArr
 obtain ⟨aq, n, hm⟩ := V hm
 refine G ?_
 refine Tc Z Z Z Z (Qby n m o).r ?_
 rintro _ ap ⟨ai, ad, y, rfl⟩
 refine ⟨YD, ?_⟩
 cases hm
 refine G ?_
 exact fr
theorem KI {w0 w : World} {s : PHeap} {H : List Res} {a : System} {d : Value} {i : Value} {l : Value} {r : Bool} (hm : JE a = some r) (hS : St w0 s (H) w) (bk : SliceRep (U .i64) s d a.Costs) (ak : SliceRep encEdge s i a.Edges) (bl : SliceRep encBool s l a.Goals) :
  Calls Tryz.prog 43 #[Value.agg #[O (a.States), O (a.Init), d, i, l]] w fun e w' => ∃ v, e = .returned v ∧ ((fun (bj : Bool) => ∃ (aa : PHeap) , PHeap.le s aa ∧ St w0 aa (H) w' ∧ v = Value.bool (bj)) r) := by
 unfold JE at hm
 refine Qj Tryz.func43 Z Z (G ?_)
 refine JY Z Z ?_
 intro c cn bC
 refine g ?_
 refine Zc (Zc (Qo (M := fun f' w' => ∃ (ab : PHeap) , PHeap.le s ab ∧ St w0 ab (Res.box c 38 [O (a.States), O (a.Init), d, i, l] :: H) w' ∧ Fx f' [(1, Vq c), (46, Vb (((decide (a.States < 1)) || ((decide (4096 < a.States)) || ((decide (a.Init < 0)) || ((decide (a.States ≤ a.Init)) || ((!decide ((a.Goals.length : Int) = a.States)) || ((decide (4096 < (a.Costs.length : Int))) || decide (65536 < (a.Edges.length : Int))))))))))]) ?_ ?_))
 ·refine G ?_
  rcases tf (decide (a.States < 1)) with a5 | a5
  ·refine G ?_
   exact fq
  refine G ?_
  rcases tf (decide (4096 < a.States)) with a6 | a6
  ·refine G ?_
   exact fq
  refine G ?_
  rcases tf (decide (a.Init < 0)) with a7 | a7
  ·refine G ?_
   exact fq
  refine G ?_
  rcases tf (decide (a.States ≤ a.Init)) with a8 | a8
  ·refine G ?_
   exact fq
  refine G ?_
  rcases tf (!decide ((a.Goals.length : Int) = a.States)) with a9 | a9
  ·refine G ?_
   exact fq
  refine G ?_
  rcases tf (decide (4096 < (a.Costs.length : Int))) with aA | aA
  ·refine G ?_
   exact fq
  refine G ?_
  exact fq
 intro bt co aw
 obtain ⟨ac, aX, bD, ⟨bu, rfl⟩⟩ := aw
 refine G ?_
 rcases Qp hm with ⟨x, hm⟩ | ⟨x, hm⟩
 ·cases hm
  refine G ?_
  exact fr
 obtain ⟨p, ao, aP, aL, a3⟩ := Qs hm
 refine W_c Z x (QaN (J3 (Ze (Zc (Zc (Zd (g ?_)))))))
 refine Qo (M := fun f' w' => ∃ s', (p = .next s' ∨ p = .brk s') ∧ (fun (_ : Unit) => ∃ (ad : PHeap) , PHeap.le ac ad ∧ St w0 ad (Res.box c 38 [O (a.States), O (a.Init), d, i, l] :: H) w' ∧ Fx f' [(1, Vq c), (48, d), (49, O ((a.Costs.length : Int)))]) s') ?_ ?_
 ·refine G ?_
  refine QP (fun k' s' f' w' => (fun (_ : Unit) => ∃ (ae : PHeap) , PHeap.le ac ae ∧ St w0 ae (Res.box c 38 [O (a.States), O (a.Init), d, i, l] :: H) w' ∧ Fx f' [(50, O (k' : Int)), (1, Vq c), (48, d), (49, O ((a.Costs.length : Int)))]) s') ao ?_ ?_ ?_
  ·exact fq
  ·intro aV ce bq bv cp bM aq m aR
   obtain ⟨bh, bO, a1, ⟨bw, rfl⟩⟩ := aq
   obtain ⟨n, ba, m⟩ := V m
   refine G ?_
   refine Jt Z Z Z ba ?_
   intro bm bV al
   refine G ?_
   refine Zw (E := (U .i64)) a1 A3.h Z Z Z al ?_
   intro ck bb
   obtain rfl := Qf.1 bb
   refine g ?_
   refine Zc (Qo (M := fun f' w' => ∃ (af : PHeap) , PHeap.le bh af ∧ St w0 af (Res.box c 38 [O (a.States), O (a.Init), d, i, l] :: H) w' ∧ Fx f' [(1, Vq c), (48, d), (49, O ((a.Costs.length : Int))), (50, O ((aV : Int))), (59, Vb (((decide (n < 0)) || decide (1048576 < n))))]) ?_ ?_)
   ·refine G ?_
    rcases tf (decide (n < 0)) with aB | aB
    ·refine G ?_
     exact fq
    refine G ?_
    exact fq
   intro bx cq ax
   obtain ⟨bY, bP, bE, ⟨bz, rfl⟩⟩ := ax
   refine G ?_
   rcases Qp m with ⟨aC, m⟩ | ⟨aC, m⟩
   ·cases m
    have aN := aP _ (aR (by intro _ h; cases h))
    cases aN
    refine G ?_
    exact fr
   cases m
   refine G ?_
   exact ⟨_, Z, fq⟩
  intro cf b0 cr ar aS
  obtain ⟨bZ, bQ, bF, ⟨b1, rfl⟩⟩ := ar
  refine G ?_
  exact ⟨_, .inl aS, fq⟩
 rintro b2 ct ⟨cg, y, ay⟩
 have hm := y.elim (aL _) (a3 _)
 clear y
 obtain ⟨ag, aY, bG, ⟨b3, rfl⟩⟩ := ay
 obtain ⟨q, ap, aQ, aM, a4⟩ := Qs hm
 refine g ?_
 refine Zc (Zc (Zd (g ?_)))
 refine Qo (M := fun f' w' => ∃ s', (q = .next s' ∨ q = .brk s') ∧ (fun (_ : Unit) => ∃ (ah : PHeap) , PHeap.le ag ah ∧ St w0 ah (Res.box c 38 [O (a.States), O (a.Init), d, i, l] :: H) w' ∧ Fx f' [(1, Vq c), (62, i), (63, O ((a.Edges.length : Int)))]) s') ?_ ?_
 ·refine G ?_
  refine QP (fun k' s' f' w' => (fun (_ : Unit) => ∃ (ai : PHeap) , PHeap.le ag ai ∧ St w0 ai (Res.box c 38 [O (a.States), O (a.Init), d, i, l] :: H) w' ∧ Fx f' [(64, O (k' : Int)), (1, Vq c), (62, i), (63, O ((a.Edges.length : Int)))]) s') ap ?_ ?_ ?_
  ·exact fq
  ·intro aW ch br b4 cu bN au j aT
   obtain ⟨bi, aZ, t, ⟨b5, rfl⟩⟩ := au
   obtain ⟨c1, bc, j⟩ := V j
   refine G ?_
   refine Jt Z Z Z bc ?_
   intro bn bW am
   refine G ?_
   refine Zw (E := encEdge) t A73.h Z Z Z am ?_
   intro cl bd
   obtain rfl := QK.1 bd
   refine G ?_
   refine Exec.alloc (cs := [O 0, O 0, O 0]) t Z73 Z Z ?_
   intro bo cv bH
   refine G ?_
   refine JU Z Z Z ?_
   intro cw a2
   obtain ⟨o, b, j⟩ := V j
   refine g ?_
   refine Zc (Qo (M := fun f' w' => (fun (o : Bool) => ∃ (aj : PHeap) , PHeap.le bi aj ∧ St w0 aj (Res.box c 38 [O (a.States), O (a.Init), d, i, l] :: H) w' ∧ Fx f' [(1, Vq c), (62, i), (63, O ((a.Edges.length : Int))), (64, O ((aW : Int))), (118, Vb o)]) o) ?_ ?_)
   ·refine Jz (n0 := 50) (qs 0 46 (.e 46 [] (qs 47 3 .done))) J2 (by kernel_rfl) (by kernel_rfl) ?_
    have u := a2.drew
    refine G ?_
    rcases Qp b with ⟨aD, b⟩ | ⟨aD, b⟩
    ·cases b
     refine G ?_
     exact fq
    refine G ?_
    rcases Qp b with ⟨aE, b⟩ | ⟨aE, b⟩
    ·cases b
     refine G ?_
     exact fq
    refine G ?_
    rcases Qp b with ⟨aF, b⟩ | ⟨aF, b⟩
    ·cases b
     refine G ?_
     exact fq
    refine G ?_
    rcases Qp b with ⟨aG, b⟩ | ⟨aG, b⟩
    ·cases b
     refine G ?_
     exact fq
    refine G ?_
    rcases Qp b with ⟨aH, b⟩ | ⟨aH, b⟩
    ·cases b
     refine G ?_
     exact fq
    refine G ?_
    rcases Qp b with ⟨aI, b⟩ | ⟨aI, b⟩
    ·cases b
     refine G ?_
     exact fq
    refine G ?_
    rcases Qp b with ⟨aJ, b⟩ | ⟨aJ, b⟩
    ·obtain ⟨c2, be, b⟩ := V b
     refine G ?_
     refine Qm S35.h Z Z Z (ak.mono (Zt (Zt aX aY) aZ)) be ?_
     intro bp bX an bs
     refine ⟨Z, ?_⟩
     refine G ?_
     refine Zw (E := encEdge) u A73.h Z Z Z an ?_
     intro cm bf
     obtain rfl := QK.1 bf
     refine ⟨Z, ?_⟩
     obtain ⟨c3, bg, b⟩ := V b
     refine G ?_
     refine Tc Z Z Z Z (Qb1 bg u).r ?_
     rintro _ cx ⟨ca, bR, bI, rfl⟩
     refine ⟨YD, ?_⟩
     cases b
     refine G ?_
     exact fq
    cases b
    refine G ?_
    exact fq
   intro b6 cy az
   obtain ⟨cb, bS, bJ, ⟨b7, rfl⟩⟩ := az
   refine G ?_
   rcases Qp j with ⟨aK, j⟩ | ⟨aK, j⟩
   ·cases j
    have aO := aQ _ (aT (by intro _ h; cases h))
    cases aO
    refine G ?_
    exact fr
   cases j
   refine G ?_
   exact ⟨_, Z, fq⟩
  intro ci b8 cz av aU
  obtain ⟨cc, bT, bK, ⟨b9, rfl⟩⟩ := av
  refine G ?_
  exact ⟨_, .inl aU, fq⟩
 rintro bA c0 ⟨cj, z, a0⟩
 have hm := z.elim (aM _) (a4 _)
 clear z
 obtain ⟨cd, bU, bL, ⟨bB, rfl⟩⟩ := a0
 cases hm
 refine G ?_
 exact fr
instance S151 : STy Tryz.prog 151 9 1 16 := ⟨by kernel_rfl⟩
theorem Z9 : Jp Tryz.prog 9 = some (Value.string ⟨#[]⟩) := by kernel_rfl
instance A4 : ATy Tryz.prog 4 false 1 := ⟨by kernel_rfl⟩
theorem QbV {w0 w : World} {s : PHeap} {H : List Res} {a : Bool} {r : ByteArray} (hm : JB a = some r) (hS : St w0 s (H) w) :
  Calls Tryz.prog 118 #[Value.bool (a)] w fun e w' => ∃ v, e = .returned v ∧ ((fun (d : ByteArray) => ∃ (b : PHeap) , PHeap.le s b ∧ St w0 b (H) w' ∧ v = Value.string (d)) r) := by
 unfold JB at hm
 refine Qj Tryz.func118 Z Z (G ?_)
 rcases Qp hm with ⟨c, hm⟩ | ⟨c, hm⟩
 ·cases hm
  refine G ?_
  exact fr
 cases hm
 refine G ?_
 exact fr
theorem QcK {w0 w : World} {s : PHeap} {H : List Res} {a : Bool} {r : ByteArray} (hm : Kh a = some r) (hS : St w0 s (H) w) :
  Calls Tryz.prog 100 #[Value.bool (a)] w fun e w' => ∃ v, e = .returned v ∧ ((fun (c : ByteArray) => ∃ (b : PHeap) , PHeap.le s b ∧ St w0 b (H) w' ∧ v = Value.string (c)) r) := by
 unfold Kh at hm
 refine Qj Tryz.func100 Z Z (G ?_)
 refine Tc Z Z Z Z (QbV (YC a) hS).r ?_
 rintro _ h ⟨g, f, d, rfl⟩
 cases hm
 refine G ?_
 exact fr
theorem QaM {w0 w : World} {s : PHeap} {H : List Res} {d : (List ByteArray)} {i : Value} {r : (List Int) × Int} (hm : JT d = some r) (hS : St w0 s (Res.arr encStr 9 i d :: H) w) :
  Calls Tryz.prog 101 #[i] w fun e w' => ∃ v, e = .returned v ∧ ((QM fun (az : (List Int)) (a0 : Int) => ∃ (y : PHeap) (ac : Value), PHeap.le s y ∧ St w0 y (Res.arr encStr 9 i d :: Res.arr (U .i64) 3 ac az :: H) w' ∧ v = Value.tuple #[ac, O a0]) r) := by
 unfold JT at hm
 refine Qj Tryz.func101 Z Z (G ?_)
 refine Qh0 (k := 9) (e := 3) hS Z ?_
 intro n aL q
 refine G ?_
 refine Qw (q.f1) S151.h Z Z ?_
 obtain ⟨aw, ad, hm⟩ := V hm
 refine G ?_
 refine QH (fun k' s' f' w' => (QM fun (o : (List Int)) (t : Qcl) => ∃ (z : PHeap) (l : Value), PHeap.le s z ∧ St w0 z (Res.arr encStr 9 i d :: Res.smap Tryz.prog 9 3 n t :: Res.arr (U .i64) 3 l o :: H) w' ∧ Fx f' [(13, O (k' : Int)), (4, Value.map (some n)), (5, l), (11, i), (12, O ((d.length : Int)))]) s') ad ?_ ?_ ?_
 ·have aA := q.nilArr (U .i64) 3
  exact fq
 ·intro an ax aI a3 aM am ae a
  obtain ⟨o, t⟩ := ax
  replace a := Q6 a
  obtain ⟨au, l, aC, m, ⟨a4, rfl⟩⟩ := ae
  obtain ⟨aS, p, a⟩ := V a
  obtain ⟨a9, a2, u⟩ := m.arr_at p
  refine G ?_
  refine Qb S151.h Z u Z (Qd p).1 (Qd p).2.1 (G ?_)
  refine Qg (F := encStr) (m) u A9.h Z Z Z p (Sub.refl _) ?_
  intro aK ao
  obtain rfl := Qek.1 ao
  obtain ⟨aH, ap, a⟩ := V a
  refine G ?_
  refine Qi5 (m.f1) ⟨Tryz.underlying170, Tryz.underlying9, Tryz.underlying3⟩ Z3 Z Z Z ap ?_
  obtain ⟨ab, b, a⟩ := V a
  refine g ?_
  refine Zc (Zc (Zd (g ?_)))
  refine Qo (M := fun f' w' => (QM fun (j : Int) (x : Qcl) => ∃ (aa : PHeap) , PHeap.le au aa ∧ St w0 aa (Res.arr encStr 9 i d :: Res.smap Tryz.prog 9 3 n x :: Res.arr (U .i64) 3 l o :: H) w' ∧ Fx f' [(4, Value.map (some n)), (5, l), (8, O j), (11, i), (12, O ((d.length : Int))), (13, O ((an : Int)))]) ab) ?_ ?_
  ·rcases Qp b with ⟨al, b⟩ | ⟨al, b⟩
   ·refine G ?_
    refine QeJ (m.f1) ⟨Tryz.underlying170, Tryz.underlying9, Tryz.underlying3⟩ Z Z ?_
    obtain ⟨aG, aq, b⟩ := V b
    refine G ?_
    refine Qi4 m.f1 ⟨Tryz.underlying170, Tryz.underlying9, Tryz.underlying3⟩ Z Z Z Z aq ?_
    intro aN aB
    cases b
    refine G ?_
    exact fq
   cases b
   refine G ?_
   exact fq
  intro a5 aO ag
  obtain ⟨j, x⟩ := ab
  replace a := Q6 a
  obtain ⟨av, aD, ah, ⟨a6, rfl⟩⟩ := ag
  refine G ?_
  refine Exec.buildSlice (Te := 3) (cs := [O j]) ah Z (Qc (c := [O j]) (Qe Z Z) Qh) (fun _ => by kernel_rfl) ?_
  intro a1 aP ai
  obtain ⟨aE, ar, a⟩ := V a
  refine G ?_
  refine Qt (E := (U .i64)) (ys := [j]) ai.f3 S22.h Z3 Z (by decide) Z Z Z Z ⟨[O j], [], Z, Z, Z⟩ Z ar ?_
  intro ay aQ aj
  cases a
  refine G ?_
  exact ⟨av, ay, lq, (aj.f2).f2, (Fx.mk (FxL.cons (QD am (q.f1).arr_le) fxl))⟩
 intro a7 aR af
 obtain ⟨o, t⟩ := aw
 replace hm := Q6 hm
 obtain ⟨aJ, l, aF, ak, ⟨a8, rfl⟩⟩ := af
 refine G ?_
 refine QeJ (ak.f1) ⟨Tryz.underlying170, Tryz.underlying9, Tryz.underlying3⟩ Z Z ?_
 cases hm
 refine G ?_
 refine ⟨_, Qb4 Z, ?_⟩
 exact fq
instance S171 : STy Tryz.prog 171 172 1 24 := ⟨by kernel_rfl⟩
theorem QoX : Jp Tryz.prog 172 = some (Value.slice none 0 0) := by kernel_rfl
instance A172 : ATy Tryz.prog 172 false 1 := ⟨by kernel_rfl⟩
instance S172 : STy Tryz.prog 172 173 2 16 := ⟨by kernel_rfl⟩
theorem QnV : Jp Tryz.prog 173 = some (Value.agg #[O 0, O 0]) := by kernel_rfl
theorem Qdo {w0 w : World} {s : PHeap} {H : List Res} {a : Arr2_int} {b : Arr2_int} {r : Int} (hm : Ye a b = some r) (hS : St w0 s (H) w) :
  Calls Tryz.prog 120 #[Value.agg #[O (a.a0), O (a.a1)], Value.agg #[O (b.a0), O (b.a1)]] w fun e w' => ∃ v, e = .returned v ∧ ((fun (o : Int) => ∃ (g : PHeap) , PHeap.le s g ∧ St w0 g (H) w' ∧ v = O o) r) := by
 unfold Ye at hm
 refine Qj Tryz.func120 Z Z (G ?_)
 refine JY Z Z ?_
 intro p ag u
 refine G ?_
 refine JY Z Z ?_
 intro q ah d
 refine G ?_
 refine Jz (n0 := 12) (qs 0 4 (qs 5 4 (.e 4 [5, 6, 7, 8] (.e 9 [] (.e 10 [] (.e 11 [] .done)))))) J2 (by kernel_rfl) (by kernel_rfl) (G ?_)
 refine JF Tryz.underlying173 A3.h Z Z Z (by decide) Z ⟨Z, ?_⟩
 refine G ?_
 refine Zn ((d.drew).f1) A3.h Z Z Z ⟨Z, ?_⟩
 refine G ?_
 refine JF Tryz.underlying173 A3.h Z Z Z (by decide) Z ⟨Z, ?_⟩
 refine G ?_
 refine Zn (d.drew) A3.h Z Z Z ⟨Z, ?_⟩
 refine G ?_
 refine JF Tryz.underlying173 A3.h Z Z Z (by decide) Z ⟨Z, ?_⟩
 refine G ?_
 refine Zn ((d.drew).f1) A3.h Z Z Z ⟨Z, ?_⟩
 refine G ?_
 refine JF Tryz.underlying173 A3.h Z Z Z (by decide) Z ⟨Z, ?_⟩
 refine G ?_
 refine Zn (d.drew) A3.h Z Z Z ⟨Z, ?_⟩
 refine G ?_
 refine Tc Z Z Z Z (Jm (Jd a.a0 b.a0) d.drew).r ?_
 rintro _ ai ⟨ac, y, f, rfl⟩
 refine ⟨(Qa (Qi Z Z (JF Tryz.underlying173 A3.h Z Z Z (by decide) Z ⟨Z, Z⟩)) (Qa (Qi Z Z (Zn (f.f1) A3.h Z Z Z ⟨Z, Z⟩)) (Qa (Qi Z Z (JF Tryz.underlying173 A3.h Z Z Z (by decide) Z ⟨Z, Z⟩)) (Qa (Qi Z Z (Zn (f) A3.h Z Z Z ⟨Z, Z⟩)) Q1)))), ?_⟩
 refine G ?_
 refine Tc Z Z Z Z (Jm (Jd a.a1 b.a1) f).r ?_
 rintro _ aj ⟨ad, z, i, rfl⟩
 refine ⟨YD, ?_⟩
 refine G ?_
 refine Exec.buildSlice (Te := 3) (cs := [O ((Qk a.a0 b.a0)), O ((Qk a.a1 b.a1))]) i Z (Qc (c := [O ((Qk a.a0 b.a0))]) (Qe Z Z) (Qc (c := [O ((Qk a.a1 b.a1))]) (Qe Z Z) Qh)) (fun _ => by kernel_rfl) ?_
 intro t ak j
 refine ⟨YD, ?_⟩
 have k := St.boxArr (E := (U .i64)) (xs := [(Qk a.a0 b.a0), (Qk a.a1 b.a1)]) j ⟨[O ((Qk a.a0 b.a0))], [O ((Qk a.a1 b.a1))], rfl, rfl, ⟨[O ((Qk a.a1 b.a1))], [], rfl, rfl, rfl⟩⟩ (by simp [maxLen])
 obtain ⟨ae, aa, l, n⟩ := k.freezeArr
 obtain ⟨am, m, hm⟩ := V hm
 refine G ?_
 refine Tc Z Z Z Z (Qby m l n).r ?_
 rintro _ al ⟨af, ab, x, rfl⟩
 refine ⟨YD, ?_⟩
 cases hm
 refine G ?_
 exact fr
end Go.Pw
