/- -/
import Derived.Test.YtjbjflndiajoiaaGreatDoorLC
import Derived.Test.YtjbjflndiajoiaaGreatDoorLD
import Derived.Test.YtjbjflndiajoiaaGreatDoorWa2
import Derived.Test.YtjbjflndiajoiaaGreatDoorWaPu
set_option maxRecDepth 100000
set_option maxHeartbeats 4000000
set_option linter.unusedVariables false
namespace Go.Pw
open Go.Proofs
attribute [local irreducible] Exec WL W andThen Qax DL QX
instance F58_4 : FTy Tryz.prog 58 4 4 := ⟨by kernel_rfl⟩
instance A56 : ATy Tryz.prog 56 false 1 := ⟨by kernel_rfl⟩
instance S56 : STy Tryz.prog 56 4 1 1 := ⟨by kernel_rfl⟩
theorem Z4 : Ji Tryz.prog 4 = some (Value.bool false) := by kernel_rfl
theorem Qch {w0 w : World} {s : PHeap} {H : List Res} {b : (List Int)} {c : Value} {r : (List Int)} (hm : J4 b = some r) (hS : St w0 s (Res.arr (U .i64) 3 c b :: H) w) :
  Calls Tryz.prog 20 #[c] w fun e w' => ∃ v, e = .returned v ∧ ((fun (p : (List Int)) => ∃ (f : PHeap) (g : Value), PHeap.le s f ∧ St w0 f (Res.arr (U .i64) 3 c b :: Res.arr (U .i64) 3 g p :: H) w' ∧ v = g) r) := by
 unfold J4 at hm
 refine Qd Tryz.func20 Z Z ?_
 obtain ⟨i, y, t, j, m⟩ := hS.nilShape
 refine G ?_
 refine QaR Tryz.underlying22 Z j Z (G ?_)
 rcases tf (i.isNone) with a | a
 ·have n := m a
  replace hm := (show (some []) = ((app 8 [] b).bind fun d => some d) from by simp [n, app]).trans hm
  refine QcA ((Zx a)) ?_
  cases hm
  refine G ?_
  refine ⟨_, KR Z, ?_⟩
  have u := hS.nilArr (U .i64) 3
  exact fq
 refine YW ((Zx a)) (G ?_)
 refine Exec.buildSlice (Te := 3) (cs := []) hS Z Qi (fun _ => by kernel_rfl) ?_
 intro q aa k
 refine G ?_
 have l := St.boxArr (E := (U .i64)) (xs := []) k rfl (by simp [maxLen])
 obtain ⟨d, o, hm⟩ := V hm
 refine G ?_
 refine QgS (E := (U .i64)) (l.f1).f1 S22.h Z3 Z (by decide) Z Z Z o ?_
 intro z ab x
 cases hm
 refine G ?_
 exact fr
theorem Qgr {w0 w : World} {s : PHeap} {H : List Res} {i : (List Fact)} {d : (List Int)} {j : Value} {c : Value} {r : Bool} (hm : Qbt i d = some r) (hS : St w0 s (Res.arr (U .i64) 3 c d :: H) w) (ay : SliceRep encFact s j i) :
  Calls Tryz.prog 74 #[j, c] w fun e w' => ∃ v, e = .returned v ∧ ((fun (ax : Bool) => ∃ (u : PHeap) , PHeap.le s u ∧ St w0 u (Res.arr (U .i64) 3 c d :: H) w' ∧ v = Value.bool (ax)) r) := by
 unfold Qbt at hm
 refine Qd Tryz.func74 Z Z ?_
 obtain ⟨o, ab, an, al, ah⟩ := Qr hm
 refine Zc (Zd (g ?_))
 refine Zc (Zc (Zd (g ?_)))
 refine Qp (M := fun f' w' => ∃ s', (o = .next s' ∨ o = .brk s') ∧ (fun (_ : Unit) => ∃ (x : PHeap) , PHeap.le s x ∧ St w0 x (Res.arr (U .i64) 3 c d :: H) w' ∧ Fx f' [(1, c), (7, j), (8, O ((i.length : Int)))]) s') ?_ ?_
 ·refine G ?_
  refine QF (fun k' s' f' w' => (fun (_ : Unit) => ∃ (y : PHeap) , PHeap.le s y ∧ St w0 y (Res.arr (U .i64) 3 c d :: H) w' ∧ Fx f' [(9, O (k' : Int)), (1, c), (7, j), (8, O ((i.length : Int)))]) s') ab ?_ ?_ ?_
  ·exact fq
  ·intro aq aP a1 a3 aU aG ac b ao
   obtain ⟨aw, aH, q, ⟨a4, rfl⟩⟩ := ac
   obtain ⟨ba, ar, b⟩ := V b
   refine G ?_
   refine Jk Z Z Z ar ?_
   intro az aL aa
   refine G ?_
   refine Zw (E := encFact) q A36.h Z Z Z aa ?_
   intro aS au
   obtain rfl := JH.1 au
   refine G ?_
   refine Exec.alloc (cs := [O 0, O 0]) q Z36 Z Z ?_
   intro a0 aV aC
   refine G ?_
   refine KJ Z Z Z ?_
   intro aW ag
   obtain ⟨n, a, b⟩ := V b
   refine g ?_
   refine Zc (Qp (M := fun f' w' => (fun (n : Bool) => ∃ (z : PHeap) , PHeap.le aw z ∧ St w0 z (Res.arr (U .i64) 3 c d :: H) w' ∧ Fx f' [(1, c), (7, j), (8, O ((i.length : Int))), (9, O ((aq : Int))), (32, Vb n)]) n) ?_ ?_)
   ·refine JE (n0 := 20) (qs 0 20 .done) JM (by kernel_rfl) (by kernel_rfl) ?_
    have m := ag.drew
    refine G ?_
    rcases Qs a with ⟨ai, a⟩ | ⟨ai, a⟩
    ·cases a
     refine G ?_
     exact fq
    refine G ?_
    refine Q0 (m.f1) S22.h Z Z ⟨Z, ?_⟩
    refine G ?_
    rcases Qs a with ⟨aj, a⟩ | ⟨aj, a⟩
    ·cases a
     refine G ?_
     exact fq
    obtain ⟨bb, l, a⟩ := V a
    obtain ⟨aB, a2, p⟩ := (m.f1).arr_at l
    refine G ?_
    refine Qa S22.h Z p Z (Qb l).1 (Qb l).2.1 ⟨Z, ?_⟩
    refine G ?_
    refine Qf (F := (U .i64)) (m.f1) p A3.h Z Z Z l (Sub.refl _) ?_
    intro aT av
    obtain rfl := Qg.1 av
    refine ⟨Z, ?_⟩
    cases a
    refine G ?_
    exact fq
   intro a5 aX ae
   obtain ⟨aM, aI, aD, ⟨a6, rfl⟩⟩ := ae
   refine G ?_
   rcases Qs b with ⟨ak, b⟩ | ⟨ak, b⟩
   ·cases b
    have am := an _ (ao (by intro _ h; cases h))
    cases am
    refine G ?_
    exact fr
   cases b
   refine G ?_
   exact ⟨_, Z, fq⟩
  intro aQ a7 aY ad ap
  obtain ⟨aN, aJ, aE, ⟨a8, rfl⟩⟩ := ad
  refine G ?_
  exact ⟨_, .inl ap, fq⟩
 rintro a9 aZ ⟨aR, t, af⟩
 have hm := t.elim (al _) (ah _)
 clear t
 obtain ⟨aO, aK, aF, ⟨aA, rfl⟩⟩ := af
 cases hm
 refine G ?_
 exact fr
theorem Qb8 {w0 w : World} {s : PHeap} {H : List Res} {t : (List Int)} {b : Value} {r : Nat × (List Int)} (hm : Jr t = some r) (hS : St w0 s (Res.arr (U .i64) 3 b t :: H) w) :
  Calls Tryz.prog 75 #[b] w fun e w' => ∃ v, e = .returned v ∧ ((QI fun (bn : Nat) (aX : (List Int)) => ∃ (a3 : PHeap) (aA : Value), PHeap.le s a3 ∧ St w0 a3 (Res.arr (U .i64) 3 b aX :: H) w' ∧ v = aA ∧ SubOf 1 b aA 0 bn) r) := by
 unfold Jr at hm
 refine Qd Tryz.func75 Z Z (G ?_)
 refine Q0 (hS) S22.h Z Z (G ?_)
 rcases Qs hm with ⟨an, hm⟩ | ⟨an, hm⟩
 ·cases hm
  refine G ?_
  refine ⟨_, KR Z, ?_⟩
  exact ⟨s, b, (Zv _), hS, Z, (Or.inl ⟨Z, Z, hS.arr_shape⟩)⟩
 obtain ⟨ac, aE, aV, aS, aM⟩ := Qr hm
 refine W_c Z an (Qa4 (Jt (Ze (Zc (Zc (Zd (g ?_)))))))
 refine Qp (M := fun f' w' => ∃ s', (ac = .next s' ∨ ac = .brk s') ∧ (fun (ar : Int) => ∃ (a4 : PHeap) , PHeap.le s a4 ∧ St w0 a4 (Res.arr (U .i64) 3 b t :: H) w' ∧ Fx f' [(0, b), (3, O ar)]) s') ?_ ?_
 ·refine G ?_
  refine KA (fun s' f' w' => (fun (au : Int) => ∃ (a5 : PHeap) , PHeap.le s a5 ∧ St w0 a5 (Res.arr (U .i64) 3 b t :: H) w' ∧ Fx f' [(0, b), (3, O au)]) s') aE ?_ ?_
  ·exact fq
  intro au aB bz bW aG a aq
  obtain ⟨aa, aY, u, ⟨b0, rfl⟩⟩ := aG
  refine G ?_
  refine Q0 (u) S22.h Z Z (G ?_)
  rcases Qs a with ⟨aO, a⟩ | ⟨aO, a⟩
  ·refine G ?_
   refine JE (n0 := 10) (qs 0 10 .done) JM (by kernel_rfl) (by kernel_rfl) ?_
   have j := u.drew
   obtain ⟨cd, l, a⟩ := V a
   obtain ⟨b9, bo, ae⟩ := j.arr_at l
   refine G ?_
   refine Qa S22.h Z ae Z (Qb l).1 (Qb l).2.1 ⟨Z, ?_⟩
   refine G ?_
   refine Qf (F := (U .i64)) (j) ae A3.h Z Z Z l (Sub.refl _) ?_
   intro bQ ba
   obtain rfl := Qg.1 ba
   refine ⟨Z, ?_⟩
   obtain ⟨ce, m, a⟩ := V a
   obtain ⟨bA, bp, af⟩ := j.arr_at m
   refine G ?_
   refine Qa S22.h Z af Z (Qb m).1 (Qb m).2.1 ⟨Z, ?_⟩
   refine G ?_
   refine Qf (F := (U .i64)) (j) af A3.h Z Z Z m (Sub.refl _) ?_
   intro bR bb
   obtain rfl := Qg.1 bb
   refine ⟨Z, ?_⟩
   refine G ?_
   rcases Qs a with ⟨aP, a⟩ | ⟨aP, a⟩
   ·obtain ⟨bM, n, a⟩ := V a
    refine G ?_
    refine Yn (j) S22.h Z Z Z n ?_
    intro ab k
    obtain ⟨ad, aF, bH, aT, aN⟩ := Qr a
    refine g ?_
    refine Zc (Zc (Zd (g ?_)))
    refine Qp (M := fun f' w' => ∃ s', (ad = .next s' ∨ ad = .brk s') ∧ (un3 fun (av : Int) (aw : Int) (az : (List Int)) => ∃ (a6 : PHeap) , PHeap.le aa a6 ∧ St w0 a6 (Res.arr (U .i64) 3 b az :: H) w' ∧ Fx f' [(0, b), (3, O av), (4, ab), (5, O aw)]) s') ?_ ?_
    ·refine G ?_
     refine KA (fun s' f' w' => (un3 fun (ax : Int) (x : Int) (a0 : (List Int)) => ∃ (a7 : PHeap) , PHeap.le aa a7 ∧ St w0 a7 (Res.arr (U .i64) 3 b a0 :: H) w' ∧ Fx f' [(0, b), (3, O ax), (4, ab), (5, O x)]) s') aF ?_ ?_
     ·exact fq
     intro bk bq b1 bX aH c aW
     obtain ⟨ax, x, a0⟩ := bk
     replace c := QaM c
     obtain ⟨bh, bI, aL, ⟨b2, rfl⟩⟩ := aH
     refine G ?_
     refine Qbr S22.h k Z Z (G ?_)
     rcases Qs c with ⟨aQ, c⟩ | ⟨aQ, c⟩
     ·refine G ?_
      refine JE (n0 := 10) (qs 0 10 .done) JM (by kernel_rfl) (by kernel_rfl) ?_
      have i := aL.drew
      obtain ⟨cf, o, c⟩ := V c
      obtain ⟨bB, br, ag⟩ := i.arr_at (QB o).2.2
      refine G ?_
      refine JQ S22.h (KV n).1 k ag Z Z Z (QB o).1 (QB o).2.1 ⟨Z, ?_⟩
      refine G ?_
      refine Qf (F := (U .i64)) (i) ag A3.h Z Z Z (QB o).2.2 (Sub.refl _) ?_
      intro bS bc
      obtain rfl := Qg.1 bc
      refine ⟨Z, ?_⟩
      obtain ⟨cg, p, c⟩ := V c
      obtain ⟨bC, bs, ah⟩ := i.arr_at (QB p).2.2
      refine G ?_
      refine JQ S22.h (KV n).1 k ah Z Z Z (QB p).1 (QB p).2.1 ⟨Z, ?_⟩
      refine G ?_
      refine Qf (F := (U .i64)) (i) ah A3.h Z Z Z (QB p).2.2 (Sub.refl _) ?_
      intro bT bd
      obtain rfl := Qg.1 bd
      refine ⟨Z, ?_⟩
      obtain ⟨a9, d, c⟩ := V c
      refine g ?_
      refine Qp (M := fun f' w' => (QI fun (ay : Int) (a1 : (List Int)) => ∃ (a8 : PHeap) , PHeap.le bh a8 ∧ St w0 a8 (Res.arr (U .i64) 3 b a1 :: H) w' ∧ Fx f' [(0, b), (3, O ay), (4, ab), (5, O x)]) a9) ?_ ?_
      ·rcases Qs d with ⟨aR, d⟩ | ⟨aR, d⟩
       ·obtain ⟨ch, q, d⟩ := V d
        obtain ⟨bD, bt, ai⟩ := i.arr_at (QB q).2.2
        refine G ?_
        refine JQ S22.h (KV n).1 k ai Z Z Z (QB q).1 (QB q).2.1 (G ?_)
        refine Qf (F := (U .i64)) (i) ai A3.h Z Z Z (QB q).2.2 (Sub.refl _) ?_
        intro bU be
        obtain rfl := Qg.1 be
        obtain ⟨ci, z, d⟩ := V d
        obtain ⟨bE, bu, aj⟩ := i.arr_at z
        refine G ?_
        refine Qa S22.h Z aj Z (Qb z).1 (Qb z).2.1 ?_
        obtain ⟨bJ, bf, d⟩ := V d
        refine G ?_
        refine Qx i aj A3.h Z Z Z Z (Qg.2 Z) bf ?_
        intro bY bF
        cases d
        refine G ?_
        exact fq
       cases d
       refine G ?_
       exact fq
      intro b3 bZ aI
      obtain ⟨ay, a1⟩ := a9
      replace c := Q7 c
      obtain ⟨bP, bK, bG, ⟨b4, rfl⟩⟩ := aI
      cases c
      refine G ?_
      exact ⟨_, Z, fq⟩
     cases c
     refine G ?_
     exact ⟨_, .inr (aW (by intro _ h; cases h)), fq⟩
    rintro b5 ca ⟨bl, ao, aJ⟩
    have a := ao.elim (aT _) (aN _)
    clear ao
    obtain ⟨av, aw, az⟩ := bl
    replace a := QaM a
    obtain ⟨bi, bL, ak, ⟨b6, rfl⟩⟩ := aJ
    obtain ⟨bN, a2, a⟩ := V a
    refine G ?_
    refine Yn (ak) S22.h Z Z Z a2 ?_
    intro bV aC
    refine G ?_
    refine Qbz (E := (U .i64)) (y := 0) ak aC (KV a2).2.2.2.2.2 S22.h Z3 Z Z Z ?_
    intro cb al
    obtain ⟨bO, bg, a⟩ := V a
    refine G ?_
    refine QaY (al) S22.h Z Z Z bg ?_
    intro bm aD
    cases a
    have aU := aV _ (aq (by intro _ h; cases h))
    have bv := Zu aU
    subst r
    refine G ?_
    refine ⟨_, KR Z, ?_⟩
    exact ⟨bi, bm, lq, al, Z, aD⟩
   cases a
   refine G ?_
   exact ⟨_, Z, fq⟩
  have bw := Zu a
  subst aB
  refine G ?_
  refine ⟨_, .inr (aq (by intro _ h; cases h)), ?_⟩; exact ⟨aa, aY, u, (Fx.mk)⟩
 rintro b7 cc ⟨ar, ap, aK⟩
 have hm := ap.elim (aS _) (aM _)
 clear ap
 obtain ⟨bj, aZ, am, ⟨b8, rfl⟩⟩ := aK
 have bx := Zu hm
 subst r
 refine G ?_
 refine ⟨_, KR Z, ?_⟩
 exact ⟨bj, b, aZ, am, Z, (Or.inl ⟨Z, Z, am.arr_shape⟩)⟩
theorem QeK {w0 w : World} {s : PHeap} {H : List Res} {ae : Task} {aA : Int} {aB : (List Int)} {a0 : (List Int)} {a1 : Int} {t : Value} {u : Value} {x : Value} {y : Value} {z : Value} {aa : Value} {r : (List Int)} (hm : Ye ae aA aB a0 a1 = some r) (hS : St w0 s (H) w) (aL : SliceRep (U .i64) s t ae.Vars) (aM : SliceRep (U .i64) s u ae.Init) (aN : SliceRep encFact s x ae.Goal) (aO : SliceRep encOp s y ae.Ops) (aP : SliceRep (U .i64) s z aB) (cm : SliceRep (U .i64) s aa a0) :
  Calls Tryz.prog 47 #[Value.agg #[t, u, x, y], O aA, z, aa, O a1] w fun e w' => ∃ v, e = .returned v ∧ ((fun (cl : (List Int)) => ∃ (ar : PHeap) (aJ : Value), PHeap.le s ar ∧ St w0 ar (H) w' ∧ v = aJ ∧ SliceRep (U .i64) ar aJ cl) r) := by
 unfold Ye at hm
 refine Qd Tryz.func47 Z Z (G ?_)
 refine Kq Z Z ?_
 intro i dV a2
 obtain ⟨b, bB, hm⟩ := V hm
 refine G ?_
 refine Jk Z Z Z bB ?_
 intro cn d0 aQ
 refine G ?_
 refine Zw (E := encOp) a2 A32.h Z Z Z aQ ?_
 intro dQ bC
 obtain ⟨q, p, rfl, d3, d4⟩ := KX.1 bC
 refine G ?_
 refine Exec.alloc (cs := [Value.string (⟨#[]⟩), O 0, Vn, Vn]) a2 Z32 Z Z ?_
 intro j dW cI
 refine G ?_
 refine KJ Z Z Z ?_
 intro dX bf
 obtain ⟨cX, bD, hm⟩ := V hm
 refine G ?_
 refine JJ (E := (U .i64)) bf S22.h Z3 Z Z Z Z bD ?_
 intro l dY bg
 obtain ⟨cY, bE, hm⟩ := V hm
 refine G ?_
 refine Tc Z Z Z Z (Qjt bE bg aL aM aN aO aP).r ?_
 rintro _ dZ ⟨aC, cZ, bh, rfl⟩
 obtain ⟨aw, aT, b8, b6, b0⟩ := Qr hm
 refine g ?_
 refine Zc (Zc (Zd (g ?_)))
 refine Qp (M := fun f' w' => ∃ s', (aw = .next s' ∨ aw = .brk s') ∧ (fun (a9 : (List Int)) => ∃ (aD : PHeap) , PHeap.le aC aD ∧ St w0 aD (Res.box i 26 [t, u, x, y] :: Res.box j 32 [Value.string (b.Name), O (b.Cost), q, p] :: Res.arr (U .i64) 3 l a9 :: H) w' ∧ Fx f' [(2, z), (3, aa), (5, Vq i), (11, Vq j), (12, l), (37, q), (38, O ((b.Pre.length : Int)))]) s') ?_ ?_
 ·refine G ?_
  refine QF (fun k' s' f' w' => (fun (al : (List Int)) => ∃ (aE : PHeap) , PHeap.le aC aE ∧ St w0 aE (Res.box i 26 [t, u, x, y] :: Res.box j 32 [Value.string (b.Name), O (b.Cost), q, p] :: Res.arr (U .i64) 3 l al :: H) w' ∧ Fx f' [(39, O (k' : Int)), (2, z), (3, aa), (5, Vq i), (11, Vq j), (12, l), (37, q), (38, O ((b.Pre.length : Int)))]) s') aT ?_ ?_ ?_
  ·have cJ := bh.f1
   exact fq
  ·intro cW al ct cx ea cU aW a b9
   obtain ⟨d7, da, a3, ⟨cy, rfl⟩⟩ := aW
   obtain ⟨e1, bF, a⟩ := V a
   refine G ?_
   refine Jk Z Z Z bF ?_
   intro co d1 aR
   refine G ?_
   refine Zw (E := encFact) a3 A36.h Z Z Z aR ?_
   intro dR bG
   obtain rfl := JH.1 bG
   refine G ?_
   refine Exec.alloc (cs := [O 0, O 0]) a3 Z36 Z Z ?_
   intro cp eb cK
   refine G ?_
   refine KJ Z Z Z ?_
   intro ec bi
   obtain ⟨e5, bH, a⟩ := V a
   refine G ?_
   refine Tc Z Z Z Z (Jn bH bi rq).r ?_
   rintro _ ed ⟨d8, db, aj, rfl⟩
   refine G ?_
   rcases Qs a with ⟨b1, a⟩ | ⟨b1, a⟩
   ·refine G ?_
    refine JE (n0 := 8) (qs 0 8 .done) JM (by kernel_rfl) (by kernel_rfl) ?_
    have a4 := aj.drew
    obtain ⟨e2, ag, a⟩ := V a
    obtain ⟨cF, cu, ax⟩ := (a4.f3).arr_at ag
    refine G ?_
    refine Qa S22.h Z ax Z (Qb ag).1 (Qb ag).2.1 ⟨Z, ?_⟩
    refine G ?_
    refine Qf (F := (U .i64)) (a4.f3) ax A3.h Z Z Z ag (Sub.refl _) ?_
    intro dS bI
    obtain rfl := Qg.1 bI
    refine ⟨Z, ?_⟩
    refine G ?_
    rcases Qs a with ⟨b2, a⟩ | ⟨b2, a⟩
    ·cases a
     have b7 := b8 _ (b9 (by intro _ h; cases h))
     cases b7
     refine G ?_
     exact fr
    cases a
    refine G ?_
    exact ⟨_, Z, fq⟩
   obtain ⟨e3, ap, a⟩ := V a
   obtain ⟨cG, cv, ay⟩ := (aj.f3).arr_at ap
   refine G ?_
   refine Qa S22.h Z ay Z (Qb ap).1 (Qb ap).2.1 ?_
   obtain ⟨dc, bJ, a⟩ := V a
   refine G ?_
   refine Qx aj.f3 ay A3.h Z Z Z Z (Qg.2 Z) bJ ?_
   intro ee cL
   cases a
   refine G ?_
   exact ⟨_, Z, fq⟩
  intro al cz ef aX bA
  obtain ⟨d9, dd, cM, ⟨c0, rfl⟩⟩ := aX
  refine G ?_
  exact ⟨_, .inl bA, fq⟩
 rintro c1 eg ⟨a9, a7, bc⟩
 have hm := a7.elim (b6 _) (b0 _)
 clear a7
 obtain ⟨dA, de, bj, ⟨c2, rfl⟩⟩ := bc
 obtain ⟨cf, bK, hm⟩ := V hm
 obtain ⟨ah, e6⟩ := cf
 replace hm := Q7 hm
 refine G ?_
 refine Tc Z Z Z Z (Qb1 bK bj rq rq rq rq rq).r ?_
 rintro _ eh ⟨ca, df, bk, rfl⟩
 obtain ⟨dO, bL, hm⟩ := V hm
 obtain ⟨cg, aU, hm⟩ := V hm
 refine G ?_
 refine QO (fun k' s' f' w' => (QI fun (ac : (List Int)) (am : (List Int)) => ∃ (aF : PHeap) (m : Value), PHeap.le ca aF ∧ St w0 aF (Res.box i 26 [t, u, x, y] :: Res.box j 32 [Value.string (b.Name), O (b.Cost), q, p] :: Res.arr (U .i64) 3 l am :: Res.arr (U .i64) 3 m ac :: H) w' ∧ Fx f' [(69, O (k' : Int)), (2, z), (3, aa), (5, Vq i), (11, Vq j), (12, l), (17, m), (68, O ah)]) s') aU ?_ ?_ ?_
 ·have cN := bk.nilArr (U .i64) 3
  exact fq
 ·intro ak ch dB c3 ei b5 aY d
  obtain ⟨ac, am⟩ := ch
  replace d := Q7 d
  obtain ⟨dC, m, dg, bl, ⟨c4, rfl⟩⟩ := aY
  obtain ⟨an, bM, d⟩ := V d
  refine G ?_
  refine Tc Z Z Z Z (Qjt bM bl.f2 rq rq rq rq rq).r ?_
  rintro _ ej ⟨dD, dh, bm, rfl⟩
  obtain ⟨e7, bN, d⟩ := V d
  refine G ?_
  refine Tc Z Z Z Z (Qch bN bm).r ?_
  rintro ad ek ⟨cb, _, di, bn, rfl⟩
  obtain ⟨af, aV, d⟩ := V d
  refine G ?_
  refine QO (fun k' s' f' w' => (fun (af : (List Int)) => ∃ (aG : PHeap) , PHeap.le cb aG ∧ St w0 aG (Res.box i 26 [t, u, x, y] :: Res.box j 32 [Value.string (b.Name), O (b.Cost), q, p] :: Res.arr (U .i64) 3 l an :: Res.arr (U .i64) 3 m ac :: Res.arr (U .i64) 3 ad af :: H) w' ∧ Fx f' [(82, O (k' : Int)), (2, z), (3, aa), (5, Vq i), (11, Vq j), (12, l), (17, m), (19, ad), (68, O ah), (69, O ((ak : Int))), (80, p), (81, O ((b.Effs.length : Int)))]) s') aV ?_ ?_ ?_
  ·have cO := bn.f1
   exact fq
  ·intro a8 af dE c5 el cV aZ ab
   obtain ⟨cc, dj, a5, ⟨c6, rfl⟩⟩ := aZ
   obtain ⟨aK, bO, ab⟩ := V ab
   refine G ?_
   refine Jk Z Z Z bO ?_
   intro cq d2 aS
   refine G ?_
   refine Zw (E := encEffect) a5 A34.h Z Z Z aS ?_
   intro dT bP
   obtain ⟨cj, rfl, d5⟩ := KG.1 bP
   refine G ?_
   refine Exec.alloc (cs := [Vn, O 0, O 0]) a5 Z34 Z Z ?_
   intro av em cP
   refine G ?_
   refine KJ Z Z Z ?_
   intro en bo
   obtain ⟨au, n, ab⟩ := V ab
   refine g ?_
   refine Zc (Qp (M := fun f' w' => (fun (au : Bool) => ∃ (aH : PHeap) , PHeap.le cc aH ∧ St w0 aH (Res.box i 26 [t, u, x, y] :: Res.box j 32 [Value.string (b.Name), O (b.Cost), q, p] :: Res.arr (U .i64) 3 l an :: Res.arr (U .i64) 3 m ac :: Res.arr (U .i64) 3 ad af :: Res.box av 34 [cj, O (aK.Var), O (aK.Val)] :: H) w' ∧ Fx f' [(2, z), (3, aa), (5, Vq i), (11, Vq j), (12, l), (17, m), (19, ad), (21, Vq av), (68, O ah), (69, O ((ak : Int))), (80, p), (81, O ((b.Effs.length : Int))), (82, O ((a8 : Int))), (95, Vb au)]) au) ?_ ?_)
   ·obtain ⟨e8, bQ, n⟩ := V n
    refine G ?_
    refine Tc Z Z Z Z (Jn bQ bo rq).r ?_
    rintro _ eo ⟨dF, dk, bp, rfl⟩
    refine G ?_
    rcases Qs n with ⟨b3, n⟩ | ⟨b3, n⟩
    ·obtain ⟨e9, bR, n⟩ := V n
     refine G ?_
     refine Tc Z Z Z Z (Qgr bR bp.f3 rq).r ?_
     rintro _ ep ⟨dG, dl, cQ, rfl⟩
     cases n
     refine G ?_
     exact fq
    cases n
    refine G ?_
    exact fq
   intro c7 er bd
   obtain ⟨cd, dm, a6, ⟨c8, rfl⟩⟩ := bd
   obtain ⟨ao, o, ab⟩ := V ab
   refine g ?_
   refine Qp (M := fun f' w' => (fun (ao : (List Int)) => ∃ (aI : PHeap) , PHeap.le cd aI ∧ St w0 aI (Res.box i 26 [t, u, x, y] :: Res.box j 32 [Value.string (b.Name), O (b.Cost), q, p] :: Res.arr (U .i64) 3 l an :: Res.arr (U .i64) 3 m ac :: Res.arr (U .i64) 3 ad ao :: H) w' ∧ Fx f' [(2, z), (3, aa), (5, Vq i), (11, Vq j), (12, l), (17, m), (19, ad), (68, O ah), (69, O ((ak : Int))), (80, p), (81, O ((b.Effs.length : Int))), (82, O ((a8 : Int)))]) ao) ?_ ?_
   ·rcases Qs o with ⟨b4, o⟩ | ⟨b4, o⟩
    ·obtain ⟨e4, aq, o⟩ := V o
     obtain ⟨cH, cw, az⟩ := (a6.f4).arr_at aq
     refine G ?_
     refine Qa S22.h Z az Z (Qb aq).1 (Qb aq).2.1 ?_
     obtain ⟨dn, bS, o⟩ := V o
     refine G ?_
     refine Qx a6.f4 az A3.h Z Z Z Z (Qg.2 Z) bS ?_
     intro es cR
     cases o
     refine G ?_
     exact fq
    cases o
    refine G ?_
    exact fq
   intro c9 et be
   obtain ⟨dH, dp, cS, ⟨cA, rfl⟩⟩ := be
   cases ab
   refine G ?_
   exact fq
  intro cB eu ba
  obtain ⟨dI, dq, bq, ⟨cC, rfl⟩⟩ := ba
  refine G ?_
  obtain ⟨dJ, dr, br, bY⟩ := bq.f4.freezeArr
  obtain ⟨ai, bT, d⟩ := V d
  refine G ?_
  refine Tc Z Z Z Z (QcK bT br rq rq rq rq rq bY).r ?_
  rintro _ ev ⟨ce, ds, bs, rfl⟩
  refine G ?_
  refine Exec.buildSlice (Te := 3) (cs := [O ai]) bs Z (Qc (c := [O ai]) (Qe Z Z) Qi) (fun _ => by kernel_rfl) ?_
  intro cr ew bt
  obtain ⟨dt, bU, d⟩ := V d
  refine G ?_
  refine Q5 (E := (U .i64)) (ys := [ai]) bt.f4 S22.h Z3 Z (by decide) Z Z Z Z ⟨[O ai], [], Z, Z, Z⟩ Z bU ?_
  intro ck ex bu
  cases d
  refine G ?_
  exact ⟨ce, ck, lq, ((bu.f3).f3).f3, (Fx.mk (FxL.cons (QM b5 (by have h := Ql bL; simp at h; simp only [maxLen]; omega)) fxl))⟩
 intro cD ey bb
 obtain ⟨ac, am⟩ := cg
 replace hm := Q7 hm
 obtain ⟨dK, m, du, bv, ⟨cE, rfl⟩⟩ := bb
 obtain ⟨dv, bV, hm⟩ := V hm
 refine G ?_
 refine Tc Z Z Z Z (QdL bV bv.f3).r ?_
 rintro _ ez ⟨dL, dw, bw, rfl⟩
 obtain ⟨ci, bW, hm⟩ := V hm
 obtain ⟨eA, dx⟩ := ci
 replace hm := Q7 hm
 refine G ?_
 refine Tc Z Z Z Z (Qb8 bW bw).r ?_
 rintro dU e0 ⟨dM, _, dy, bx, rfl, bZ⟩
 obtain ⟨dP, bX, hm⟩ := V hm
 have bz := bx.arr_head bZ (by simpa using Ql bX)
 cases hm
 refine G ?_
 refine ⟨_, KR Z, ?_⟩
 obtain ⟨dN, dz, cT, d6⟩ := bz.freezeArr
 exact fq
instance F58_3 : FTy Tryz.prog 58 3 3 := ⟨by kernel_rfl⟩
instance A55 : ATy Tryz.prog 55 false 1 := ⟨by kernel_rfl⟩
instance S55 : STy Tryz.prog 55 100 3 24 := ⟨by kernel_rfl⟩
theorem QeW : Ji Tryz.prog 100 = some (Value.agg #[O 0, O 0, O 0]) := by kernel_rfl
theorem Qa0 {w0 w : World} {s : PHeap} {H : List Res} {aa : Task} {bj : (List Int)} {x : Value} {y : Value} {o : Value} {p : Value} {ac : Value} {r : (Option Int) × System} (hm : Ke aa bj = some r) (hS : St w0 s (H) w) (b6 : SliceRep (U .i64) s x aa.Vars) (b7 : SliceRep (U .i64) s y aa.Init) (b8 : SliceRep encFact s o aa.Goal) (b9 : SliceRep encOp s p aa.Ops) (bA : SliceRep (U .i64) s ac bj) :
  Calls Tryz.prog 19 #[Value.agg #[x, y, o, p], ac] w fun e w' => ∃ v, e = .returned v ∧ ((QI fun (dQ : (Option Int)) (aq : System) => ∃ (ap : PHeap) (bz : Value) (b0 : Value) (b1 : Value), PHeap.le s ap ∧ St w0 ap (H) w' ∧ v = Value.tuple #[Value.agg #[O (aq.States), O (aq.Init), bz, b0, b1], K4 52 (dQ)] ∧ SliceRep (U .i64) ap bz aq.Costs ∧ SliceRep encEdge ap b0 aq.Edges ∧ SliceRep encBool ap b1 aq.Goals) r) := by
 unfold Ke at hm
 refine Qd Tryz.func19 Z Z (G ?_)
 refine Kq Z Z ?_
 intro i gj bY
 refine G ?_
 refine Exec.alloc (cs := [O 0, O 0, Vn, Vn, Vn]) bY Z58 Z Z ?_
 intro j gk bZ
 obtain ⟨hb, df, hm⟩ := V hm
 refine G ?_
 refine Tc Z Z Z Z (QfP df bZ b6 b7 b8 b9 bA).r ?_
 rintro _ gl ⟨fJ, fb, ca, rfl⟩
 refine G ?_
 refine Qv (T := 52) Tryz.underlying39 Z Z Z (G ?_)
 rcases Qs hm with ⟨c8, hm⟩ | ⟨c8, hm⟩
 ·refine G ?_
  refine Exec.build Z Qi (v := Value.agg #[O 0, O 0, Vn, Vn, Vn]) (fun _ => by kernel_rfl) (G ?_)
  refine KJ Z Z Z ?_
  intro gm cb
  cases hm
  refine G ?_
  refine ⟨_, QaS Z ⟨_, _, Z, Kb (cb) A58.h⟩ Z, ?_⟩
  exact fq
 obtain ⟨dI, dg, hm⟩ := V hm
 obtain ⟨a, hc⟩ := dI
 replace hm := Q7 hm
 refine G ?_
 refine Tc Z Z Z Z (Qb1 dg ca rq rq rq rq rq).r ?_
 rintro _ gn ⟨fK, fc, cc, rfl⟩
 refine G ?_
 rcases Qs hm with ⟨c9, hm⟩ | ⟨c9, hm⟩
 ·refine G ?_
  refine Exec.build Z Qi (v := Value.agg #[O 0, O 0, Vn, Vn, Vn]) (fun _ => by kernel_rfl) (G ?_)
  refine Exec.makeInterface C52 Z Z (G ?_)
  refine KJ Z Z Z ?_
  intro go cd
  cases hm
  refine G ?_
  refine ⟨_, QaS Z ⟨_, _, Z, Kb (cd) A58.h⟩ Z, ?_⟩
  exact fq
 obtain ⟨u, dh, hm⟩ := V hm
 refine G ?_
 refine Tc Z Z Z Z (QcK dh cc rq rq rq rq rq rq).r ?_
 rintro _ gp ⟨bk, fd, ce, rfl⟩
 refine G ?_
 refine Exec.build Z (Qc (c := [O a]) (Qe Z Z) (Qc (c := [O u]) (Qe Z Z) Qi)) (v := Value.agg #[O a, O u, Vn, Vn, Vn]) (fun _ => by kernel_rfl) (G ?_)
 refine Exec.alloc (cs := [O 0, O 0, Vn, Vn, Vn]) ce Z58 Z Z ?_
 intro l gq eK
 refine G ?_
 refine KJ Z Z Z ?_
 intro gr cf
 obtain ⟨fe, di, hm⟩ := V hm
 refine G ?_
 refine JJ (E := (Qm (U .i64))) cf S46.h Z22 ⟨_, Z, (SliceRep.nil _ _)⟩ Z Z Z di ?_
 intro m gs cg
 obtain ⟨aP, bE, cQ, cI, c4⟩ := Qr hm
 refine g ?_
 refine Zc (Zc (Zd (g ?_)))
 refine Qp (M := fun f' w' => ∃ s', (aP = .next s' ∨ aP = .brk s') ∧ (QI fun (ah : (List Int)) (af : (List (List Int))) => ∃ (bl : PHeap) (d : Value), PHeap.le bk bl ∧ St w0 bl (Res.box i 26 [x, y, o, p] :: Res.box j 58 [O 0, O 0, Vn, Vn, Vn] :: Res.box l 58 [O a, O u, d, Vn, Vn] :: Res.arr (Qm (U .i64)) 22 m af :: Res.arr (U .i64) 3 d ah :: H) w' ∧ Fx f' [(1, ac), (2, Vq i), (4, Vq j), (7, O a), (9, Vq l), (10, m), (52, p), (53, O ((aa.Ops.length : Int)))]) s') ?_ ?_
 ·refine G ?_
  refine QF (fun k' s' f' w' => (QI fun (aO : (List Int)) (aD : (List (List Int))) => ∃ (bm : PHeap) (a1 : Value), PHeap.le bk bm ∧ St w0 bm (Res.box i 26 [x, y, o, p] :: Res.box j 58 [O 0, O 0, Vn, Vn, Vn] :: Res.box l 58 [O a, O u, a1, Vn, Vn] :: Res.arr (Qm (U .i64)) 22 m aD :: Res.arr (U .i64) 3 a1 aO :: H) w' ∧ Fx f' [(54, O (k' : Int)), (1, ac), (2, Vq i), (4, Vq j), (7, O a), (9, Vq l), (10, m), (52, p), (53, O ((aa.Ops.length : Int)))]) s') bE ?_ ?_ ?_
  ·have eL := cg.nilArr (U .i64) 3
   exact fq
  ·intro eZ dJ dZ ek gu cE bJ b cU
   obtain ⟨aO, aD⟩ := dJ
   replace b := Q7 b
   obtain ⟨fL, a1, ff, aY, ⟨el, rfl⟩⟩ := bJ
   obtain ⟨a5, dj, b⟩ := V b
   refine G ?_
   refine Jk Z Z Z dj ?_
   intro dR fD bB
   refine G ?_
   refine Zw (E := encOp) aY A32.h Z Z Z bB ?_
   intro gb dk
   obtain ⟨fY, fZ, rfl, d5, d6⟩ := KX.1 dk
   refine G ?_
   refine Exec.alloc (cs := [Value.string (⟨#[]⟩), O 0, Vn, Vn]) aY Z32 Z Z ?_
   intro dS gv eM
   refine G ?_
   refine KJ Z Z Z ?_
   intro gw ch
   refine G ?_
   refine Exec.buildSlice (Te := 3) (cs := [O (a5.Cost)]) ch Z (Qc (c := [O (a5.Cost)]) (Qe Z Z) Qi) (fun _ => by kernel_rfl) ?_
   intro dT gx ci
   obtain ⟨fg, dl, b⟩ := V b
   refine G ?_
   refine Q5 (E := (U .i64)) (ys := [a5.Cost]) ci.f6 S22.h Z3 Z (by decide) Z Z Z Z ⟨[O (a5.Cost)], [], Z, Z, Z⟩ Z dl ?_
   intro aJ gy a7
   refine G ?_
   refine Qq (ds := [aJ]) (es := [O a, O u, aJ, Vn, Vn]) a7.f4 A22.h Z Z Z (Qz ((a7.f4).f1).arr_one) (Zj ((a7.f4).f1).arr_one QU) (Nat.le_of_ble_eq_true Z) Z ?_
   intro gz cj
   obtain ⟨hd, dm, b⟩ := V b
   refine G ?_
   refine Tc Z Z Z Z (QeL dm cj d5 d6 rq).r ?_
   rintro gc g0 ⟨fM, _, fh, aZ, rfl, d7⟩
   obtain ⟨gW, aH, b⟩ := V b
   obtain ⟨eG, ea, aU⟩ := (aZ.f5).arr_at aH
   refine G ?_
   refine Qa S46.h Z aU Z (Qb aH).1 (Qb aH).2.1 ?_
   obtain ⟨fi, dn, b⟩ := V b
   refine G ?_
   refine Qx aZ.f5 aU A22.h Z Z Z Z (QH.2 d7) dn ?_
   intro g1 av
   refine G ?_
   refine JE (n0 := 10) (qs 0 5 (.e 5 [] (qs 6 4 .done))) JM (by kernel_rfl) (by kernel_rfl) (G ?_)
   refine QK (ds := [x, y, o, p]) ((av.drew).f4) A26.h Z Z Z ⟨Z, ?_⟩
   obtain ⟨gX, ay, b⟩ := V b
   obtain ⟨eH, eb, aV⟩ := (av.drew).arr_at ay
   refine G ?_
   refine Qa S46.h Z aV Z (Qb ay).1 (Qb ay).2.1 ⟨Z, ?_⟩
   refine G ?_
   refine Qf (F := (Qm (U .i64))) (av.drew) aV A22.h Z Z Z ay (Sub.refl _) ?_
   intro gd dp
   have d8 := QH.1 dp
   refine ⟨Z, ?_⟩
   obtain ⟨dK, dq, b⟩ := V b
   obtain ⟨he, hf⟩ := dK
   replace b := Q7 b
   refine G ?_
   refine Tc Z Z Z Z (Qb1 dq av.drew rq rq rq rq d8).r ?_
   rintro _ g2 ⟨dB, fj, ck, rfl⟩
   refine ⟨agq, ?_⟩
   refine G ?_
   rcases Qs b with ⟨cA, b⟩ | ⟨cA, b⟩
   ·refine G ?_
    refine Exec.build Z Qi (v := Value.agg #[O 0, O 0, Vn, Vn, Vn]) (fun _ => by kernel_rfl) (G ?_)
    refine Exec.makeInterface C52 Z Z (G ?_)
    refine KJ Z Z Z ?_
    intro g3 cl
    cases b
    have cM := cQ _ (cU (by intro _ h; cases h))
    cases cM
    refine G ?_
    refine ⟨_, QaS Z ⟨_, _, Z, Kb (cl) A58.h⟩ Z, ?_⟩
    exact fq
   cases b
   refine G ?_
   refine ⟨_, Z, ?_⟩; exact ⟨dB, aJ, lq, ((((((ck.f3).drop).f2).f1).f2).f4).f4, (Fx.mk (FxL.cons (QM cE (SliceRep.le rq)) fxl))⟩
  intro dL em g4 bK cV
  obtain ⟨aO, aD⟩ := dL
  obtain ⟨fN, a1, fk, eN, ⟨en, rfl⟩⟩ := bK
  refine G ?_
  exact ⟨_, .inl cV, fq⟩
 rintro eo g5 ⟨dM, bc, bT⟩
 have hm := bc.elim (cI _) (c4 _)
 clear bc
 obtain ⟨ah, af⟩ := dM
 replace hm := Q7 hm
 obtain ⟨bn, d, fl, cm, ⟨ep, rfl⟩⟩ := bT
 obtain ⟨fm, dr, hm⟩ := V hm
 refine G ?_
 refine JJ (E := (U .i64)) cm S22.h Z3 Z Z Z Z dr ?_
 intro t g6 cn
 obtain ⟨ga, dt, hm⟩ := V hm
 obtain ⟨aQ, bF, cR, cJ, c5⟩ := Qr hm
 refine g ?_
 refine Zc (Zc (Zd (g ?_)))
 refine Qp (M := fun f' w' => ∃ s', (aQ = .next s' ∨ aQ = .brk s') ∧ (un3 fun (b4 : (List Edge)) (b5 : (List Bool)) (bg : (List Int)) => ∃ (bo : PHeap) (aK : Value) (aL : Value), PHeap.le bn bo ∧ St w0 bo (Res.box i 26 [x, y, o, p] :: Res.box j 58 [O 0, O 0, Vn, Vn, Vn] :: Res.box l 58 [O a, O u, d, aK, aL] :: Res.arr (Qm (U .i64)) 22 m af :: Res.arr (U .i64) 3 t bg :: Res.arr (U .i64) 3 d ah :: Res.arr encEdge 100 aK b4 :: Res.arr encBool 4 aL b5 :: H) w' ∧ Fx f' [(1, ac), (2, Vq i), (4, Vq j), (9, Vq l), (10, m), (15, t), (90, O a)]) s') ?_ ?_
 ·refine G ?_
  refine QF (fun k' s' f' w' => (un3 fun (ar : (List Edge)) (au : (List Bool)) (aE : (List Int)) => ∃ (bp : PHeap) (ag : Value) (aj : Value), PHeap.le bn bp ∧ St w0 bp (Res.box i 26 [x, y, o, p] :: Res.box j 58 [O 0, O 0, Vn, Vn, Vn] :: Res.box l 58 [O a, O u, d, ag, aj] :: Res.arr (Qm (U .i64)) 22 m af :: Res.arr (U .i64) 3 t aE :: Res.arr (U .i64) 3 d ah :: Res.arr encEdge 100 ag ar :: Res.arr encBool 4 aj au :: H) w' ∧ Fx f' [(91, O (k' : Int)), (1, ac), (2, Vq i), (4, Vq j), (9, Vq l), (10, m), (15, t), (90, O a)]) s') bF ?_ ?_ ?_
  ·have co := cn.nilArr encEdge 100
   have eO := co.nilArr encBool 4
   exact fq
  ·intro n dN ec er g7 cF bL ae cW
   obtain ⟨ar, au, aE⟩ := dN
   replace ae := QaM ae
   obtain ⟨fO, ag, aj, fn, cp, ⟨et, rfl⟩⟩ := bL
   obtain ⟨an, du, ae⟩ := V ae
   refine G ?_
   refine Tc Z Z Z Z (Qjt du cp.f4 rq rq rq rq rq).r ?_
   rintro _ g8 ⟨dC, fo, cq, rfl⟩
   obtain ⟨al, bG, ae⟩ := V ae
   refine G ?_
   refine QO (fun k' s' f' w' => (fun (al : Bool) => ∃ (bq : PHeap) , PHeap.le dC bq ∧ St w0 bq (Res.box i 26 [x, y, o, p] :: Res.box j 58 [O 0, O 0, Vn, Vn, Vn] :: Res.box l 58 [O a, O u, d, ag, aj] :: Res.arr (Qm (U .i64)) 22 m af :: Res.arr (U .i64) 3 t an :: Res.arr (U .i64) 3 d ah :: Res.arr encEdge 100 ag ar :: Res.arr encBool 4 aj au :: H) w' ∧ Fx f' [(102, O (k' : Int)), (1, ac), (2, Vq i), (4, Vq j), (9, Vq l), (10, m), (15, t), (16, O ((n : Int))), (17, Vb al), (90, O a), (91, O ((n : Int))), (100, o), (101, O ((aa.Goal.length : Int)))]) s') bG ?_ ?_ ?_
   ·have eP := cq.f7
    exact fq
   ·intro dc al dD eu g9 cG bM ao
    obtain ⟨br, fp, ba, ⟨ev, rfl⟩⟩ := bM
    obtain ⟨gY, dv, ao⟩ := V ao
    refine G ?_
    refine Jk Z Z Z dv ?_
    intro dU fE bC
    refine G ?_
    refine Zw (E := encFact) ba A36.h Z Z Z bC ?_
    intro gf dw
    obtain rfl := JH.1 dw
    refine G ?_
    refine Exec.alloc (cs := [O 0, O 0]) ba Z36 Z Z ?_
    intro dV gA eQ
    refine G ?_
    refine KJ Z Z Z ?_
    intro gB a8
    obtain ⟨a6, z, ao⟩ := V ao
    refine g ?_
    refine Qp (M := fun f' w' => (fun (a6 : Bool) => ∃ (bs : PHeap) , PHeap.le br bs ∧ St w0 bs (Res.box i 26 [x, y, o, p] :: Res.box j 58 [O 0, O 0, Vn, Vn, Vn] :: Res.box l 58 [O a, O u, d, ag, aj] :: Res.arr (Qm (U .i64)) 22 m af :: Res.arr (U .i64) 3 t an :: Res.arr (U .i64) 3 d ah :: Res.arr encEdge 100 ag ar :: Res.arr encBool 4 aj au :: H) w' ∧ Fx f' [(1, ac), (2, Vq i), (4, Vq j), (9, Vq l), (10, m), (15, t), (16, O ((n : Int))), (17, Vb a6), (90, O a), (91, O ((n : Int))), (100, o), (101, O ((aa.Goal.length : Int))), (102, O ((dc : Int)))]) a6) ?_ ?_
    ·refine JE (n0 := 18) (qs 0 5 (.e 5 [] (qs 6 12 .done))) JM (by kernel_rfl) (by kernel_rfl) (G ?_)
     rcases Qs z with ⟨cB, z⟩ | ⟨cB, z⟩
     ·refine G ?_
      refine Zn (a8.drew) A3.h Z Z Z ⟨Z, ?_⟩
      obtain ⟨hg, dx, z⟩ := V z
      refine G ?_
      refine Tc Z Z Z Z (Jn dx a8.drew rq).r ?_
      rintro _ gC ⟨dE, dd, a9, rfl⟩
      refine ⟨agq, ?_⟩
      refine G ?_
      rcases Qs z with ⟨cC, z⟩ | ⟨cC, z⟩
      ·cases z
       refine G ?_
       exact fq
      obtain ⟨gZ, az, z⟩ := V z
      obtain ⟨eI, ed, aW⟩ := (a9.f5).arr_at az
      refine G ?_
      refine Qa S22.h Z aW Z (Qb az).1 (Qb az).2.1 ⟨Z, ?_⟩
      refine G ?_
      refine Qf (F := (U .i64)) (a9.f5) aW A3.h Z Z Z az (Sub.refl _) ?_
      intro gg dy
      obtain rfl := Qg.1 dy
      refine ⟨Z, ?_⟩
      cases z
      refine G ?_
      exact ⟨dE, dd, ((((((((a9.drop).f7).f7).f7).f7).f7).f7).f7).f7, (Fx.mk)⟩
     cases z
     refine G ?_
     exact ⟨br, (Zv _), (((((((((a8.drew).drop).f7).f7).f7).f7).f7).f7).f7).f7, (Fx.mk)⟩
    intro ew gD bU
    obtain ⟨dF, fr, cr, ⟨ex, rfl⟩⟩ := bU
    have eg := Zu ao
    subst dD
    refine G ?_
    exact ⟨dF, lq, (((((((cr.f7).f7).f7).f7).f7).f7).f7).f7, (Fx.mk (FxL.cons (QM cG (SliceRep.le rq)) fxl))⟩
   intro ey gE bN
   obtain ⟨aI, fs, ct, ⟨ez, rfl⟩⟩ := bN
   refine G ?_
   refine Exec.buildSlice (Te := 4) (cs := [Vb al]) ct Z (Qc (c := [Vb al]) (Qe Z Z) Qi) (fun _ => by kernel_rfl) ?_
   intro dW gF cu
   obtain ⟨ax, dz, ae⟩ := V ae
   refine G ?_
   refine Q5 (E := encBool) (ys := [al]) cu.f8 S56.h Z4 Z (by decide) Z Z Z Z ⟨[Vb al], [], Z, Z, Z⟩ Z dz ?_
   intro ad gG aA
   refine G ?_
   refine Qq (ds := [ad]) (es := [O a, O u, d, ag, ad]) aA.f3 A56.h Z Z Z (Qz ((aA.f3).f1).arr_one) (Zj ((aA.f3).f1).arr_one QU) (Nat.le_of_ble_eq_true Z) Z ?_
   intro gH cv
   obtain ⟨aR, bH, cS, cK, c6⟩ := Qr ae
   refine g ?_
   refine Zc (Zd (g ?_))
   refine Qp (M := fun f' w' => ∃ s', (aR = .next s' ∨ aR = .brk s') ∧ (fun (bh : (List Edge)) => ∃ (bt : PHeap) (a2 : Value), PHeap.le aI bt ∧ St w0 bt (Res.box i 26 [x, y, o, p] :: Res.box j 58 [O 0, O 0, Vn, Vn, Vn] :: Res.box l 58 [O a, O u, d, a2, ad] :: Res.arr (Qm (U .i64)) 22 m af :: Res.arr (U .i64) 3 t an :: Res.arr (U .i64) 3 d ah :: Res.arr encEdge 100 a2 bh :: Res.arr encBool 4 ad ax :: H) w' ∧ Fx f' [(1, ac), (2, Vq i), (4, Vq j), (9, Vq l), (10, m), (15, t), (16, O ((n : Int))), (90, O a), (91, O ((n : Int))), (133, O ((aa.Ops.length : Int)))]) s') ?_ ?_
   ·refine G ?_
    refine QF (fun k' s' f' w' => (fun (aF : (List Edge)) => ∃ (bu : PHeap) (a3 : Value), PHeap.le aI bu ∧ St w0 bu (Res.box i 26 [x, y, o, p] :: Res.box j 58 [O 0, O 0, Vn, Vn, Vn] :: Res.box l 58 [O a, O u, d, a3, ad] :: Res.arr (Qm (U .i64)) 22 m af :: Res.arr (U .i64) 3 t an :: Res.arr (U .i64) 3 d ah :: Res.arr encEdge 100 a3 aF :: Res.arr encBool 4 ad ax :: H) w' ∧ Fx f' [(134, O (k' : Int)), (1, ac), (2, Vq i), (4, Vq j), (9, Vq l), (10, m), (15, t), (16, O ((n : Int))), (90, O a), (91, O ((n : Int))), (133, O ((aa.Ops.length : Int)))]) s') bH ?_ ?_ ?_
    ·have cw := cv.f1
     exact ⟨aI, ag, (Zv _), ((((((cw.f7).f7).f7).f7).f5).f7).f7, (Fx.mk)⟩
    ·intro ab aF aS e0 gI eY bO am cX
     obtain ⟨fP, a3, ft, aw, ⟨e1, rfl⟩⟩ := bO
     refine G ?_
     refine JE (n0 := 11) (qs 0 8 (.q 10 (.e 8 [10] (.q 9 .done)))) JM (by kernel_rfl) (by kernel_rfl) (G ?_)
     refine QK (ds := [x, y, o, p]) (aw.drew) A26.h Z Z Z ⟨Z, ?_⟩
     obtain ⟨ha, a0, am⟩ := V am
     obtain ⟨eJ, ee, aX⟩ := ((aw.drew).f3).arr_at a0
     refine G ?_
     refine Qa S46.h Z aX Z (Qb a0).1 (Qb a0).2.1 ⟨Z, ?_⟩
     refine G ?_
     refine Qf (F := (Qm (U .i64))) ((aw.drew).f3) aX A22.h Z Z Z a0 (Sub.refl _) ?_
     intro gh d0
     have d9 := QH.1 d0
     refine ⟨Z, ?_⟩
     obtain ⟨b3, d1, am⟩ := V am
     refine G ?_
     refine Tc Z Z Z Z (QeK d1 aw.drew rq rq rq rq rq d9).r ?_
     rintro b2 gJ ⟨bv, _, fu, cx, rfl, dA⟩
     refine ⟨agq, ?_⟩
     obtain ⟨aT, bI, cT, cL, c7⟩ := Qr am
     refine g ?_
     refine Qp (M := fun f' w' => ∃ s', (aT = .next s' ∨ aT = .brk s') ∧ (fun (bi : (List Edge)) => ∃ (bw : PHeap) (aM : Value), PHeap.le bv bw ∧ St w0 bw (Res.box i 26 [x, y, o, p] :: Res.box j 58 [O 0, O 0, Vn, Vn, Vn] :: Res.box l 58 [O a, O u, d, aM, ad] :: Res.arr (Qm (U .i64)) 22 m af :: Res.arr (U .i64) 3 t an :: Res.arr (U .i64) 3 d ah :: Res.arr encEdge 100 aM bi :: Res.arr encBool 4 ad ax :: H) w' ∧ Fx f' [(1, ac), (2, Vq i), (4, Vq j), (9, Vq l), (10, m), (15, t), (16, O ((n : Int))), (20, O ((ab : Int))), (90, O a), (91, O ((n : Int))), (133, O ((aa.Ops.length : Int))), (134, O ((ab : Int))), (145, b2), (146, O ((b3.length : Int)))]) s') ?_ ?_
     ·refine G ?_
      refine QF (fun k' s' f' w' => (fun (aG : (List Edge)) => ∃ (bx : PHeap) (a4 : Value), PHeap.le bv bx ∧ St w0 bx (Res.box i 26 [x, y, o, p] :: Res.box j 58 [O 0, O 0, Vn, Vn, Vn] :: Res.box l 58 [O a, O u, d, a4, ad] :: Res.arr (Qm (U .i64)) 22 m af :: Res.arr (U .i64) 3 t an :: Res.arr (U .i64) 3 d ah :: Res.arr encEdge 100 a4 aG :: Res.arr encBool 4 ad ax :: H) w' ∧ Fx f' [(147, O (k' : Int)), (1, ac), (2, Vq i), (4, Vq j), (9, Vq l), (10, m), (15, t), (16, O ((n : Int))), (20, O ((ab : Int))), (90, O a), (91, O ((n : Int))), (133, O ((aa.Ops.length : Int))), (134, O ((ab : Int))), (145, b2), (146, O ((b3.length : Int)))]) s') bI ?_ ?_ ?_
      ·have eR := cx.f7
       exact fq
      ·intro fa aG ef e2 gK cH bP ai cY
       obtain ⟨dG, a4, de, aB, ⟨e3, rfl⟩⟩ := bP
       obtain ⟨ak, d2, ai⟩ := V ai
       refine G ?_
       refine Jk Z Z Z d2 ?_
       intro dX fF bD
       refine G ?_
       refine Zw (E := (U .i64)) aB A3.h Z Z Z bD ?_
       intro gi d3
       obtain rfl := Qg.1 d3
       refine G ?_
       refine Q0 (aB.f6) S55.h Z Z (G ?_)
       rcases Qs ai with ⟨cD, ai⟩ | ⟨cD, ai⟩
       ·refine G ?_
        refine Exec.build Z Qi (v := Value.agg #[O 0, O 0, Vn, Vn, Vn]) (fun _ => by kernel_rfl) (G ?_)
        refine Exec.makeInterface C52 Z Z (G ?_)
        refine KJ Z Z Z ?_
        intro gL cy
        cases ai
        have cN := cT _ (cY (by intro _ h; cases h))
        have eh := Zu cN
        subst aS
        have cO := cS _ (cX (by intro _ h; cases h))
        cases cO
        have cP := cR _ (cW (by intro _ h; cases h))
        have ei := Zu cP
        subst r
        refine G ?_
        refine ⟨_, QaS Z ⟨_, _, Z, Kb (cy) A58.h⟩ Z, ?_⟩
        exact fq
       refine G ?_
       refine Exec.build Z (Qc (c := [O ((n : Int))]) (Qe Z Z) (Qc (c := [O ((ab : Int))]) (Qe Z Z) (Qc (c := [O ak]) (Qe Z Z) Qi))) (v := Value.agg #[O ((n : Int)), O ((ab : Int)), O ak]) (fun _ => by kernel_rfl) (G ?_)
       refine Exec.buildSlice (Te := 100) (cs := [O ((n : Int)), O ((ab : Int)), O ak]) aB Z (Qc (c := [O ((n : Int)), O ((ab : Int)), O ak]) (Qe Z Z) Qi) (fun _ => by kernel_rfl) ?_
       intro dY gM cz
       obtain ⟨fv, d4, ai⟩ := V ai
       refine G ?_
       refine Q5 (E := encEdge) (ys := [(⟨(n : Int), (ab : Int), ak⟩ : Edge)]) cz.f7 S55.h QeW Z (by decide) Z Z Z Z ⟨[O ((n : Int)), O ((ab : Int)), O ak], [], Z, ⟨[O ((n : Int))], [O ((ab : Int)), O ak], Z, Z, ⟨[O ((ab : Int))], [O ak], Z, Z, Z⟩⟩, Z⟩ Z d4 ?_
       intro aN gN aC
       refine G ?_
       refine Qq (ds := [aN]) (es := [O a, O u, d, aN, ad]) aC.f3 A55.h Z Z Z (Qz ((aC.f3).f1).arr_one) (Zj ((aC.f3).f1).arr_one QU) (Nat.le_of_ble_eq_true Z) Z ?_
       intro gO c0
       cases ai
       refine G ?_
       refine ⟨_, Z, ?_⟩; exact ⟨dG, aN, de, (((((((c0.f7).f2).f7).f7).f7).f5).f7).f7, (Fx.mk (FxL.cons (QM cH (SliceRep.le dA)) fxl))⟩
      intro aG e4 gP bQ cZ
      obtain ⟨fQ, a4, fw, eS, ⟨e5, rfl⟩⟩ := bQ
      refine G ?_
      exact ⟨_, .inl cZ, fq⟩
     rintro e6 gQ ⟨bi, bd, bV⟩
     have am := bd.elim (cL _) (c7 _)
     clear bd
     obtain ⟨fR, aM, fx, eT, ⟨e7, rfl⟩⟩ := bV
     have ej := Zu am
     subst aS
     refine G ?_
     exact ⟨_, Z, fq⟩
    intro aF e8 gR bR da
    obtain ⟨fS, a3, fy, eU, ⟨e9, rfl⟩⟩ := bR
    refine G ?_
    exact ⟨_, .inl da, fq⟩
   rintro eA gS ⟨bh, be, bW⟩
   have ae := be.elim (cK _) (c6 _)
   clear be
   obtain ⟨dH, a2, fz, c1, ⟨eB, rfl⟩⟩ := bW
   cases ae
   refine G ?_
   refine ⟨_, Z, ?_⟩; exact ⟨dH, a2, ad, lq, (((((((c1.f7).f7).f7).f7).f7).f7).f7).f7, (Fx.mk (FxL.cons (QM cF (by have h := Ql dt; simp at h; simp only [maxLen]; omega)) fxl))⟩
  intro dO eC gT bS db
  obtain ⟨ar, au, aE⟩ := dO
  obtain ⟨fT, ag, aj, f0, eV, ⟨eD, rfl⟩⟩ := bS
  refine G ?_
  exact ⟨_, .inl db, fq⟩
 rintro eE gU ⟨dP, bf, bX⟩
 have hm := bf.elim (cJ _) (c5 _)
 clear bf
 obtain ⟨b4, b5, bg⟩ := dP
 replace hm := QaM hm
 obtain ⟨fU, aK, aL, f9, eW, ⟨eF, rfl⟩⟩ := bX
 refine G ?_
 refine KJ Z Z Z ?_
 intro gV bb
 cases hm
 refine G ?_
 refine ⟨_, QaS Z ⟨_, _, Z, Kb (bb) A58.h⟩ Z, ?_⟩
 obtain ⟨fV, fA, c2, fG⟩ := bb.f5.freezeArr
 obtain ⟨fW, fB, c3, fH⟩ := c2.f5.freezeArr
 obtain ⟨fX, fC, eX, fI⟩ := c3.f5.freezeArr
 exact fq
theorem Qe1 {w0 w : World} {s : PHeap} {H : List Res} {b : Int} {r : Int} (hm : KN b = some r) (hS : St w0 s (H) w) :
  Calls Tryz.prog 54 #[O b] w fun e w' => ∃ v, e = .returned v ∧ ((fun (y : Int) => ∃ (k : PHeap) , PHeap.le s k ∧ St w0 k (H) w' ∧ v = O y) r) := by
 unfold KN at hm
 refine Qd Tryz.func54 Z Z ?_
 obtain ⟨c, n, ag, u, q⟩ := Qr hm
 refine Zc (Zd (g ?_))
 refine Zc (Zd (g ?_))
 refine Zc (Qp (M := fun f' w' => ∃ s', (c = .next s' ∨ c = .brk s') ∧ (fun (i : Int) => ∃ (l : PHeap) , PHeap.le s l ∧ St w0 l (H) w' ∧ Fx f' [(0, O b), (3, O i)]) s') ?_ ?_)
 ·refine G ?_
  refine KA (fun s' f' w' => (fun (j : Int) => ∃ (m : PHeap) , PHeap.le s m ∧ St w0 m (H) w' ∧ Fx f' [(0, O b), (3, O j)]) s') n ?_ ?_
  ·exact fq
  intro j z aa al o a x
  obtain ⟨aj, ah, ae, ⟨ab, rfl⟩⟩ := o
  refine G ?_
  rcases Qs a with ⟨t, a⟩ | ⟨t, a⟩
  ·cases a
   refine G ?_
   exact ⟨_, Z, fq⟩
  cases a
  refine G ?_
  exact ⟨_, .inr (x (by intro _ h; cases h)), fq⟩
 rintro ac am ⟨i, d, p⟩
 have hm := d.elim (u _) (q _)
 clear d
 obtain ⟨ak, ai, af, ⟨ad, rfl⟩⟩ := p
 cases hm
 refine G ?_
 exact fr
theorem Qfj {w0 w : World} {s : PHeap} {H : List Res} {d : Task} {a : Int} {g : Value} {i : Value} {j : Value} {k : Value} {r : (Option Int) × System} (hm : Yw d a = some r) (hS : St w0 s (H) w) (ac : SliceRep (U .i64) s g d.Vars) (ad : SliceRep (U .i64) s i d.Init) (ae : SliceRep encFact s j d.Goal) (af : SliceRep encOp s k d.Ops) :
  Calls Tryz.prog 55 #[Value.agg #[g, i, j, k], O a] w fun e w' => ∃ v, e = .returned v ∧ ((QI fun (ab : (Option Int)) (f : System) => ∃ (b : PHeap) (l : Value) (m : Value) (n : Value), PHeap.le s b ∧ St w0 b (H) w' ∧ v = Value.tuple #[Value.agg #[O (f.States), O (f.Init), l, m, n], K4 52 (ab)] ∧ SliceRep (U .i64) b l f.Costs ∧ SliceRep encEdge b m f.Edges ∧ SliceRep encBool b n f.Goals) r) := by
 unfold Yw at hm
 refine Qd Tryz.func55 Z Z (G ?_)
 refine Kq Z Z ?_
 intro ag aw o
 refine G ?_
 refine Exec.alloc (cs := [O 0, O 0, Vn, Vn, Vn]) o Z58 Z Z ?_
 intro ah ax p
 refine G ?_
 refine Exec.buildSlice (Te := 3) (cs := [O a]) p Z (Qc (c := [O a]) (Qe Z Z) Qi) (fun _ => by kernel_rfl) ?_
 intro ai ay q
 have t := St.boxArr (E := (U .i64)) (xs := [a]) q ⟨[O a], [], rfl, rfl, rfl⟩ (by simp [maxLen])
 obtain ⟨ap, ak, u, z⟩ := t.freezeArr
 obtain ⟨aa, y, hm⟩ := V hm
 obtain ⟨a1, a2⟩ := aa
 replace hm := Q7 hm
 refine G ?_
 refine Tc Z Z Z Z (Qa0 y u rq rq rq rq z).r ?_
 rintro _ az ⟨aq, ar, au, av, al, aj, rfl, am, an, ao⟩
 refine G ?_
 refine KJ Z Z Z ?_
 intro a0 x
 cases hm
 refine G ?_
 refine ⟨_, QaS Z ⟨_, _, Z, Kb (x) A58.h⟩ Z, ?_⟩
 exact fq
theorem Z83 : Ji Tryz.prog 83 = some (Value.agg #[O 0, Value.slice none 0 0, Value.slice none 0 0, O 0]) := by kernel_rfl
instance A83 : ATy Tryz.prog 83 true 4 := ⟨by kernel_rfl⟩
instance F58_0 : FTy Tryz.prog 58 0 0 := ⟨by kernel_rfl⟩
instance F58_1 : FTy Tryz.prog 58 1 1 := ⟨by kernel_rfl⟩
instance A100 : ATy Tryz.prog 100 true 3 := ⟨by kernel_rfl⟩
instance F100_0 : FTy Tryz.prog 100 0 0 := ⟨by kernel_rfl⟩
instance F100_2 : FTy Tryz.prog 100 2 2 := ⟨by kernel_rfl⟩
instance F100_1 : FTy Tryz.prog 100 1 1 := ⟨by kernel_rfl⟩
theorem QcN {w0 w : World} {s : PHeap} {H : List Res} {b : Int} {r : Bool} (hm : Y2 b = some r) (hS : St w0 s (H) w) :
  Calls Tryz.prog 144 #[O b] w fun e w' => ∃ v, e = .returned v ∧ ((fun (c : Bool) => ∃ (a : PHeap) , PHeap.le s a ∧ St w0 a (H) w' ∧ v = Value.bool (c)) r) := by
 unfold Y2 at hm
 refine Qd Tryz.func144 Z Z ?_
 cases hm
 refine G ?_
 exact fr
theorem Jq {w0 w : World} {s : PHeap} {H : List Res} {a : Int} {b : Int} {r : Int} (hm : Kp a b = some r) (hS : St w0 s (H) w) :
  Calls Tryz.prog 124 #[O a, O b] w fun e w' => ∃ v, e = .returned v ∧ ((fun (k : Int) => ∃ (c : PHeap) , PHeap.le s c ∧ St w0 c (H) w' ∧ v = O k) r) := by
 unfold Kp at hm
 refine Qd Tryz.func124 Z Z (G ?_)
 refine Tc Z Z Z Z (QcN (Y9 a) hS).r ?_
 rintro _ q ⟨o, m, d, rfl⟩
 refine G ?_
 refine Tc Z Z Z Z (QcN (Y9 b) d).r ?_
 rintro _ t ⟨p, n, l, rfl⟩
 refine G ?_
 rcases Qs hm with ⟨f, hm⟩ | ⟨f, hm⟩
 ·refine G ?_
  rcases Qs hm with ⟨g, hm⟩ | ⟨g, hm⟩
  ·cases hm
   refine G ?_
   exact fr
  cases hm
  refine G ?_
  exact fr
 refine G ?_
 rcases Qs hm with ⟨h, hm⟩ | ⟨h, hm⟩
 ·cases hm
  refine G ?_
  exact fr
 refine G ?_
 rcases Qs hm with ⟨i, hm⟩ | ⟨i, hm⟩
 ·cases hm
  refine G ?_
  exact fr
 refine G ?_
 rcases Qs hm with ⟨j, hm⟩ | ⟨j, hm⟩
 ·cases hm
  refine G ?_
  exact fr
 cases hm
 refine G ?_
 exact fr
theorem Qcm {w0 w : World} {s : PHeap} {H : List Res} {c : (List Int)} {b : Value} {r : Int} (hm : Ym c = some r) (hS : St w0 s (H) w) (ah : SliceRep (U .i64) s b c) :
  Calls Tryz.prog 123 #[b] w fun e w' => ∃ v, e = .returned v ∧ ((fun (ag : Int) => ∃ (j : PHeap) , PHeap.le s j ∧ St w0 j (H) w' ∧ v = O ag) r) := by
 unfold Ym at hm
 refine Qd Tryz.func123 Z Z ?_
 obtain ⟨d, o, ab, z, x⟩ := Qr hm
 refine Zc (Zd (g ?_))
 refine Zc (Zd (g ?_))
 refine Zc (Zc (Zd (g ?_)))
 refine Qp (M := fun f' w' => ∃ s', (d = .next s' ∨ d = .brk s') ∧ (fun (_ : Unit) => ∃ (l : PHeap) , PHeap.le s l ∧ St w0 l (H) w' ∧ Fx f' [(3, O 0), (6, b), (7, O ((c.length : Int)))]) s') ?_ ?_
 ·refine G ?_
  refine QF (fun k' s' f' w' => (fun (_ : Unit) => ∃ (m : PHeap) , PHeap.le s m ∧ St w0 m (H) w' ∧ Fx f' [(8, O (k' : Int)), (3, O 0), (6, b), (7, O ((c.length : Int)))]) s') o ?_ ?_ ?_
  ·exact fq
  ·intro av a3 aj ak a7 au p a ac
   obtain ⟨a0, aw, u, ⟨al, rfl⟩⟩ := p
   obtain ⟨aA, ae, a⟩ := V a
   refine G ?_
   refine Jk Z Z Z ae ?_
   intro ai az n
   refine G ?_
   refine Zw (E := (U .i64)) u A3.h Z Z Z n ?_
   intro a6 af
   obtain rfl := Qg.1 af
   refine G ?_
   rcases Qs a with ⟨y, a⟩ | ⟨y, a⟩
   ·cases a
    have aa := ab _ (ac (by intro _ h; cases h))
    cases aa
    refine G ?_
    exact fr
   cases a
   refine G ?_
   exact ⟨_, Z, fq⟩
  intro a4 am a8 q ad
  obtain ⟨a1, ax, aq, ⟨an, rfl⟩⟩ := q
  refine G ?_
  exact ⟨_, .inl ad, fq⟩
 rintro ao a9 ⟨a5, i, t⟩
 have hm := i.elim (z _) (x _)
 clear i
 obtain ⟨a2, ay, ar, ⟨ap, rfl⟩⟩ := t
 cases hm
 refine G ?_
 exact fr
theorem Qco {w0 w : World} {s : PHeap} {H : List Res} {a : Edge} {b : Edge} {r : Int} (hm : K2 a b = some r) (hS : St w0 s (H) w) :
  Calls Tryz.prog 87 #[Value.agg #[O (a.From), O (a.Label), O (a.To)], Value.agg #[O (b.From), O (b.Label), O (b.To)]] w fun e w' => ∃ v, e = .returned v ∧ ((fun (p : Int) => ∃ (d : PHeap) , PHeap.le s d ∧ St w0 d (H) w' ∧ v = O p) r) := by
 unfold K2 at hm
 refine Qd Tryz.func87 Z Z (G ?_)
 refine Kq Z Z ?_
 intro q aj x
 refine G ?_
 refine Kq Z Z ?_
 intro t ak f
 refine G ?_
 refine JE (n0 := 17) (qs 0 4 (qs 5 4 (qs 10 4 (.e 4 [5, 6, 7, 8, 10, 11, 12, 13] (.e 9 [10, 11, 12, 13] (.e 14 [] (.e 15 [] (.e 16 [] .done)))))))) JM (by kernel_rfl) (by kernel_rfl) ?_
 have g := f.drew
 refine G ?_
 refine Tc Z Z Z Z (Jq (Je a.From b.From) g).r ?_
 rintro _ al ⟨ae, z, h, rfl⟩
 refine ⟨agq, ?_⟩
 refine G ?_
 refine Tc Z Z Z Z (Jq (Je a.Label b.Label) h).r ?_
 rintro _ am ⟨af, aa, i, rfl⟩
 refine ⟨agq, ?_⟩
 refine G ?_
 refine Tc Z Z Z Z (Jq (Je a.To b.To) i).r ?_
 rintro _ an ⟨ag, ab, j, rfl⟩
 refine ⟨agq, ?_⟩
 refine G ?_
 refine Exec.buildSlice (Te := 3) (cs := [O ((Qj a.From b.From)), O ((Qj a.Label b.Label)), O ((Qj a.To b.To))]) j Z (Qc (c := [O ((Qj a.From b.From))]) (Qe Z Z) (Qc (c := [O ((Qj a.Label b.Label))]) (Qe Z Z) (Qc (c := [O ((Qj a.To b.To))]) (Qe Z Z) Qi))) (fun _ => by kernel_rfl) ?_
 intro u ao k
 refine ⟨agq, ?_⟩
 have l := St.boxArr (E := (U .i64)) (xs := [(Qj a.From b.From), (Qj a.Label b.Label), (Qj a.To b.To)]) k ⟨[O ((Qj a.From b.From))], [O ((Qj a.Label b.Label)), O ((Qj a.To b.To))], rfl, rfl, ⟨[O ((Qj a.Label b.Label))], [O ((Qj a.To b.To))], rfl, rfl, ⟨[O ((Qj a.To b.To))], [], rfl, rfl, rfl⟩⟩⟩ (by simp [maxLen])
 obtain ⟨ah, ac, m, o⟩ := l.freezeArr
 obtain ⟨aq, n, hm⟩ := V hm
 refine G ?_
 refine Tc Z Z Z Z (Qcm n m o).r ?_
 rintro _ ap ⟨ai, ad, y, rfl⟩
 refine ⟨agq, ?_⟩
 cases hm
 refine G ?_
 exact fr
theorem Yb {w0 w : World} {s : PHeap} {H : List Res} {a : System} {d : Value} {i : Value} {l : Value} {r : Bool} (hm : JU a = some r) (hS : St w0 s (H) w) (bk : SliceRep (U .i64) s d a.Costs) (ak : SliceRep encEdge s i a.Edges) (bl : SliceRep encBool s l a.Goals) :
  Calls Tryz.prog 58 #[Value.agg #[O (a.States), O (a.Init), d, i, l]] w fun e w' => ∃ v, e = .returned v ∧ ((fun (bj : Bool) => ∃ (aa : PHeap) , PHeap.le s aa ∧ St w0 aa (H) w' ∧ v = Value.bool (bj)) r) := by
 unfold JU at hm
 refine Qd Tryz.func58 Z Z (G ?_)
 refine Kq Z Z ?_
 intro c cn bC
 refine g ?_
 refine Zc (Zc (Qp (M := fun f' w' => ∃ (ab : PHeap) , PHeap.le s ab ∧ St w0 ab (Res.box c 58 [O (a.States), O (a.Init), d, i, l] :: H) w' ∧ Fx f' [(1, Vq c), (46, Vb (((decide (a.States < 1)) || ((decide (4096 < a.States)) || ((decide (a.Init < 0)) || ((decide (a.States ≤ a.Init)) || ((!decide ((a.Goals.length : Int) = a.States)) || ((decide (4096 < (a.Costs.length : Int))) || decide (65536 < (a.Edges.length : Int))))))))))]) ?_ ?_))
 ·refine G ?_
  rcases tf (decide (a.States < 1)) with a5 | a5
  ·refine G ?_
   exact fq
  refine G ?_
  rcases tf (decide (4096 < a.States)) with a6 | a6
  ·refine G ?_
   exact fq
  refine G ?_
  rcases tf (decide (a.Init < 0)) with a7 | a7
  ·refine G ?_
   exact fq
  refine G ?_
  rcases tf (decide (a.States ≤ a.Init)) with a8 | a8
  ·refine G ?_
   exact fq
  refine G ?_
  rcases tf (!decide ((a.Goals.length : Int) = a.States)) with a9 | a9
  ·refine G ?_
   exact fq
  refine G ?_
  rcases tf (decide (4096 < (a.Costs.length : Int))) with aA | aA
  ·refine G ?_
   exact fq
  refine G ?_
  exact fq
 intro bt co aw
 obtain ⟨ac, aX, bD, ⟨bu, rfl⟩⟩ := aw
 refine G ?_
 rcases Qs hm with ⟨x, hm⟩ | ⟨x, hm⟩
 ·cases hm
  refine G ?_
  exact fr
 obtain ⟨p, ao, aP, aL, a3⟩ := Qr hm
 refine W_c Z x (Qa4 (Jt (Ze (Zc (Zc (Zd (g ?_)))))))
 refine Qp (M := fun f' w' => ∃ s', (p = .next s' ∨ p = .brk s') ∧ (fun (_ : Unit) => ∃ (ad : PHeap) , PHeap.le ac ad ∧ St w0 ad (Res.box c 58 [O (a.States), O (a.Init), d, i, l] :: H) w' ∧ Fx f' [(1, Vq c), (48, d), (49, O ((a.Costs.length : Int)))]) s') ?_ ?_
 ·refine G ?_
  refine QF (fun k' s' f' w' => (fun (_ : Unit) => ∃ (ae : PHeap) , PHeap.le ac ae ∧ St w0 ae (Res.box c 58 [O (a.States), O (a.Init), d, i, l] :: H) w' ∧ Fx f' [(50, O (k' : Int)), (1, Vq c), (48, d), (49, O ((a.Costs.length : Int)))]) s') ao ?_ ?_ ?_
  ·exact fq
  ·intro aV ce bq bv cp bM aq m aR
   obtain ⟨bh, bO, a1, ⟨bw, rfl⟩⟩ := aq
   obtain ⟨n, ba, m⟩ := V m
   refine G ?_
   refine Jk Z Z Z ba ?_
   intro bm bV al
   refine G ?_
   refine Zw (E := (U .i64)) a1 A3.h Z Z Z al ?_
   intro ck bb
   obtain rfl := Qg.1 bb
   refine g ?_
   refine Zc (Qp (M := fun f' w' => ∃ (af : PHeap) , PHeap.le bh af ∧ St w0 af (Res.box c 58 [O (a.States), O (a.Init), d, i, l] :: H) w' ∧ Fx f' [(1, Vq c), (48, d), (49, O ((a.Costs.length : Int))), (50, O ((aV : Int))), (59, Vb (((decide (n < 0)) || decide (1048576 < n))))]) ?_ ?_)
   ·refine G ?_
    rcases tf (decide (n < 0)) with aB | aB
    ·refine G ?_
     exact fq
    refine G ?_
    exact fq
   intro bx cq ax
   obtain ⟨bY, bP, bE, ⟨bz, rfl⟩⟩ := ax
   refine G ?_
   rcases Qs m with ⟨aC, m⟩ | ⟨aC, m⟩
   ·cases m
    have aN := aP _ (aR (by intro _ h; cases h))
    cases aN
    refine G ?_
    exact fr
   cases m
   refine G ?_
   exact ⟨_, Z, fq⟩
  intro cf b0 cr ar aS
  obtain ⟨bZ, bQ, bF, ⟨b1, rfl⟩⟩ := ar
  refine G ?_
  exact ⟨_, .inl aS, fq⟩
 rintro b2 ct ⟨cg, y, ay⟩
 have hm := y.elim (aL _) (a3 _)
 clear y
 obtain ⟨ag, aY, bG, ⟨b3, rfl⟩⟩ := ay
 obtain ⟨q, ap, aQ, aM, a4⟩ := Qr hm
 refine g ?_
 refine Zc (Zc (Zd (g ?_)))
 refine Qp (M := fun f' w' => ∃ s', (q = .next s' ∨ q = .brk s') ∧ (fun (_ : Unit) => ∃ (ah : PHeap) , PHeap.le ag ah ∧ St w0 ah (Res.box c 58 [O (a.States), O (a.Init), d, i, l] :: H) w' ∧ Fx f' [(1, Vq c), (62, i), (63, O ((a.Edges.length : Int)))]) s') ?_ ?_
 ·refine G ?_
  refine QF (fun k' s' f' w' => (fun (_ : Unit) => ∃ (ai : PHeap) , PHeap.le ag ai ∧ St w0 ai (Res.box c 58 [O (a.States), O (a.Init), d, i, l] :: H) w' ∧ Fx f' [(64, O (k' : Int)), (1, Vq c), (62, i), (63, O ((a.Edges.length : Int)))]) s') ap ?_ ?_ ?_
  ·exact fq
  ·intro aW ch br b4 cu bN au j aT
   obtain ⟨bi, aZ, t, ⟨b5, rfl⟩⟩ := au
   obtain ⟨c1, bc, j⟩ := V j
   refine G ?_
   refine Jk Z Z Z bc ?_
   intro bn bW am
   refine G ?_
   refine Zw (E := encEdge) t A100.h Z Z Z am ?_
   intro cl bd
   obtain rfl := Jz.1 bd
   refine G ?_
   refine Exec.alloc (cs := [O 0, O 0, O 0]) t QeW Z Z ?_
   intro bo cv bH
   refine G ?_
   refine KJ Z Z Z ?_
   intro cw a2
   obtain ⟨o, b, j⟩ := V j
   refine g ?_
   refine Zc (Qp (M := fun f' w' => (fun (o : Bool) => ∃ (aj : PHeap) , PHeap.le bi aj ∧ St w0 aj (Res.box c 58 [O (a.States), O (a.Init), d, i, l] :: H) w' ∧ Fx f' [(1, Vq c), (62, i), (63, O ((a.Edges.length : Int))), (64, O ((aW : Int))), (118, Vb o)]) o) ?_ ?_)
   ·refine JE (n0 := 50) (qs 0 46 (.e 46 [] (qs 47 3 .done))) JM (by kernel_rfl) (by kernel_rfl) ?_
    have u := a2.drew
    refine G ?_
    rcases Qs b with ⟨aD, b⟩ | ⟨aD, b⟩
    ·cases b
     refine G ?_
     exact fq
    refine G ?_
    rcases Qs b with ⟨aE, b⟩ | ⟨aE, b⟩
    ·cases b
     refine G ?_
     exact fq
    refine G ?_
    rcases Qs b with ⟨aF, b⟩ | ⟨aF, b⟩
    ·cases b
     refine G ?_
     exact fq
    refine G ?_
    rcases Qs b with ⟨aG, b⟩ | ⟨aG, b⟩
    ·cases b
     refine G ?_
     exact fq
    refine G ?_
    rcases Qs b with ⟨aH, b⟩ | ⟨aH, b⟩
    ·cases b
     refine G ?_
     exact fq
    refine G ?_
    rcases Qs b with ⟨aI, b⟩ | ⟨aI, b⟩
    ·cases b
     refine G ?_
     exact fq
    refine G ?_
    rcases Qs b with ⟨aJ, b⟩ | ⟨aJ, b⟩
    ·obtain ⟨c2, be, b⟩ := V b
     refine G ?_
     refine Qy S55.h Z Z Z (ak.mono (Zt (Zt aX aY) aZ)) be ?_
     intro bp bX an bs
     refine ⟨Z, ?_⟩
     refine G ?_
     refine Zw (E := encEdge) u A100.h Z Z Z an ?_
     intro cm bf
     obtain rfl := Jz.1 bf
     refine ⟨Z, ?_⟩
     obtain ⟨c3, bg, b⟩ := V b
     refine G ?_
     refine Tc Z Z Z Z (Qco bg u).r ?_
     rintro _ cx ⟨ca, bR, bI, rfl⟩
     refine ⟨agq, ?_⟩
     cases b
     refine G ?_
     exact fq
    cases b
    refine G ?_
    exact fq
   intro b6 cy az
   obtain ⟨cb, bS, bJ, ⟨b7, rfl⟩⟩ := az
   refine G ?_
   rcases Qs j with ⟨aK, j⟩ | ⟨aK, j⟩
   ·cases j
    have aO := aQ _ (aT (by intro _ h; cases h))
    cases aO
    refine G ?_
    exact fr
   cases j
   refine G ?_
   exact ⟨_, Z, fq⟩
  intro ci b8 cz av aU
  obtain ⟨cc, bT, bK, ⟨b9, rfl⟩⟩ := av
  refine G ?_
  exact ⟨_, .inl aU, fq⟩
 rintro bA c0 ⟨cj, z, a0⟩
 have hm := z.elim (aM _) (a4 _)
 clear z
 obtain ⟨cd, bU, bL, ⟨bB, rfl⟩⟩ := a0
 cases hm
 refine G ?_
 exact fr
instance S198 : STy Tryz.prog 198 9 1 16 := ⟨by kernel_rfl⟩
theorem Z9 : Ji Tryz.prog 9 = some (Value.string ⟨#[]⟩) := by kernel_rfl
instance A4 : ATy Tryz.prog 4 false 1 := ⟨by kernel_rfl⟩
theorem QcP {w0 w : World} {s : PHeap} {H : List Res} {a : Bool} {r : ByteArray} (hm : JS a = some r) (hS : St w0 s (H) w) :
  Calls Tryz.prog 145 #[Value.bool (a)] w fun e w' => ∃ v, e = .returned v ∧ ((fun (d : ByteArray) => ∃ (b : PHeap) , PHeap.le s b ∧ St w0 b (H) w' ∧ v = Value.string (d)) r) := by
 unfold JS at hm
 refine Qd Tryz.func145 Z Z (G ?_)
 rcases Qs hm with ⟨c, hm⟩ | ⟨c, hm⟩
 ·cases hm
  refine G ?_
  exact fr
 cases hm
 refine G ?_
 exact fr
theorem QdO {w0 w : World} {s : PHeap} {H : List Res} {a : Bool} {r : ByteArray} (hm : Kv a = some r) (hS : St w0 s (H) w) :
  Calls Tryz.prog 117 #[Value.bool (a)] w fun e w' => ∃ v, e = .returned v ∧ ((fun (c : ByteArray) => ∃ (b : PHeap) , PHeap.le s b ∧ St w0 b (H) w' ∧ v = Value.string (c)) r) := by
 unfold Kv at hm
 refine Qd Tryz.func117 Z Z (G ?_)
 refine Tc Z Z Z Z (QcP (Qao a) hS).r ?_
 rintro _ h ⟨g, f, d, rfl⟩
 cases hm
 refine G ?_
 exact fr
theorem QbB {w0 w : World} {s : PHeap} {H : List Res} {d : (List ByteArray)} {i : Value} {r : (List Int) × Int} (hm : Kh d = some r) (hS : St w0 s (Res.arr encStr 9 i d :: H) w) :
  Calls Tryz.prog 118 #[i] w fun e w' => ∃ v, e = .returned v ∧ ((QI fun (az : (List Int)) (a0 : Int) => ∃ (y : PHeap) (ac : Value), PHeap.le s y ∧ St w0 y (Res.arr encStr 9 i d :: Res.arr (U .i64) 3 ac az :: H) w' ∧ v = Value.tuple #[ac, O a0]) r) := by
 unfold Kh at hm
 refine Qd Tryz.func118 Z Z (G ?_)
 refine Qi9 (k := 9) (e := 3) hS Z ?_
 intro n aL q
 refine G ?_
 refine Q0 (q.f1) S198.h Z Z ?_
 obtain ⟨aw, ad, hm⟩ := V hm
 refine G ?_
 refine QO (fun k' s' f' w' => (QI fun (o : (List Int)) (t : Qdg) => ∃ (z : PHeap) (l : Value), PHeap.le s z ∧ St w0 z (Res.arr encStr 9 i d :: Res.smap Tryz.prog 9 3 n t :: Res.arr (U .i64) 3 l o :: H) w' ∧ Fx f' [(13, O (k' : Int)), (4, Value.map (some n)), (5, l), (11, i), (12, O ((d.length : Int)))]) s') ad ?_ ?_ ?_
 ·have aA := q.nilArr (U .i64) 3
  exact fq
 ·intro an ax aI a3 aM am ae a
  obtain ⟨o, t⟩ := ax
  replace a := Q7 a
  obtain ⟨au, l, aC, m, ⟨a4, rfl⟩⟩ := ae
  obtain ⟨aS, p, a⟩ := V a
  obtain ⟨a9, a2, u⟩ := m.arr_at p
  refine G ?_
  refine Qa S198.h Z u Z (Qb p).1 (Qb p).2.1 (G ?_)
  refine Qf (F := encStr) (m) u A9.h Z Z Z p (Sub.refl _) ?_
  intro aK ao
  obtain rfl := Qff.1 ao
  obtain ⟨aH, ap, a⟩ := V a
  refine G ?_
  refine QjK (m.f1) ⟨Tryz.underlying229, Tryz.underlying9, Tryz.underlying3⟩ Z3 Z Z Z ap ?_
  obtain ⟨ab, b, a⟩ := V a
  refine g ?_
  refine Zc (Zc (Zd (g ?_)))
  refine Qp (M := fun f' w' => (QI fun (j : Int) (x : Qdg) => ∃ (aa : PHeap) , PHeap.le au aa ∧ St w0 aa (Res.arr encStr 9 i d :: Res.smap Tryz.prog 9 3 n x :: Res.arr (U .i64) 3 l o :: H) w' ∧ Fx f' [(4, Value.map (some n)), (5, l), (8, O j), (11, i), (12, O ((d.length : Int))), (13, O ((an : Int)))]) ab) ?_ ?_
  ·rcases Qs b with ⟨al, b⟩ | ⟨al, b⟩
   ·refine G ?_
    refine QfK (m.f1) ⟨Tryz.underlying229, Tryz.underlying9, Tryz.underlying3⟩ Z Z ?_
    obtain ⟨aG, aq, b⟩ := V b
    refine G ?_
    refine QjJ m.f1 ⟨Tryz.underlying229, Tryz.underlying9, Tryz.underlying3⟩ Z Z Z Z aq ?_
    intro aN aB
    cases b
    refine G ?_
    exact fq
   cases b
   refine G ?_
   exact fq
  intro a5 aO ag
  obtain ⟨j, x⟩ := ab
  replace a := Q7 a
  obtain ⟨av, aD, ah, ⟨a6, rfl⟩⟩ := ag
  refine G ?_
  refine Exec.buildSlice (Te := 3) (cs := [O j]) ah Z (Qc (c := [O j]) (Qe Z Z) Qi) (fun _ => by kernel_rfl) ?_
  intro a1 aP ai
  obtain ⟨aE, ar, a⟩ := V a
  refine G ?_
  refine Q5 (E := (U .i64)) (ys := [j]) ai.f3 S22.h Z3 Z (by decide) Z Z Z Z ⟨[O j], [], Z, Z, Z⟩ Z ar ?_
  intro ay aQ aj
  cases a
  refine G ?_
  exact ⟨av, ay, lq, (aj.f2).f2, (Fx.mk (FxL.cons (QM am (q.f1).arr_le) fxl))⟩
 intro a7 aR af
 obtain ⟨o, t⟩ := aw
 replace hm := Q7 hm
 obtain ⟨aJ, l, aF, ak, ⟨a8, rfl⟩⟩ := af
 refine G ?_
 refine QfK (ak.f1) ⟨Tryz.underlying229, Tryz.underlying9, Tryz.underlying3⟩ Z Z ?_
 cases hm
 refine G ?_
 refine ⟨_, QaL Z, ?_⟩
 exact fq
instance S230 : STy Tryz.prog 230 231 1 24 := ⟨by kernel_rfl⟩
theorem QqO : Ji Tryz.prog 231 = some (Value.slice none 0 0) := by kernel_rfl
instance A231 : ATy Tryz.prog 231 false 1 := ⟨by kernel_rfl⟩
instance S231 : STy Tryz.prog 231 232 2 16 := ⟨by kernel_rfl⟩
theorem Qp8 : Ji Tryz.prog 232 = some (Value.agg #[O 0, O 0]) := by kernel_rfl
theorem Qey {w0 w : World} {s : PHeap} {H : List Res} {a : Arr2_int} {b : Arr2_int} {r : Int} (hm : Y8 a b = some r) (hS : St w0 s (H) w) :
  Calls Tryz.prog 147 #[Value.agg #[O (a.a0), O (a.a1)], Value.agg #[O (b.a0), O (b.a1)]] w fun e w' => ∃ v, e = .returned v ∧ ((fun (o : Int) => ∃ (g : PHeap) , PHeap.le s g ∧ St w0 g (H) w' ∧ v = O o) r) := by
 unfold Y8 at hm
 refine Qd Tryz.func147 Z Z (G ?_)
 refine Kq Z Z ?_
 intro p ag u
 refine G ?_
 refine Kq Z Z ?_
 intro q ah d
 refine G ?_
 refine JE (n0 := 12) (qs 0 4 (qs 5 4 (.e 4 [5, 6, 7, 8] (.e 9 [] (.e 10 [] (.e 11 [] .done)))))) JM (by kernel_rfl) (by kernel_rfl) (G ?_)
 refine JV Tryz.underlying232 A3.h Z Z Z (by decide) Z ⟨Z, ?_⟩
 refine G ?_
 refine Zn ((d.drew).f1) A3.h Z Z Z ⟨Z, ?_⟩
 refine G ?_
 refine JV Tryz.underlying232 A3.h Z Z Z (by decide) Z ⟨Z, ?_⟩
 refine G ?_
 refine Zn (d.drew) A3.h Z Z Z ⟨Z, ?_⟩
 refine G ?_
 refine JV Tryz.underlying232 A3.h Z Z Z (by decide) Z ⟨Z, ?_⟩
 refine G ?_
 refine Zn ((d.drew).f1) A3.h Z Z Z ⟨Z, ?_⟩
 refine G ?_
 refine JV Tryz.underlying232 A3.h Z Z Z (by decide) Z ⟨Z, ?_⟩
 refine G ?_
 refine Zn (d.drew) A3.h Z Z Z ⟨Z, ?_⟩
 refine G ?_
 refine Tc Z Z Z Z (Jq (Je a.a0 b.a0) d.drew).r ?_
 rintro _ ai ⟨ac, y, f, rfl⟩
 refine ⟨(Qh (Q1 Z Z (JV Tryz.underlying232 A3.h Z Z Z (by decide) Z ⟨Z, Z⟩)) (Qh (Q1 Z Z (Zn (f.f1) A3.h Z Z Z ⟨Z, Z⟩)) (Qh (Q1 Z Z (JV Tryz.underlying232 A3.h Z Z Z (by decide) Z ⟨Z, Z⟩)) (Qh (Q1 Z Z (Zn (f) A3.h Z Z Z ⟨Z, Z⟩)) J5)))), ?_⟩
 refine G ?_
 refine Tc Z Z Z Z (Jq (Je a.a1 b.a1) f).r ?_
 rintro _ aj ⟨ad, z, i, rfl⟩
 refine ⟨agq, ?_⟩
 refine G ?_
 refine Exec.buildSlice (Te := 3) (cs := [O ((Qj a.a0 b.a0)), O ((Qj a.a1 b.a1))]) i Z (Qc (c := [O ((Qj a.a0 b.a0))]) (Qe Z Z) (Qc (c := [O ((Qj a.a1 b.a1))]) (Qe Z Z) Qi)) (fun _ => by kernel_rfl) ?_
 intro t ak j
 refine ⟨agq, ?_⟩
 have k := St.boxArr (E := (U .i64)) (xs := [(Qj a.a0 b.a0), (Qj a.a1 b.a1)]) j ⟨[O ((Qj a.a0 b.a0))], [O ((Qj a.a1 b.a1))], rfl, rfl, ⟨[O ((Qj a.a1 b.a1))], [], rfl, rfl, rfl⟩⟩ (by simp [maxLen])
 obtain ⟨ae, aa, l, n⟩ := k.freezeArr
 obtain ⟨am, m, hm⟩ := V hm
 refine G ?_
 refine Tc Z Z Z Z (Qcm m l n).r ?_
 rintro _ al ⟨af, ab, x, rfl⟩
 refine ⟨agq, ?_⟩
 cases hm
 refine G ?_
 exact fr
end Go.Pw
