/- -/
import Derived.Test.YtfcmpbkafbhdgaaGreatDoorLC
import Derived.Test.YtfcmpbkafbhdgaaGreatDoorLD
import Derived.Test.YtfcmpbkafbhdgaaGreatDoorWc1
import Derived.Test.YtfcmpbkafbhdgaaGreatDoorWcX
set_option maxRecDepth 100000
set_option maxHeartbeats 4000000
set_option linter.unusedVariables false
namespace Go.Pw
open Go.Proofs
attribute [local irreducible] Exec WL W andThen Y0 DL QB
theorem Qmo : Qb3 Tryz.prog 52 2 = true := by kernel_rfl
theorem QcN {w0 w : World} {s : PHeap} {H : List Res} {t : (List Fact)} {b : Value} {r : Nat × (List Fact)} (hm : Yi t = some r) (hS : St w0 s (Res.arr encFact 52 b t :: H) w) :
  Calls Tryz.prog 143 #[b] w fun e w' => ∃ v, e = .returned v ∧ ((QK fun (br : Nat) (bb : (List Fact)) => ∃ (a3 : PHeap) (aA : Value), PHeap.le s a3 ∧ St w0 a3 (Res.arr encFact 52 b bb :: H) w' ∧ v = aA ∧ SubOf 2 b aA 0 br) r) := by
 unfold Yi at hm
 refine Qb Tryz.func143 Z Z (G ?_)
 refine Qv (hS) S23.h Z Z (G ?_)
 rcases Qk hm with ⟨an, hm⟩ | ⟨an, hm⟩
 ·cases hm
  refine G ?_
  refine ⟨_, Qaf Z, ?_⟩
  exact ⟨s, b, (Zv _), hS, Z, (Or.inl ⟨Z, Z, hS.arr_shape⟩)⟩
 obtain ⟨ac, aI, aZ, aW, aQ⟩ := Qo hm
 refine W_c Z an (Qa0 (QT (Ze (Zc (Zc (Zd (g ?_)))))))
 refine Qm (M := fun f' w' => ∃ s', (ac = .next s' ∨ ac = .brk s') ∧ (fun (ar : Int) => ∃ (a4 : PHeap) , PHeap.le s a4 ∧ St w0 a4 (Res.arr encFact 52 b t :: H) w' ∧ Fx f' [(0, b), (3, U ar)]) s') ?_ ?_
 ·refine G ?_
  refine Y8 (fun s' f' w' => (fun (au : Int) => ∃ (a5 : PHeap) , PHeap.le s a5 ∧ St w0 a5 (Res.arr encFact 52 b t :: H) w' ∧ Fx f' [(0, b), (3, U au)]) s') aI ?_ ?_
  ·exact V
  intro au aF b3 ca aK a aq
  obtain ⟨aa, bc, u, ⟨b4, rfl⟩⟩ := aK
  refine G ?_
  refine Qv (u) S23.h Z Z (G ?_)
  rcases Qk a with ⟨aS, a⟩ | ⟨aS, a⟩
  ·refine G ?_
   refine KG (n0 := 10) (qs 0 10 .done) Yp (by kernel_rfl) (by kernel_rfl) ?_
   have j := u.drew
   obtain ⟨aB, l, a⟩ := Zg a
   obtain ⟨bD, bs, ae⟩ := j.arr_at l
   refine G ?_
   refine Qe S23.h Z ae Z (Qf l).1 (Qf l).2.1 ⟨Z, ?_⟩
   refine G ?_
   refine Qs (F := encFact) (j) ae A52.h Z Z Z l (Sub.refl _) ?_
   intro bU be
   obtain rfl := Q9.1 be
   refine ⟨Z, ?_⟩
   obtain ⟨aC, m, a⟩ := Zg a
   obtain ⟨bE, bt, af⟩ := j.arr_at m
   refine G ?_
   refine Qe S23.h Z af Z (Qf m).1 (Qf m).2.1 ⟨Z, ?_⟩
   refine G ?_
   refine Qs (F := encFact) (j) af A52.h Z Z Z m (Sub.refl _) ?_
   intro bV bf
   obtain rfl := Q9.1 bf
   refine ⟨Z, ?_⟩
   refine G ?_
   refine Qgm (xs := [aB.Var, aB.Val]) (ys := [aC.Var, aC.Val]) Qmo Z Z Z Z Z Z Z ⟨Z, ?_⟩
   refine G ?_
   rcases Qk a with ⟨aT, a⟩ | ⟨aT, a⟩
   ·obtain ⟨bQ, n, a⟩ := Zg a
    refine G ?_
    refine Qan (j) S23.h Z Z Z n ?_
    intro ab k
    obtain ⟨ad, aJ, bL, aX, aR⟩ := Qo a
    refine g ?_
    refine Zc (Zc (Zd (g ?_)))
    refine Qm (M := fun f' w' => ∃ s', (ad = .next s' ∨ ad = .brk s') ∧ (K3 fun (av : Int) (aw : Int) (az : (List Fact)) => ∃ (a6 : PHeap) , PHeap.le aa a6 ∧ St w0 a6 (Res.arr encFact 52 b az :: H) w' ∧ Fx f' [(0, b), (3, U av), (4, ab), (5, U aw)]) s') ?_ ?_
    ·refine G ?_
     refine Y8 (fun s' f' w' => (K3 fun (ax : Int) (x : Int) (a0 : (List Fact)) => ∃ (a7 : PHeap) , PHeap.le aa a7 ∧ St w0 a7 (Res.arr encFact 52 b a0 :: H) w' ∧ Fx f' [(0, b), (3, U ax), (4, ab), (5, U x)]) s') aJ ?_ ?_
     ·exact V
     intro bo bu b5 cb aL c ba
     obtain ⟨ax, x, a0⟩ := bo
     replace c := Js c
     obtain ⟨bl, bM, aP, ⟨b6, rfl⟩⟩ := aL
     refine G ?_
     refine QbR S23.h k Z Z (G ?_)
     rcases Qk c with ⟨aU, c⟩ | ⟨aU, c⟩
     ·refine G ?_
      refine KG (n0 := 10) (qs 0 10 .done) Yp (by kernel_rfl) (by kernel_rfl) ?_
      have i := aP.drew
      obtain ⟨aD, o, c⟩ := Zg c
      obtain ⟨bF, bv, ag⟩ := i.arr_at (Kn o).2.2
      refine G ?_
      refine QaN S23.h (Qc5 n).1 k ag Z Z Z (Kn o).1 (Kn o).2.1 ⟨Z, ?_⟩
      refine G ?_
      refine Qs (F := encFact) (i) ag A52.h Z Z Z (Kn o).2.2 (Sub.refl _) ?_
      intro bW bg
      obtain rfl := Q9.1 bg
      refine ⟨Z, ?_⟩
      obtain ⟨aE, p, c⟩ := Zg c
      obtain ⟨bG, bw, ah⟩ := i.arr_at (Kn p).2.2
      refine G ?_
      refine QaN S23.h (Qc5 n).1 k ah Z Z Z (Kn p).1 (Kn p).2.1 ⟨Z, ?_⟩
      refine G ?_
      refine Qs (F := encFact) (i) ah A52.h Z Z Z (Kn p).2.2 (Sub.refl _) ?_
      intro bX bh
      obtain rfl := Q9.1 bh
      refine ⟨Z, ?_⟩
      refine G ?_
      refine Qgl (xs := [aD.Var, aD.Val]) (ys := [aE.Var, aE.Val]) Qmo Z Z Z Z Z Z Z ⟨Z, ?_⟩
      obtain ⟨a9, d, c⟩ := Zg c
      refine g ?_
      refine Qm (M := fun f' w' => (QK fun (ay : Int) (a1 : (List Fact)) => ∃ (a8 : PHeap) , PHeap.le bl a8 ∧ St w0 a8 (Res.arr encFact 52 b a1 :: H) w' ∧ Fx f' [(0, b), (3, U ay), (4, ab), (5, U x)]) a9) ?_ ?_
      ·rcases Qk d with ⟨aV, d⟩ | ⟨aV, d⟩
       ·obtain ⟨ch, q, d⟩ := Zg d
        obtain ⟨bH, bx, ai⟩ := i.arr_at (Kn q).2.2
        refine G ?_
        refine QaN S23.h (Qc5 n).1 k ai Z Z Z (Kn q).1 (Kn q).2.1 (G ?_)
        refine Qs (F := encFact) (i) ai A52.h Z Z Z (Kn q).2.2 (Sub.refl _) ?_
        intro bY bi
        obtain rfl := Q9.1 bi
        obtain ⟨ci, z, d⟩ := Zg d
        obtain ⟨bI, bz, aj⟩ := i.arr_at z
        refine G ?_
        refine Qe S23.h Z aj Z (Qf z).1 (Qf z).2.1 ?_
        obtain ⟨bN, bj, d⟩ := Zg d
        refine G ?_
        refine Jd i aj A52.h Z Z Z Z (Q9.2 Z) bj ?_
        intro cc bJ
        cases d
        refine G ?_
        exact V
       cases d
       refine G ?_
       exact V
      intro b7 cd aM
      obtain ⟨ay, a1⟩ := a9
      replace c := Qy c
      obtain ⟨bT, bO, bK, ⟨b8, rfl⟩⟩ := aM
      cases c
      refine G ?_
      exact ⟨_, Z, V⟩
     cases c
     refine G ?_
     exact ⟨_, .inr (ba (by intro _ h; cases h)), V⟩
    rintro b9 ce ⟨bp, ao, aN⟩
    have a := ao.elim (aX _) (aR _)
    clear ao
    obtain ⟨av, aw, az⟩ := bp
    replace a := Js a
    obtain ⟨bm, bP, ak, ⟨bA, rfl⟩⟩ := aN
    obtain ⟨bR, a2, a⟩ := Zg a
    refine G ?_
    refine Qan (ak) S23.h Z Z Z a2 ?_
    intro bZ aG
    refine G ?_
    refine QaO (E := encFact) (y := (⟨0, 0⟩ : Fact)) ak aG (Qc5 a2).2.2.2.2.2 S23.h Z52 ⟨[U 0], [U 0], Z, Z, Z⟩ Z Z ?_
    intro cf al
    obtain ⟨bS, bk, a⟩ := Zg a
    refine G ?_
    refine Qaz (al) S23.h Z Z Z bk ?_
    intro bq aH
    cases a
    have aY := aZ _ (aq (by intro _ h; cases h))
    have b0 := Zu aY
    subst r
    refine G ?_
    refine ⟨_, Qaf Z, ?_⟩
    exact ⟨bm, bq, lq, al, Z, aH⟩
   cases a
   refine G ?_
   exact ⟨_, Z, V⟩
  have b1 := Zu a
  subst aF
  refine G ?_
  refine ⟨_, .inr (aq (by intro _ h; cases h)), ?_⟩; exact ⟨aa, bc, u, (Fx.mk)⟩
 rintro bB cg ⟨ar, ap, aO⟩
 have hm := ap.elim (aW _) (aQ _)
 clear ap
 obtain ⟨bn, bd, am, ⟨bC, rfl⟩⟩ := aO
 have b2 := Zu hm
 subst r
 refine G ?_
 refine ⟨_, Qaf Z, ?_⟩
 exact ⟨bn, b, bd, am, Z, (Or.inl ⟨Z, Z, am.arr_shape⟩)⟩
theorem QcH {w0 w : World} {s : PHeap} {H : List Res} {d : (List Fact)} {b : Value} {r : Bool} (hm : Yf d = some r) (hS : St w0 s (Res.arr encFact 52 b d :: H) w) :
  Calls Tryz.prog 74 #[b] w fun e w' => ∃ v, e = .returned v ∧ ((fun (az : Bool) => ∃ (u : PHeap) , PHeap.le s u ∧ St w0 u (Res.arr encFact 52 b d :: H) w' ∧ v = Value.bool (az)) r) := by
 unfold Yf at hm
 refine Qb Tryz.func74 Z Z (G ?_)
 refine Qv (hS) S23.h Z Z ?_
 obtain ⟨n, aa, ap, an, ah⟩ := Qo hm
 refine g ?_
 refine Qm (M := fun f' w' => ∃ s', (n = .next s' ∨ n = .brk s') ∧ (fun (_ : Unit) => ∃ (x : PHeap) , PHeap.le s x ∧ St w0 x (Res.arr encFact 52 b d :: H) w' ∧ Fx f' [(0, b), (5, b), (6, U ((d.length : Int)))]) s') ?_ ?_
 ·refine G ?_
  refine Q2 (fun k' s' f' w' => (fun (_ : Unit) => ∃ (y : PHeap) , PHeap.le s y ∧ St w0 y (Res.arr encFact 52 b d :: H) w' ∧ Fx f' [(7, U (k' : Int)), (0, b), (5, b), (6, U ((d.length : Int)))]) s') aa ?_ ?_ ?_
  ·exact V
  ·intro au aN a1 a4 aS am ab c aq
   obtain ⟨ax, aH, l, ⟨a5, rfl⟩⟩ := ab
   obtain ⟨aY, i, c⟩ := Zg c
   obtain ⟨aC, a2, o⟩ := l.arr_at i
   refine G ?_
   refine Qe S23.h Z o Z (Qf i).1 (Qf i).2.1 (G ?_)
   refine Qs (F := encFact) (l) o A52.h Z Z Z i (Sub.refl _) ?_
   intro aQ av
   obtain rfl := Q9.1 av
   refine G ?_
   refine Exec.alloc (cs := [U 0, U 0]) l Z52 Z Z ?_
   intro a0 aT aE
   refine G ?_
   refine Yo Z Z Z ?_
   intro aU af
   obtain ⟨m, a, c⟩ := Zg c
   refine g ?_
   refine Zc (Qm (M := fun f' w' => (fun (m : Bool) => ∃ (z : PHeap) , PHeap.le ax z ∧ St w0 z (Res.arr encFact 52 b d :: H) w' ∧ Fx f' [(0, b), (5, b), (6, U ((d.length : Int))), (7, U ((au : Int))), (34, Vb m)]) m) ?_ ?_)
   ·refine KG (n0 := 23) (qs 0 23 .done) Yp (by kernel_rfl) (by kernel_rfl) ?_
    have q := af.drew
    refine G ?_
    rcases Qk a with ⟨ai, a⟩ | ⟨ai, a⟩
    ·cases a
     refine G ?_
     exact V
    refine G ?_
    rcases Qk a with ⟨aj, a⟩ | ⟨aj, a⟩
    ·cases a
     refine G ?_
     exact V
    refine G ?_
    rcases Qk a with ⟨ak, a⟩ | ⟨ak, a⟩
    ·obtain ⟨aZ, j, a⟩ := Zg a
     obtain ⟨aD, a3, p⟩ := (q.f1).arr_at j
     refine G ?_
     refine Qe S23.h Z p Z (Qf j).1 (Qf j).2.1 ⟨Z, ?_⟩
     refine G ?_
     refine Qs (F := (Qc .i64)) (q.f1) p A3.h Z Z Z j (Sub.iso (Sub.fst (Sub.refl _))) ?_
     intro aR aw
     obtain rfl := Qt.1 aw
     refine ⟨Z, ?_⟩
     cases a
     refine G ?_
     exact V
    cases a
    refine G ?_
    exact V
   intro a6 aV ad
   obtain ⟨ay, aI, ag, ⟨a7, rfl⟩⟩ := ad
   refine G ?_
   rcases Qk c with ⟨al, c⟩ | ⟨al, c⟩
   ·cases c
    have ao := ap _ (aq (by intro _ h; cases h))
    cases ao
    refine G ?_
    exact fr
   cases c
   refine G ?_
   refine ⟨_, Z, ?_⟩; exact ⟨ay, lq, ag, (Fx.mk (FxL.cons (Ja am hS.arr_le) fxl))⟩
  intro aO a8 aW ac ar
  obtain ⟨aL, aJ, aF, ⟨a9, rfl⟩⟩ := ac
  refine G ?_
  exact ⟨_, .inl ar, V⟩
 rintro aA aX ⟨aP, t, ae⟩
 have hm := t.elim (an _) (ah _)
 clear t
 obtain ⟨aM, aK, aG, ⟨aB, rfl⟩⟩ := ae
 cases hm
 refine G ?_
 exact fr
theorem Qdm {w0 w : World} {s : PHeap} {H : List Res} {b : (List Fact)} {a : Value} {r : (List Fact) × (Option Int)} (hm : KE b = some r) (hS : St w0 s (Res.arr encFact 52 a b :: H) w) :
  Calls Tryz.prog 122 #[a] w fun e w' => ∃ v, e = .returned v ∧ ((QK fun (a7 : (List Fact)) (a8 : (Option Int)) => ∃ (j : PHeap) (y : Value), PHeap.le s j ∧ St w0 j (Res.arr encFact 52 a b :: H) w' ∧ v = Value.tuple #[y, Yc 39 (a8)] ∧ SliceRep encFact j y a7) r) := by
 unfold KE at hm
 refine Qb Tryz.func122 Z Z (G ?_)
 refine Qv (hS) S23.h Z Z ?_
 obtain ⟨m, z, au, aq, am⟩ := Qo hm
 refine g ?_
 refine Qm (M := fun f' w' => ∃ s', (m = .next s' ∨ m = .brk s') ∧ (fun (_ : Unit) => ∃ (q : PHeap) , PHeap.le s q ∧ St w0 q (Res.arr encFact 52 a b :: H) w' ∧ Fx f' [(0, a), (7, a), (8, U ((b.length : Int)))]) s') ?_ ?_
 ·refine G ?_
  refine Q2 (fun k' s' f' w' => (fun (_ : Unit) => ∃ (t : PHeap) , PHeap.le s t ∧ St w0 t (Res.arr encFact 52 a b :: H) w' ∧ Fx f' [(9, U (k' : Int)), (0, a), (7, a), (8, U ((b.length : Int)))]) s') z ?_ ?_ ?_
  ·exact V
  ·intro ax bh aA aC bo ap aa c av
   obtain ⟨u, aO, i, ⟨aD, rfl⟩⟩ := aa
   obtain ⟨l, d, c⟩ := Zg c
   obtain ⟨aK, aB, n⟩ := i.arr_at d
   refine G ?_
   refine Qe S23.h Z n Z (Qf d).1 (Qf d).2.1 (G ?_)
   refine Qs (F := encFact) (i) n A52.h Z Z Z d (Sub.refl _) ?_
   intro bl ay
   obtain rfl := Q9.1 ay
   refine G ?_
   refine Exec.alloc (cs := [U 0, U 0]) i Z52 Z Z ?_
   intro a9 bp aL
   refine G ?_
   refine Yo Z Z Z ?_
   intro bq ae
   refine g ?_
   refine Zc (Qm (M := fun f' w' => ∃ (x : PHeap) , PHeap.le u x ∧ St w0 x (Res.arr encFact 52 a b :: H) w' ∧ Fx f' [(0, a), (7, a), (8, U ((b.length : Int))), (9, U ((ax : Int))), (20, Vb (((decide (l.Var < 0)) || decide (l.Val < 0))))]) ?_ ?_)
   ·refine G ?_
    rcases tf (decide (l.Var < 0)) with o | o
    ·refine G ?_
     exact V
    refine G ?_
    exact ⟨u, (Zv _), ae.drop, (Fx.mk (FxL.cons Z (FxL.cons Z (FxL.cons Z (FxL.cons Z (FxL.cons (Zx (Qhs o)).symm fxl))))))⟩
   intro aE br ac
   obtain ⟨a5, aP, af, ⟨aF, rfl⟩⟩ := ac
   refine G ?_
   rcases Qk c with ⟨an, c⟩ | ⟨an, c⟩
   ·refine G ?_
    refine Exec.makeInterface C39 Z Z ?_
    cases c
    have ar := au _ (av (by intro _ h; cases h))
    cases ar
    refine G ?_
    refine ⟨_, KA Z, ?_⟩
    exact V
   cases c
   refine G ?_
   refine ⟨_, Z, ?_⟩; exact ⟨a5, lq, af, (Fx.mk (FxL.cons (Ja ap hS.arr_le) fxl))⟩
  intro bi aG bs ab aw
  obtain ⟨ba, aQ, aM, ⟨aH, rfl⟩⟩ := ab
  refine G ?_
  exact ⟨_, .inl aw, V⟩
 rintro aI bt ⟨bj, p, ad⟩
 have hm := p.elim (aq _) (am _)
 clear p
 obtain ⟨bb, aR, ag, ⟨aJ, rfl⟩⟩ := ad
 obtain ⟨bz, az, hm⟩ := Zg hm
 refine G ?_
 refine Tc Z Z Z Z (QeK az ag).r ?_
 rintro bm bu ⟨bc, _, aS, ah, rfl⟩
 obtain ⟨aT, a0, hm⟩ := Zg hm
 refine G ?_
 refine Tc Z Z Z Z (Qgc a0 ah.f1).r ?_
 rintro _ bv ⟨bd, aU, ai, rfl⟩
 obtain ⟨a6, a1, hm⟩ := Zg hm
 obtain ⟨b0, aV⟩ := a6
 replace hm := Qy hm
 refine G ?_
 refine Tc Z Z Z Z (QcN a1 ai).r ?_
 rintro bn bw ⟨be, _, aW, aj, rfl, a4⟩
 obtain ⟨bk, a2, hm⟩ := Zg hm
 have ak := aj.arr_head a4 (by simpa using YI a2)
 obtain ⟨b1, a3, hm⟩ := Zg hm
 refine G ?_
 refine Tc Z Z Z Z (QcH a3 ak).r ?_
 rintro _ bx ⟨bf, aX, al, rfl⟩
 refine G ?_
 rcases Qk hm with ⟨ao, hm⟩ | ⟨ao, hm⟩
 ·refine G ?_
  refine Exec.makeInterface C39 Z Z ?_
  cases hm
  refine G ?_
  refine ⟨_, KA Z, ?_⟩
  exact V
 cases hm
 refine G ?_
 refine ⟨_, KA Z, ?_⟩
 obtain ⟨bg, aY, aN, aZ⟩ := al.freezeArr
 exact V
theorem Qes {w0 w : World} {s : PHeap} {H : List Res} {k : (List Fact)} {b : (List Fact)} {d : Value} {i : Value} {r : (List Fact) × Bool} (hm : Yk k b = some r) (hS : St w0 s (H) w) (n : SliceRep encFact s d k) (al : SliceRep encFact s i b) :
  Calls Tryz.prog 97 #[d, i] w fun e w' => ∃ v, e = .returned v ∧ ((QK fun (aj : (List Fact)) (ak : Bool) => ∃ (c : PHeap) (m : Value), PHeap.le s c ∧ St w0 c (H) w' ∧ v = Value.tuple #[m, Value.bool (ak)] ∧ SliceRep encFact c m aj) r) := by
 unfold Yk at hm
 refine Qb Tryz.func97 Z Z ?_
 obtain ⟨j, a, hm⟩ := Zg hm
 refine Zc (Zd (g ?_))
 refine Zc (Zc (Qm (M := fun f' w' => (fun (j : Bool) => ∃ (l : PHeap) , PHeap.le s l ∧ St w0 l (H) w' ∧ Fx f' [(0, d), (1, i), (15, Vb j)]) j) ?_ ?_))
 ·obtain ⟨a9, aa, a⟩ := Zg a
  refine G ?_
  refine Tc Z Z Z Z (JL aa hS n).r ?_
  rintro _ a3 ⟨ax, ap, p, rfl⟩
  refine G ?_
  rcases Qk a with ⟨y, a⟩ | ⟨y, a⟩
  ·cases a
   refine G ?_
   exact V
  obtain ⟨aA, ab, a⟩ := Zg a
  refine G ?_
  refine Tc Z Z Z Z (JL ab p rq).r ?_
  rintro _ a4 ⟨ay, aq, ao, rfl⟩
  cases a
  refine G ?_
  exact V
 intro am a5 o
 obtain ⟨az, ar, q, ⟨an, rfl⟩⟩ := o
 refine G ?_
 rcases Qk hm with ⟨z, hm⟩ | ⟨z, hm⟩
 ·cases hm
  refine G ?_
  refine ⟨_, KA Z, ?_⟩
  exact V
 obtain ⟨aB, ac, hm⟩ := Zg hm
 refine G ?_
 refine Tc Z Z Z Z (JY ac q rq).r ?_
 rintro a1 a6 ⟨a0, _, au, t, rfl⟩
 obtain ⟨av, ad, hm⟩ := Zg hm
 refine G ?_
 refine Kp (E := encFact) (ys := b) t S23.h Z52 Z (by decide) Z Z Z rq ad ?_
 intro a2 a7 u
 obtain ⟨ah, ae, hm⟩ := Zg hm
 obtain ⟨aC, aD⟩ := ah
 replace hm := Qy hm
 refine G ?_
 refine Tc Z Z Z Z (Qdm ae u).r ?_
 rintro _ a8 ⟨ag, ai, aw, x, rfl, af⟩
 refine G ?_
 refine KG (n0 := 4) (qs 0 4 .done) Yp (by kernel_rfl) (by kernel_rfl) (G ?_)
 refine QP (T := 39) Tryz.underlying35 Z Z Z ⟨Z, ?_⟩
 cases hm
 refine G ?_
 refine ⟨_, KA Z, ?_⟩
 exact ⟨ag, ai, lq, (x.drew).drop, (Qfa Z Z), af⟩
theorem N81 : (Tryz.f81.name == "runtime.NumGoroutine") = false := by kernel_rfl
theorem QbS {w0 w : World} {s : PHeap} {H : List Res} {a : Fact} {b : Fact} {r : Int} (hm : JA a b = some r) (hS : St w0 s (H) w) :
  Calls Tryz.prog 81 #[Value.agg #[U (a.Var), U (a.Val)], Value.agg #[U (b.Var), U (b.Val)]] w fun e w' => ∃ v, e = .returned v ∧ ((fun (o : Int) => ∃ (f : PHeap) , PHeap.le s f ∧ St w0 f (H) w' ∧ v = U o) r) := by
 unfold JA at hm
 refine Qb Tryz.func81 Z Z (G ?_)
 refine Yz Z Z ?_
 intro p ag u
 refine G ?_
 refine Yz Z Z ?_
 intro q ah d
 refine G ?_
 refine KG (n0 := 12) (qs 0 4 (qs 5 4 (.e 4 [5, 6, 7, 8] (.e 9 [] (.e 10 [] (.e 11 [] .done)))))) Yp (by kernel_rfl) (by kernel_rfl) (G ?_)
 refine Zn ((d.drew).f1) A3.h Z Z Z ⟨Z, ?_⟩
 refine G ?_
 refine Zn (d.drew) A3.h Z Z Z ⟨Z, ?_⟩
 refine G ?_
 refine Zn ((d.drew).f1) A3.h Z Z Z ⟨Z, ?_⟩
 refine G ?_
 refine Zn (d.drew) A3.h Z Z Z ⟨Z, ?_⟩
 refine G ?_
 refine Tc Z Z Z Z (K2 (K1 a.Var b.Var) d.drew).r ?_
 rintro _ ai ⟨ac, y, g, rfl⟩
 refine ⟨agq, ?_⟩
 refine G ?_
 refine Tc Z Z Z Z (K2 (K1 a.Val b.Val) g).r ?_
 rintro _ aj ⟨ad, z, i, rfl⟩
 refine ⟨agq, ?_⟩
 refine G ?_
 refine Exec.buildSlice (Te := 3) (cs := [U ((Qn a.Var b.Var)), U ((Qn a.Val b.Val))]) i Z (Qd (c := [U ((Qn a.Var b.Var))]) (Qi Z Z) (Qd (c := [U ((Qn a.Val b.Val))]) (Qi Z Z) Qg)) (fun _ => by kernel_rfl) ?_
 intro t ak j
 refine ⟨agq, ?_⟩
 have k := St.boxArr (E := (Qc .i64)) (xs := [(Qn a.Var b.Var), (Qn a.Val b.Val)]) j ⟨[U ((Qn a.Var b.Var))], [U ((Qn a.Val b.Val))], rfl, rfl, ⟨[U ((Qn a.Val b.Val))], [], rfl, rfl, rfl⟩⟩ (by simp [maxLen])
 obtain ⟨ae, aa, l, n⟩ := k.freezeArr
 obtain ⟨am, m, hm⟩ := Zg hm
 refine G ?_
 refine Tc Z Z Z Z (Qcb m l n).r ?_
 rintro _ al ⟨af, ab, x, rfl⟩
 refine ⟨agq, ?_⟩
 cases hm
 refine G ?_
 exact fr
theorem QdV {w0 w : World} {s : PHeap} {H : List Res} {c : (List Fact)} {p : (List Fact)} {b : Value} {d : Value} {r : Int} (hm : KW c p = some r) (hS : St w0 s (H) w) (au : SliceRep encFact s b c) (av : SliceRep encFact s d p) :
  Calls Tryz.prog 80 #[b, d, Value.func (.func 81) #[] #[]] w fun e w' => ∃ v, e = .returned v ∧ ((fun (ar : Int) => ∃ (q : PHeap) , PHeap.le s q ∧ St w0 q (H) w' ∧ v = U ar) r) := by
 unfold KW at hm
 refine Qb Tryz.func80 Z Z ?_
 obtain ⟨i, z, n, ai, ae⟩ := Qo hm
 refine Zc (Zd (g ?_))
 refine Zc (Zc (Zd (g ?_)))
 refine Qm (M := fun f' w' => ∃ s', (i = .next s' ∨ i = .brk s') ∧ (fun (_ : Unit) => ∃ (t : PHeap) , PHeap.le s t ∧ St w0 t (H) w' ∧ Fx f' [(0, b), (1, d), (2, Value.func (.func 81) #[] #[]), (11, b), (12, U ((c.length : Int)))]) s') ?_ ?_
 ·refine G ?_
  refine Q2 (fun k' s' f' w' => (fun (_ : Unit) => ∃ (u : PHeap) , PHeap.le s u ∧ St w0 u (H) w' ∧ Fx f' [(13, U (k' : Int)), (0, b), (1, d), (2, Value.func (.func 81) #[] #[]), (11, b), (12, U ((c.length : Int)))]) s') z ?_ ?_ ?_
  ·exact V
  ·intro aD aO a0 a1 aT aC aa a o
   obtain ⟨aK, aE, j, ⟨a2, rfl⟩⟩ := aa
   obtain ⟨bb, am, a⟩ := Zg a
   refine G ?_
   refine Jk Z Z Z am ?_
   intro aw aI x
   refine G ?_
   refine Zw (E := encFact) j A52.h Z Z Z x ?_
   intro aR an
   obtain rfl := Q9.1 an
   refine G ?_
   refine Exec.alloc (cs := [U 0, U 0]) j Z52 Z Z ?_
   intro ax aU a7
   refine G ?_
   refine Yo Z Z Z ?_
   intro aV l
   refine G ?_
   rcases Qk a with ⟨af, a⟩ | ⟨af, a⟩
   ·cases a
    have aj := n _ (o (by intro _ h; cases h))
    cases aj
    refine G ?_
    exact fr
   obtain ⟨bc, ao, a⟩ := Zg a
   refine G ?_
   refine Jk Z Z Z ao ?_
   intro ay aJ y
   refine G ?_
   refine Zw (E := encFact) l A52.h Z Z Z y ?_
   intro aS ap
   obtain rfl := Q9.1 ap
   refine G ?_
   refine Exec.alloc (cs := [U 0, U 0]) l Z52 Z Z ?_
   intro az aW a8
   refine G ?_
   refine Yo Z Z Z ?_
   intro aX ad
   obtain ⟨bd, aq, a⟩ := Zg a
   refine G ?_
   refine QbM Z Z Tryz.func81 Z N81 (Zi Z (Zi Z Qw)) ((QbS aq ad).mono ?_)
   rintro _ aY ⟨_, rfl, ⟨aL, aF, a9, rfl⟩⟩
   refine ⟨_, Z, ?_⟩
   refine G ?_
   rcases Qk a with ⟨ag, a⟩ | ⟨ag, a⟩
   ·cases a
    have ak := n _ (o (by intro _ h; cases h))
    cases ak
    refine G ?_
    exact fr
   cases a
   refine G ?_
   exact ⟨_, Z, V⟩
  intro aP a3 aZ ab al
  obtain ⟨aM, aG, aA, ⟨a4, rfl⟩⟩ := ab
  refine G ?_
  exact ⟨_, .inl al, V⟩
 rintro a5 ba ⟨aQ, m, ac⟩
 have hm := m.elim (ai _) (ae _)
 clear m
 obtain ⟨aN, aH, aB, ⟨a6, rfl⟩⟩ := ac
 refine G ?_
 rcases Qk hm with ⟨ah, hm⟩ | ⟨ah, hm⟩
 ·cases hm
  refine G ?_
  exact fr
 cases hm
 refine G ?_
 exact fr
theorem N55 : (Tryz.f55.name == "runtime.NumGoroutine") = false := by kernel_rfl
theorem K7 {w0 w : World} {s : PHeap} {H : List Res} {a : (List Fact)} {b : (List Fact)} {d : Value} {f : Value} {r : Int} (hm : Jv a b = some r) (hS : St w0 s (H) w) (g : SliceRep encFact s d a) (h : SliceRep encFact s f b) :
  Calls Tryz.prog 55 #[d, f] w fun e w' => ∃ v, e = .returned v ∧ ((fun (j : Int) => ∃ (c : PHeap) , PHeap.le s c ∧ St w0 c (H) w' ∧ v = U j) r) := by
 unfold Jv at hm
 refine Qb Tryz.func55 Z Z ?_
 obtain ⟨o, i, hm⟩ := Zg hm
 refine G ?_
 refine Tc Z Z Z Z (QdV i hS g h).r ?_
 rintro _ n ⟨m, l, k, rfl⟩
 cases hm
 refine G ?_
 exact fr
end Go.Pw
