/- -/
import Derived.Test.YtjbjflndiajoiaaGreatDoorLC
import Derived.Test.YtjbjflndiajoiaaGreatDoorLD
import Derived.Test.YtjbjflndiajoiaaGreatDoorWa6
import Derived.Test.YtjbjflndiajoiaaGreatDoorWaX
set_option maxRecDepth 100000
set_option maxHeartbeats 4000000
set_option linter.unusedVariables false
namespace Go.Pw
open Go.Proofs
attribute [local irreducible] Exec WL W andThen Qax DL QX
theorem Qpt : Qd0 Tryz.prog 100 3 = true := by kernel_rfl
theorem QgN {w0 w : World} {s : PHeap} {H : List Res} {t : (List Edge)} {b : Value} {r : Nat × (List Edge)} (hm : QbQ t = some r) (hS : St w0 s (Res.arr encEdge 100 b t :: H) w) :
  Calls Tryz.prog 150 #[b] w fun e w' => ∃ v, e = .returned v ∧ ((QI fun (br : Nat) (bb : (List Edge)) => ∃ (a7 : PHeap) (aE : Value), PHeap.le s a7 ∧ St w0 a7 (Res.arr encEdge 100 b bb :: H) w' ∧ v = aE ∧ SubOf 3 b aE 0 br) r) := by
 unfold QbQ at hm
 refine Qd Tryz.func150 Z Z (G ?_)
 refine Q0 (hS) S55.h Z Z (G ?_)
 rcases Qs hm with ⟨ar, hm⟩ | ⟨ar, hm⟩
 ·cases hm
  refine G ?_
  refine ⟨_, KR Z, ?_⟩
  exact ⟨s, b, (Zv _), hS, Z, (Or.inl ⟨Z, Z, hS.arr_shape⟩)⟩
 obtain ⟨ag, aI, aZ, aW, aQ⟩ := Qr hm
 refine W_c Z ar (Qa4 (Jt (Ze (Zc (Zc (Zd (g ?_)))))))
 refine Qp (M := fun f' w' => ∃ s', (ag = .next s' ∨ ag = .brk s') ∧ (fun (ax : Int) => ∃ (a8 : PHeap) , PHeap.le s a8 ∧ St w0 a8 (Res.arr encEdge 100 b t :: H) w' ∧ Fx f' [(0, b), (3, O ax)]) s') ?_ ?_
 ·refine G ?_
  refine KA (fun s' f' w' => (fun (ay : Int) => ∃ (a9 : PHeap) , PHeap.le s a9 ∧ St w0 a9 (Res.arr encEdge 100 b t :: H) w' ∧ Fx f' [(0, b), (3, O ay)]) s') aI ?_ ?_
  ·exact fq
  intro ay aF b3 ca aK a aw
  obtain ⟨aa, bc, u, ⟨b4, rfl⟩⟩ := aK
  refine G ?_
  refine Q0 (u) S55.h Z Z (G ?_)
  rcases Qs a with ⟨aS, a⟩ | ⟨aS, a⟩
  ·refine G ?_
   refine JE (n0 := 10) (qs 0 10 .done) JM (by kernel_rfl) (by kernel_rfl) ?_
   have j := u.drew
   obtain ⟨ac, l, a⟩ := V a
   obtain ⟨bD, bs, ai⟩ := j.arr_at l
   refine G ?_
   refine Qa S55.h Z ai Z (Qb l).1 (Qb l).2.1 ⟨Z, ?_⟩
   refine G ?_
   refine Qf (F := encEdge) (j) ai A100.h Z Z Z l (Sub.refl _) ?_
   intro bU be
   obtain rfl := Jz.1 be
   refine ⟨Z, ?_⟩
   obtain ⟨ad, m, a⟩ := V a
   obtain ⟨bE, bt, aj⟩ := j.arr_at m
   refine G ?_
   refine Qa S55.h Z aj Z (Qb m).1 (Qb m).2.1 ⟨Z, ?_⟩
   refine G ?_
   refine Qf (F := encEdge) (j) aj A100.h Z Z Z m (Sub.refl _) ?_
   intro bV bf
   obtain rfl := Jz.1 bf
   refine ⟨Z, ?_⟩
   refine G ?_
   refine QiD (xs := [ac.From, ac.Label, ac.To]) (ys := [ad.From, ad.Label, ad.To]) Qpt Z Z Z Z Z Z Z ⟨Z, ?_⟩
   refine G ?_
   rcases Qs a with ⟨aT, a⟩ | ⟨aT, a⟩
   ·obtain ⟨bQ, n, a⟩ := V a
    refine G ?_
    refine Yn (j) S55.h Z Z Z n ?_
    intro ab k
    obtain ⟨ah, aJ, bL, aX, aR⟩ := Qr a
    refine g ?_
    refine Zc (Zc (Zd (g ?_)))
    refine Qp (M := fun f' w' => ∃ s', (ah = .next s' ∨ ah = .brk s') ∧ (un3 fun (az : Int) (a0 : Int) (a3 : (List Edge)) => ∃ (aA : PHeap) , PHeap.le aa aA ∧ St w0 aA (Res.arr encEdge 100 b a3 :: H) w' ∧ Fx f' [(0, b), (3, O az), (4, ab), (5, O a0)]) s') ?_ ?_
    ·refine G ?_
     refine KA (fun s' f' w' => (un3 fun (a1 : Int) (x : Int) (a4 : (List Edge)) => ∃ (aB : PHeap) , PHeap.le aa aB ∧ St w0 aB (Res.arr encEdge 100 b a4 :: H) w' ∧ Fx f' [(0, b), (3, O a1), (4, ab), (5, O x)]) s') aJ ?_ ?_
     ·exact fq
     intro bo bu b5 cb aL c ba
     obtain ⟨a1, x, a4⟩ := bo
     replace c := QaM c
     obtain ⟨bl, bM, aP, ⟨b6, rfl⟩⟩ := aL
     refine G ?_
     refine Qbr S55.h k Z Z (G ?_)
     rcases Qs c with ⟨aU, c⟩ | ⟨aU, c⟩
     ·refine G ?_
      refine JE (n0 := 10) (qs 0 10 .done) JM (by kernel_rfl) (by kernel_rfl) ?_
      have i := aP.drew
      obtain ⟨ae, o, c⟩ := V c
      obtain ⟨bF, bv, ak⟩ := i.arr_at (QB o).2.2
      refine G ?_
      refine JQ S55.h (KV n).1 k ak Z Z Z (QB o).1 (QB o).2.1 ⟨Z, ?_⟩
      refine G ?_
      refine Qf (F := encEdge) (i) ak A100.h Z Z Z (QB o).2.2 (Sub.refl _) ?_
      intro bW bg
      obtain rfl := Jz.1 bg
      refine ⟨Z, ?_⟩
      obtain ⟨af, p, c⟩ := V c
      obtain ⟨bG, bw, al⟩ := i.arr_at (QB p).2.2
      refine G ?_
      refine JQ S55.h (KV n).1 k al Z Z Z (QB p).1 (QB p).2.1 ⟨Z, ?_⟩
      refine G ?_
      refine Qf (F := encEdge) (i) al A100.h Z Z Z (QB p).2.2 (Sub.refl _) ?_
      intro bX bh
      obtain rfl := Jz.1 bh
      refine ⟨Z, ?_⟩
      refine G ?_
      refine QiC (xs := [ae.From, ae.Label, ae.To]) (ys := [af.From, af.Label, af.To]) Qpt Z Z Z Z Z Z Z ⟨Z, ?_⟩
      obtain ⟨aD, d, c⟩ := V c
      refine g ?_
      refine Qp (M := fun f' w' => (QI fun (a2 : Int) (a5 : (List Edge)) => ∃ (aC : PHeap) , PHeap.le bl aC ∧ St w0 aC (Res.arr encEdge 100 b a5 :: H) w' ∧ Fx f' [(0, b), (3, O a2), (4, ab), (5, O x)]) aD) ?_ ?_
      ·rcases Qs d with ⟨aV, d⟩ | ⟨aV, d⟩
       ·obtain ⟨ch, q, d⟩ := V d
        obtain ⟨bH, bx, am⟩ := i.arr_at (QB q).2.2
        refine G ?_
        refine JQ S55.h (KV n).1 k am Z Z Z (QB q).1 (QB q).2.1 (G ?_)
        refine Qf (F := encEdge) (i) am A100.h Z Z Z (QB q).2.2 (Sub.refl _) ?_
        intro bY bi
        obtain rfl := Jz.1 bi
        obtain ⟨ci, z, d⟩ := V d
        obtain ⟨bI, bz, an⟩ := i.arr_at z
        refine G ?_
        refine Qa S55.h Z an Z (Qb z).1 (Qb z).2.1 ?_
        obtain ⟨bN, bj, d⟩ := V d
        refine G ?_
        refine Qx i an A100.h Z Z Z Z (Jz.2 Z) bj ?_
        intro cc bJ
        cases d
        refine G ?_
        exact fq
       cases d
       refine G ?_
       exact fq
      intro b7 cd aM
      obtain ⟨a2, a5⟩ := aD
      replace c := Q7 c
      obtain ⟨bT, bO, bK, ⟨b8, rfl⟩⟩ := aM
      cases c
      refine G ?_
      exact ⟨_, Z, fq⟩
     cases c
     refine G ?_
     exact ⟨_, .inr (ba (by intro _ h; cases h)), fq⟩
    rintro b9 ce ⟨bp, au, aN⟩
    have a := au.elim (aX _) (aR _)
    clear au
    obtain ⟨az, a0, a3⟩ := bp
    replace a := QaM a
    obtain ⟨bm, bP, ao, ⟨bA, rfl⟩⟩ := aN
    obtain ⟨bR, a6, a⟩ := V a
    refine G ?_
    refine Yn (ao) S55.h Z Z Z a6 ?_
    intro bZ aG
    refine G ?_
    refine Qbz (E := encEdge) (y := (⟨0, 0, 0⟩ : Edge)) ao aG (KV a6).2.2.2.2.2 S55.h QeW ⟨[O 0], [O 0, O 0], Z, Z, ⟨[O 0], [O 0], Z, Z, Z⟩⟩ Z Z ?_
    intro cf ap
    obtain ⟨bS, bk, a⟩ := V a
    refine G ?_
    refine QaY (ap) S55.h Z Z Z bk ?_
    intro bq aH
    cases a
    have aY := aZ _ (aw (by intro _ h; cases h))
    have b0 := Zu aY
    subst r
    refine G ?_
    refine ⟨_, KR Z, ?_⟩
    exact ⟨bm, bq, lq, ap, Z, aH⟩
   cases a
   refine G ?_
   exact ⟨_, Z, fq⟩
  have b1 := Zu a
  subst aF
  refine G ?_
  refine ⟨_, .inr (aw (by intro _ h; cases h)), ?_⟩; exact ⟨aa, bc, u, (Fx.mk)⟩
 rintro bB cg ⟨ax, av, aO⟩
 have hm := av.elim (aW _) (aQ _)
 clear av
 obtain ⟨bn, bd, aq, ⟨bC, rfl⟩⟩ := aO
 have b2 := Zu hm
 subst r
 refine G ?_
 refine ⟨_, KR Z, ?_⟩
 exact ⟨bn, b, bd, aq, Z, (Or.inl ⟨Z, Z, aq.arr_shape⟩)⟩
theorem Qfk {w0 w : World} {s : PHeap} {H : List Res} {a : (List Edge)} {c : Value} {r : (List Edge)} (hm : Yx a = some r) (hS : St w0 s (Res.arr encEdge 100 c a :: H) w) :
  Calls Tryz.prog 121 #[c] w fun e w' => ∃ v, e = .returned v ∧ ((fun (h : (List Edge)) => ∃ (b : PHeap) (d : Value), PHeap.le s b ∧ St w0 b (Res.arr encEdge 100 d h :: H) w' ∧ v = d) r) := by
 unfold Yx at hm
 refine Qd Tryz.func121 Z Z ?_
 obtain ⟨o, i, hm⟩ := V hm
 refine G ?_
 refine Tc Z Z Z Z (Qiw i hS).r ?_
 rintro _ aa ⟨u, p, f, rfl⟩
 obtain ⟨m, j, hm⟩ := V hm
 obtain ⟨ac, q⟩ := m
 replace hm := Q7 hm
 refine G ?_
 refine Tc Z Z Z Z (QgN j f).r ?_
 rintro z ab ⟨x, _, t, g, rfl, l⟩
 obtain ⟨y, k, hm⟩ := V hm
 have n := g.arr_head l (by simpa using Ql k)
 cases hm
 refine G ?_
 exact fr
theorem Qea {w0 w : World} {s : PHeap} {H : List Res} {l : System} {aa : (List Int)} {ai : Value} {ag : Value} {ac : Value} {i : Value} {r : (Option Int) × System} (hm : K9 l aa = some r) (hS : St w0 s (Res.arr (U .i64) 3 i aa :: H) w) (cf : SliceRep (U .i64) s ai l.Costs) (cg : SliceRep encEdge s ag l.Edges) (ch : SliceRep encBool s ac l.Goals) :
  Calls Tryz.prog 84 #[Value.agg #[O (l.States), O (l.Init), ai, ag, ac], i] w fun e w' => ∃ v, e = .returned v ∧ ((QI fun (ce : (Option Int)) (ax : System) => ∃ (aw : PHeap) (bc : Value) (bd : Value) (be : Value), PHeap.le s aw ∧ St w0 aw (Res.arr (U .i64) 3 i aa :: H) w' ∧ v = Value.tuple #[Value.agg #[O (ax.States), O (ax.Init), bc, bd, be], K4 52 (ce)] ∧ SliceRep (U .i64) aw bc ax.Costs ∧ SliceRep encEdge aw bd ax.Edges ∧ SliceRep encBool aw be ax.Goals) r) := by
 unfold K9 at hm
 refine Qd Tryz.func84 Z Z (G ?_)
 refine Kq Z Z ?_
 intro z dR bx
 refine G ?_
 refine Exec.alloc (cs := [O 0, O 0, Vn, Vn, Vn]) bx Z58 Z Z ?_
 intro p dS bz
 obtain ⟨cd, bH, hm⟩ := V hm
 obtain ⟨b, eD⟩ := cd
 replace hm := Q7 hm
 refine G ?_
 refine Tc Z Z Z Z (Qez bH bz.f2).r ?_
 rintro _ dT ⟨bX, dd, b0, rfl⟩
 obtain ⟨aK, af, hm⟩ := V hm
 refine g ?_
 refine Zc (Zc (Qp (M := fun f' w' => (fun (aK : Bool) => ∃ (aX : PHeap) , PHeap.le bX aX ∧ St w0 aX (Res.arr (U .i64) 3 i aa :: Res.box z 58 [O (l.States), O (l.Init), ai, ag, ac] :: Res.box p 58 [O 0, O 0, Vn, Vn, Vn] :: H) w' ∧ Fx f' [(1, i), (2, Vq z), (4, Vq p), (6, O b), (26, Vb aK)]) aK) ?_ ?_))
 ·obtain ⟨eE, bI, af⟩ := V af
  refine G ?_
  refine Tc Z Z Z Z (Yb bI b0 rq rq rq).r ?_
  rintro _ dU ⟨d5, de, cM, rfl⟩
  refine G ?_
  rcases Qs af with ⟨bB, af⟩ | ⟨bB, af⟩
  ·cases af
   refine G ?_
   exact fq
  cases af
  refine G ?_
  exact fq
 intro c0 dV bu
 obtain ⟨bY, df, b1, ⟨c1, rfl⟩⟩ := bu
 refine G ?_
 rcases Qs hm with ⟨aW, hm⟩ | ⟨aW, hm⟩
 ·refine G ?_
  refine Exec.build Z Qi (v := Value.agg #[O 0, O 0, Vn, Vn, Vn]) (fun _ => by kernel_rfl) (G ?_)
  refine Exec.makeInterface C52 Z Z (G ?_)
  refine KJ Z Z Z ?_
  intro dW b2
  cases hm
  refine G ?_
  refine ⟨_, QaS Z ⟨_, _, Z, Kb (b2) A58.h⟩ Z, ?_⟩
  exact fq
 obtain ⟨j, a, hm⟩ := V hm
 obtain ⟨aD, au, hm⟩ := V hm
 obtain ⟨bF, av, hm⟩ := V hm
 refine W_c Z aW (Qa4 (Jt (Ze (Zc (Qp (M := fun f' w' => ∃ (aY : PHeap) (x : Nat) (n : Value) (o : Value), PHeap.le bY aY ∧ St w0 aY (Res.arr (U .i64) 3 i aa :: Res.box z 58 [O (l.States), O (l.Init), ai, ag, ac] :: Res.box p 58 [O 0, O 0, Vn, Vn, Vn] :: Res.box x 58 [O b, O j, n, Vn, o] :: Res.arr (U .i64) 3 n aD :: Res.arr encBool 4 o bF :: H) w' ∧ Fx f' [(1, i), (2, Vq z), (4, Vq p), (8, Vq x)]) ?_ ?_)))))
 ·refine JE (n0 := 13) (qs 0 8 (.q 9 (.alt (.e 8 [0, 1, 2, 3, 4, 5, 9] (.alt (.e 10 [0, 1, 2, 3, 4, 5] (.q 11 (.e 12 [0, 1, 2, 3, 4, 5, 11] .done))) (.e 12 [0, 1, 2, 3, 4, 5, 9] (.e 10 [0, 1, 2, 3, 4, 5] (.q 11 .done))))) (.alt (.e 10 [0, 1, 2, 3, 4, 5, 6, 7] (.alt (.e 8 [0, 1, 2, 3, 4, 5] (.q 11 (.e 12 [0, 1, 2, 3, 4, 5, 11] .done))) (.e 12 [0, 1, 2, 3, 4, 5, 6, 7] (.e 8 [0, 1, 2, 3, 4, 5] (.q 11 .done))))) (.e 12 [0, 1, 2, 3, 4, 5, 6, 7, 9] (.alt (.e 8 [0, 1, 2, 3, 4, 5, 9] (.e 10 [0, 1, 2, 3, 4, 5] (.q 11 .done))) (.e 10 [0, 1, 2, 3, 4, 5, 6, 7] (.e 8 [0, 1, 2, 3, 4, 5] (.q 11 .done))))))))) JM (by kernel_rfl) (by kernel_rfl) ?_
  have al := b1.drew
  obtain ⟨cE, cr, d⟩ := al.arr_at a
  refine G ?_
  refine Qa S22.h Z d Z (Qb a).1 (Qb a).2.1 ⟨Z, ?_⟩
  refine G ?_
  refine Qf (F := (U .i64)) (al) d A3.h Z Z Z a (Sub.refl _) ?_
  intro dJ bJ
  obtain rfl := Qg.1 bJ
  refine ⟨Z, ?_⟩
  refine G ?_
  refine Qgf ?_ ?_
  ·refine G ?_
   refine Tc Z Z Z Z (Q8 au al rq).r ?_
   rintro aj dX ⟨d6, _, dg, ay, rfl⟩
   refine ⟨(Qh (Q1 Z Z (Zm (v := O b) Z Z ⟨Z, Z⟩)) (Qh (Q1 Z Z (Zm (v := i) Z Z ⟨Z, Z⟩)) (Qh (Q1 Z Z (Zp F58_1.h Z Z Z ⟨Z, Z⟩)) (Qh (Q1 Z Z (Zn (ay.f2) A3.h Z Z Z ⟨Z, Z⟩)) (Qh (Q1 Z Z (Qa S22.h Z d Z (Qb a).1 (Qb a).2.1 ⟨Z, Z⟩)) (Qh (Q1 Z Z (Qf (F := (U .i64)) (ay.f1) d A3.h Z Z Z a (Sub.refl _) (fun _ q => ⟨Z, Qg.1 q⟩))) (Qh (Q1 Z Z (Zm (v := O b) Z Z ⟨Z, Z⟩)) J5))))))), ?_⟩
   refine Qgf ?_ ?_
   ·refine G ?_
    refine JJ (E := encBool) ay S56.h Z4 Z Z Z Z av ?_
    intro aA dY am
    refine ⟨(Qh (Q1 Z Z (Zm (v := O b) Z Z ⟨Z, Z⟩)) (Qh (Q1 Z Z (Zm (v := i) Z Z ⟨Z, Z⟩)) (Qh (Q1 Z Z (Zp F58_1.h Z Z Z ⟨Z, Z⟩)) (Qh (Q1 Z Z (Zn (am.f3) A3.h Z Z Z ⟨Z, Z⟩)) (Qh (Q1 Z Z (Qa S22.h Z d Z (Qb a).1 (Qb a).2.1 ⟨Z, Z⟩)) (Qh (Q1 Z Z (Qf (F := (U .i64)) (am.f2) d A3.h Z Z Z a (Sub.refl _) (fun _ q => ⟨Z, Qg.1 q⟩))) J5)))))), ?_⟩
    refine G ?_
    refine Exec.build Z (Qc (c := [O b]) (Qe Z Z) (Qc (c := [O j]) (Qe Z Z) (Qc (c := [aj]) (Qe Z (Qz (am.f1).arr_one)) (Qc (c := [aA]) (Qe Z (Qz am.arr_one)) Qi)))) (v := Value.agg #[O b, O j, aj, Vn, aA]) (fun _ => by kernel_rfl) ⟨Z, ?_⟩
    refine G ?_
    refine Exec.alloc (cs := [O 0, O 0, Vn, Vn, Vn]) am Z58 Z Z ?_
    intro ci dZ az
    refine ⟨(Qh (Q1 Z Z (Zm (v := O b) Z Z ⟨Z, Z⟩)) (Qh (Q1 Z Z (Zm (v := i) Z Z ⟨Z, Z⟩)) (Qh (Q1 Z Z (Zp F58_1.h Z Z Z ⟨Z, Z⟩)) (Qh (Q1 Z Z (Zn (az.f4) A3.h Z Z Z ⟨Z, Z⟩)) (Qh (Q1 Z Z (Qa S22.h Z d Z (Qb a).1 (Qb a).2.1 ⟨Z, Z⟩)) (Qh (Q1 Z Z (Qf (F := (U .i64)) (az.f3) d A3.h Z Z Z a (Sub.refl _) (fun _ q => ⟨Z, Qg.1 q⟩))) (Qh (Q1 Z Z (Exec.build Z (Qc (c := [O b]) (Qe Z Z) (Qc (c := [O j]) (Qe Z Z) (Qc (c := [aj]) (Qe Z (Qz (az.f2).arr_one)) (Qc (c := [aA]) (Qe Z (Qz (az.f1).arr_one)) Qi)))) (v := Value.agg #[O b, O j, aj, Vn, aA]) (fun _ => by kernel_rfl) ⟨Z, Z⟩)) J5))))))), ?_⟩
    refine G ?_
    refine KJ Z Z Z ?_
    intro ea cN
    refine G ?_
    exact fq
   refine G ?_
   refine Exec.alloc (cs := [O 0, O 0, Vn, Vn, Vn]) ay Z58 Z Z ?_
   intro cj eb aE
   refine ⟨(Qh (Q1 Z Z (Zm (v := O b) Z Z ⟨Z, Z⟩)) (Qh (Q1 Z Z (Zm (v := i) Z Z ⟨Z, Z⟩)) (Qh (Q1 Z Z (Zp F58_1.h Z Z Z ⟨Z, Z⟩)) (Qh (Q1 Z Z (Zn (aE.f3) A3.h Z Z Z ⟨Z, Z⟩)) (Qh (Q1 Z Z (Qa S22.h Z d Z (Qb a).1 (Qb a).2.1 ⟨Z, Z⟩)) (Qh (Q1 Z Z (Qf (F := (U .i64)) (aE.f2) d A3.h Z Z Z a (Sub.refl _) (fun _ q => ⟨Z, Qg.1 q⟩))) (Qh (Q1 Z Z (Zm (v := O b) Z Z ⟨Z, Z⟩)) J5))))))), ?_⟩
   refine G ?_
   refine JJ (E := encBool) aE S56.h Z4 Z Z Z Z av ?_
   intro bf ec a0
   refine ⟨(Qh (Q1 Z Z (Zm (v := O b) Z Z ⟨Z, Z⟩)) (Qh (Q1 Z Z (Zm (v := i) Z Z ⟨Z, Z⟩)) (Qh (Q1 Z Z (Zp F58_1.h Z Z Z ⟨Z, Z⟩)) (Qh (Q1 Z Z (Zn (a0.f4) A3.h Z Z Z ⟨Z, Z⟩)) (Qh (Q1 Z Z (Qa S22.h Z d Z (Qb a).1 (Qb a).2.1 ⟨Z, Z⟩)) (Qh (Q1 Z Z (Qf (F := (U .i64)) (a0.f3) d A3.h Z Z Z a (Sub.refl _) (fun _ q => ⟨Z, Qg.1 q⟩))) J5)))))), ?_⟩
   refine G ?_
   refine Exec.build Z (Qc (c := [O b]) (Qe Z Z) (Qc (c := [O j]) (Qe Z Z) (Qc (c := [aj]) (Qe Z (Qz (a0.f2).arr_one)) (Qc (c := [bf]) (Qe Z (Qz a0.arr_one)) Qi)))) (v := Value.agg #[O b, O j, aj, Vn, bf]) (fun _ => by kernel_rfl) ⟨Z, ?_⟩
   refine G ?_
   refine KJ Z Z Z ?_
   intro ed cO
   refine G ?_
   exact fq
  refine Qgf ?_ ?_
  ·refine G ?_
   refine JJ (E := encBool) al S56.h Z4 Z Z Z Z av ?_
   intro ak ee an
   refine ⟨(Qh (Q1 Z Z (Zm (v := O b) Z Z ⟨Z, Z⟩)) (Qh (Q1 Z Z (Zm (v := i) Z Z ⟨Z, Z⟩)) (Qh (Q1 Z Z (Zp F58_1.h Z Z Z ⟨Z, Z⟩)) (Qh (Q1 Z Z (Zn (an.f2) A3.h Z Z Z ⟨Z, Z⟩)) (Qh (Q1 Z Z (Qa S22.h Z d Z (Qb a).1 (Qb a).2.1 ⟨Z, Z⟩)) (Qh (Q1 Z Z (Qf (F := (U .i64)) (an.f1) d A3.h Z Z Z a (Sub.refl _) (fun _ q => ⟨Z, Qg.1 q⟩))) (Qh (Q1 Z Z (Zp F58_2.h Z Z Z ⟨Z, Z⟩)) (Qh (Q1 Z Z (Zn (an.f2) A22.h Z Z Z ⟨Z, Z⟩)) J5)))))))), ?_⟩
   refine Qgf ?_ ?_
   ·refine G ?_
    refine Tc Z Z Z Z (Q8 au an rq).r ?_
    rintro aB ef ⟨d7, _, dh, ao, rfl⟩
    refine ⟨(Qh (Q1 Z Z (Zm (v := O b) Z Z ⟨Z, Z⟩)) (Qh (Q1 Z Z (Zm (v := i) Z Z ⟨Z, Z⟩)) (Qh (Q1 Z Z (Zp F58_1.h Z Z Z ⟨Z, Z⟩)) (Qh (Q1 Z Z (Zn (ao.f3) A3.h Z Z Z ⟨Z, Z⟩)) (Qh (Q1 Z Z (Qa S22.h Z d Z (Qb a).1 (Qb a).2.1 ⟨Z, Z⟩)) (Qh (Q1 Z Z (Qf (F := (U .i64)) (ao.f2) d A3.h Z Z Z a (Sub.refl _) (fun _ q => ⟨Z, Qg.1 q⟩))) J5)))))), ?_⟩
    refine G ?_
    refine Exec.build Z (Qc (c := [O b]) (Qe Z Z) (Qc (c := [O j]) (Qe Z Z) (Qc (c := [aB]) (Qe Z (Qz ao.arr_one)) (Qc (c := [ak]) (Qe Z (Qz (ao.f1).arr_one)) Qi)))) (v := Value.agg #[O b, O j, aB, Vn, ak]) (fun _ => by kernel_rfl) ⟨Z, ?_⟩
    refine G ?_
    refine Exec.alloc (cs := [O 0, O 0, Vn, Vn, Vn]) ao Z58 Z Z ?_
    intro ck eg a1
    refine ⟨(Qh (Q1 Z Z (Zm (v := O b) Z Z ⟨Z, Z⟩)) (Qh (Q1 Z Z (Zm (v := i) Z Z ⟨Z, Z⟩)) (Qh (Q1 Z Z (Zp F58_1.h Z Z Z ⟨Z, Z⟩)) (Qh (Q1 Z Z (Zn (a1.f4) A3.h Z Z Z ⟨Z, Z⟩)) (Qh (Q1 Z Z (Qa S22.h Z d Z (Qb a).1 (Qb a).2.1 ⟨Z, Z⟩)) (Qh (Q1 Z Z (Qf (F := (U .i64)) (a1.f3) d A3.h Z Z Z a (Sub.refl _) (fun _ q => ⟨Z, Qg.1 q⟩))) (Qh (Q1 Z Z (Exec.build Z (Qc (c := [O b]) (Qe Z Z) (Qc (c := [O j]) (Qe Z Z) (Qc (c := [aB]) (Qe Z (Qz (a1.f1).arr_one)) (Qc (c := [ak]) (Qe Z (Qz (a1.f2).arr_one)) Qi)))) (v := Value.agg #[O b, O j, aB, Vn, ak]) (fun _ => by kernel_rfl) ⟨Z, Z⟩)) J5))))))), ?_⟩
    refine G ?_
    refine KJ Z Z Z ?_
    intro eh cP
    refine G ?_
    exact fq
   refine G ?_
   refine Exec.alloc (cs := [O 0, O 0, Vn, Vn, Vn]) an Z58 Z Z ?_
   intro cl ei a2
   refine ⟨(Qh (Q1 Z Z (Zm (v := O b) Z Z ⟨Z, Z⟩)) (Qh (Q1 Z Z (Zm (v := i) Z Z ⟨Z, Z⟩)) (Qh (Q1 Z Z (Zp F58_1.h Z Z Z ⟨Z, Z⟩)) (Qh (Q1 Z Z (Zn (a2.f3) A3.h Z Z Z ⟨Z, Z⟩)) (Qh (Q1 Z Z (Qa S22.h Z d Z (Qb a).1 (Qb a).2.1 ⟨Z, Z⟩)) (Qh (Q1 Z Z (Qf (F := (U .i64)) (a2.f2) d A3.h Z Z Z a (Sub.refl _) (fun _ q => ⟨Z, Qg.1 q⟩))) (Qh (Q1 Z Z (Zp F58_2.h Z Z Z ⟨Z, Z⟩)) (Qh (Q1 Z Z (Zn (a2.f3) A22.h Z Z Z ⟨Z, Z⟩)) J5)))))))), ?_⟩
   refine G ?_
   refine Tc Z Z Z Z (Q8 au a2 rq).r ?_
   rintro bg ej ⟨d8, _, di, a3, rfl⟩
   refine ⟨(Qh (Q1 Z Z (Zm (v := O b) Z Z ⟨Z, Z⟩)) (Qh (Q1 Z Z (Zm (v := i) Z Z ⟨Z, Z⟩)) (Qh (Q1 Z Z (Zp F58_1.h Z Z Z ⟨Z, Z⟩)) (Qh (Q1 Z Z (Zn (a3.f4) A3.h Z Z Z ⟨Z, Z⟩)) (Qh (Q1 Z Z (Qa S22.h Z d Z (Qb a).1 (Qb a).2.1 ⟨Z, Z⟩)) (Qh (Q1 Z Z (Qf (F := (U .i64)) (a3.f3) d A3.h Z Z Z a (Sub.refl _) (fun _ q => ⟨Z, Qg.1 q⟩))) J5)))))), ?_⟩
   refine G ?_
   refine Exec.build Z (Qc (c := [O b]) (Qe Z Z) (Qc (c := [O j]) (Qe Z Z) (Qc (c := [bg]) (Qe Z (Qz a3.arr_one)) (Qc (c := [ak]) (Qe Z (Qz (a3.f2).arr_one)) Qi)))) (v := Value.agg #[O b, O j, bg, Vn, ak]) (fun _ => by kernel_rfl) ⟨Z, ?_⟩
   refine G ?_
   refine KJ Z Z Z ?_
   intro ek cQ
   refine G ?_
   exact fq
  refine G ?_
  refine Exec.alloc (cs := [O 0, O 0, Vn, Vn, Vn]) al Z58 Z Z ?_
  intro cm el ap
  refine ⟨(Qh (Q1 Z Z (Zm (v := O b) Z Z ⟨Z, Z⟩)) (Qh (Q1 Z Z (Zm (v := i) Z Z ⟨Z, Z⟩)) (Qh (Q1 Z Z (Zp F58_1.h Z Z Z ⟨Z, Z⟩)) (Qh (Q1 Z Z (Zn (ap.f2) A3.h Z Z Z ⟨Z, Z⟩)) (Qh (Q1 Z Z (Qa S22.h Z d Z (Qb a).1 (Qb a).2.1 ⟨Z, Z⟩)) (Qh (Q1 Z Z (Qf (F := (U .i64)) (ap.f1) d A3.h Z Z Z a (Sub.refl _) (fun _ q => ⟨Z, Qg.1 q⟩))) (Qh (Q1 Z Z (Zp F58_2.h Z Z Z ⟨Z, Z⟩)) (Qh (Q1 Z Z (Zn (ap.f2) A22.h Z Z Z ⟨Z, Z⟩)) (Qh (Q1 Z Z (Zm (v := O b) Z Z ⟨Z, Z⟩)) J5))))))))), ?_⟩
  refine Qgf ?_ ?_
  ·refine G ?_
   refine Tc Z Z Z Z (Q8 au ap rq).r ?_
   rintro bh em ⟨d9, _, dj, aF, rfl⟩
   refine ⟨(Qh (Q1 Z Z (Zm (v := O b) Z Z ⟨Z, Z⟩)) (Qh (Q1 Z Z (Zm (v := i) Z Z ⟨Z, Z⟩)) (Qh (Q1 Z Z (Zp F58_1.h Z Z Z ⟨Z, Z⟩)) (Qh (Q1 Z Z (Zn (aF.f3) A3.h Z Z Z ⟨Z, Z⟩)) (Qh (Q1 Z Z (Qa S22.h Z d Z (Qb a).1 (Qb a).2.1 ⟨Z, Z⟩)) (Qh (Q1 Z Z (Qf (F := (U .i64)) (aF.f2) d A3.h Z Z Z a (Sub.refl _) (fun _ q => ⟨Z, Qg.1 q⟩))) (Qh (Q1 Z Z (Zm (v := O b) Z Z ⟨Z, Z⟩)) J5))))))), ?_⟩
   refine G ?_
   refine JJ (E := encBool) aF S56.h Z4 Z Z Z Z av ?_
   intro bi en a4
   refine ⟨(Qh (Q1 Z Z (Zm (v := O b) Z Z ⟨Z, Z⟩)) (Qh (Q1 Z Z (Zm (v := i) Z Z ⟨Z, Z⟩)) (Qh (Q1 Z Z (Zp F58_1.h Z Z Z ⟨Z, Z⟩)) (Qh (Q1 Z Z (Zn (a4.f4) A3.h Z Z Z ⟨Z, Z⟩)) (Qh (Q1 Z Z (Qa S22.h Z d Z (Qb a).1 (Qb a).2.1 ⟨Z, Z⟩)) (Qh (Q1 Z Z (Qf (F := (U .i64)) (a4.f3) d A3.h Z Z Z a (Sub.refl _) (fun _ q => ⟨Z, Qg.1 q⟩))) J5)))))), ?_⟩
   refine G ?_
   refine Exec.build Z (Qc (c := [O b]) (Qe Z Z) (Qc (c := [O j]) (Qe Z Z) (Qc (c := [bh]) (Qe Z (Qz (a4.f1).arr_one)) (Qc (c := [bi]) (Qe Z (Qz a4.arr_one)) Qi)))) (v := Value.agg #[O b, O j, bh, Vn, bi]) (fun _ => by kernel_rfl) ⟨Z, ?_⟩
   refine G ?_
   refine KJ Z Z Z ?_
   intro eo cR
   refine G ?_
   exact fq
  refine G ?_
  refine JJ (E := encBool) ap S56.h Z4 Z Z Z Z av ?_
  intro bj ep a5
  refine ⟨(Qh (Q1 Z Z (Zm (v := O b) Z Z ⟨Z, Z⟩)) (Qh (Q1 Z Z (Zm (v := i) Z Z ⟨Z, Z⟩)) (Qh (Q1 Z Z (Zp F58_1.h Z Z Z ⟨Z, Z⟩)) (Qh (Q1 Z Z (Zn (a5.f3) A3.h Z Z Z ⟨Z, Z⟩)) (Qh (Q1 Z Z (Qa S22.h Z d Z (Qb a).1 (Qb a).2.1 ⟨Z, Z⟩)) (Qh (Q1 Z Z (Qf (F := (U .i64)) (a5.f2) d A3.h Z Z Z a (Sub.refl _) (fun _ q => ⟨Z, Qg.1 q⟩))) (Qh (Q1 Z Z (Zp F58_2.h Z Z Z ⟨Z, Z⟩)) (Qh (Q1 Z Z (Zn (a5.f3) A22.h Z Z Z ⟨Z, Z⟩)) J5)))))))), ?_⟩
  refine G ?_
  refine Tc Z Z Z Z (Q8 au a5 rq).r ?_
  rintro bk er ⟨dA, _, dk, a6, rfl⟩
  refine ⟨(Qh (Q1 Z Z (Zm (v := O b) Z Z ⟨Z, Z⟩)) (Qh (Q1 Z Z (Zm (v := i) Z Z ⟨Z, Z⟩)) (Qh (Q1 Z Z (Zp F58_1.h Z Z Z ⟨Z, Z⟩)) (Qh (Q1 Z Z (Zn (a6.f4) A3.h Z Z Z ⟨Z, Z⟩)) (Qh (Q1 Z Z (Qa S22.h Z d Z (Qb a).1 (Qb a).2.1 ⟨Z, Z⟩)) (Qh (Q1 Z Z (Qf (F := (U .i64)) (a6.f3) d A3.h Z Z Z a (Sub.refl _) (fun _ q => ⟨Z, Qg.1 q⟩))) J5)))))), ?_⟩
  refine G ?_
  refine Exec.build Z (Qc (c := [O b]) (Qe Z Z) (Qc (c := [O j]) (Qe Z Z) (Qc (c := [bk]) (Qe Z (Qz a6.arr_one)) (Qc (c := [bj]) (Qe Z (Qz (a6.f1).arr_one)) Qi)))) (v := Value.agg #[O b, O j, bk, Vn, bj]) (fun _ => by kernel_rfl) ⟨Z, ?_⟩
  refine G ?_
  refine KJ Z Z Z ?_
  intro et cS
  refine G ?_
  exact fq
 intro c2 eu bv
 obtain ⟨bZ, x, n, o, dl, b3, ⟨c3, rfl⟩⟩ := bv
 obtain ⟨a7, bo, hm⟩ := V hm
 refine G ?_
 refine QO (fun k' s' f' w' => (fun (a7 : (List Bool)) => ∃ (aZ : PHeap) , PHeap.le bZ aZ ∧ St w0 aZ (Res.arr (U .i64) 3 i aa :: Res.box z 58 [O (l.States), O (l.Init), ai, ag, ac] :: Res.box p 58 [O 0, O 0, Vn, Vn, Vn] :: Res.box x 58 [O b, O j, n, Vn, o] :: Res.arr (U .i64) 3 n aD :: Res.arr encBool 4 o a7 :: H) w' ∧ Fx f' [(44, O (k' : Int)), (1, i), (2, Vq z), (4, Vq p), (8, Vq x), (42, ac), (43, O ((l.Goals.length : Int)))]) s') bo ?_ ?_ ?_
 ·have cT := b3.f5
  exact fq
 ·intro bE a7 dB c4 ev db bq ar
  obtain ⟨ca, dm, aT, ⟨c5, rfl⟩⟩ := bq
  obtain ⟨eA, bK, ar⟩ := V ar
  refine G ?_
  refine Jk Z Z Z bK ?_
  intro cn d0 bm
  refine G ?_
  refine Zw (E := encBool) aT A4.h Z Z Z bm ?_
  intro dK bL
  obtain rfl := Jc.1 bL
  obtain ⟨aI, m, ar⟩ := V ar
  refine g ?_
  refine Qp (M := fun f' w' => (fun (aI : (List Bool)) => ∃ (ba : PHeap) , PHeap.le ca ba ∧ St w0 ba (Res.arr (U .i64) 3 i aa :: Res.box z 58 [O (l.States), O (l.Init), ai, ag, ac] :: Res.box p 58 [O 0, O 0, Vn, Vn, Vn] :: Res.box x 58 [O b, O j, n, Vn, o] :: Res.arr (U .i64) 3 n aD :: Res.arr encBool 4 o aI :: H) w' ∧ Fx f' [(1, i), (2, Vq z), (4, Vq p), (8, Vq x), (42, ac), (43, O ((l.Goals.length : Int))), (44, O ((bE : Int)))]) aI) ?_ ?_
  ·refine JE (n0 := 17) (qs 0 17 .done) JM (by kernel_rfl) (by kernel_rfl) ?_
   have t := aT.drew
   obtain ⟨eB, ab, m⟩ := V m
   obtain ⟨cF, ct, aM⟩ := t.arr_at ab
   refine G ?_
   refine Qa S22.h Z aM Z (Qb ab).1 (Qb ab).2.1 ⟨Z, ?_⟩
   refine G ?_
   refine Qf (F := (U .i64)) (t) aM A3.h Z Z Z ab (Sub.refl _) ?_
   intro dL bM
   obtain rfl := Qg.1 bM
   refine ⟨Z, ?_⟩
   obtain ⟨cG, cu, aN⟩ := t.arr_at ab
   refine G ?_
   refine Qa S22.h Z aN Z (Qb ab).1 (Qb ab).2.1 ⟨Z, ?_⟩
   refine G ?_
   refine Qf (F := (U .i64)) (t) aN A3.h Z Z Z ab (Sub.refl _) ?_
   intro dM bN
   obtain rfl := Qg.1 bN
   refine ⟨Z, ?_⟩
   obtain ⟨eC, u, m⟩ := V m
   obtain ⟨cH, cv, aO⟩ := (t.f5).arr_at u
   refine G ?_
   refine Qa S56.h Z aO Z (Qb u).1 (Qb u).2.1 ⟨Z, ?_⟩
   refine G ?_
   refine Qf (F := encBool) (t.f5) aO A4.h Z Z Z u (Sub.refl _) ?_
   intro dN bO
   obtain rfl := Jc.1 bO
   refine ⟨Z, ?_⟩
   refine G ?_
   rcases Qs m with ⟨bC, m⟩ | ⟨bC, m⟩
   ·obtain ⟨cI, cw, aP⟩ := (t.f5).arr_at u
    refine G ?_
    refine Qa S56.h Z aP Z (Qb u).1 (Qb u).2.1 ?_
    obtain ⟨dn, bP, m⟩ := V m
    refine G ?_
    refine Qx t.f5 aP A4.h Z Z Z Z (Jc.2 Z) bP ?_
    intro ew cU
    cases m
    refine G ?_
    exact fq
   obtain ⟨cJ, cx, aQ⟩ := (t.f5).arr_at u
   refine G ?_
   refine Qa S56.h Z aQ Z (Qb u).1 (Qb u).2.1 ?_
   obtain ⟨dp, bQ, m⟩ := V m
   refine G ?_
   refine Qx t.f5 aQ A4.h Z Z Z Z (Jc.2 Z) bQ ?_
   intro ex cV
   cases m
   refine G ?_
   exact fq
  intro c6 ey bw
  obtain ⟨dC, dq, cW, ⟨c7, rfl⟩⟩ := bw
  cases ar
  refine G ?_
  exact fq
 intro c8 ez br
 obtain ⟨cb, dr, b4, ⟨c9, rfl⟩⟩ := br
 obtain ⟨aL, bp, hm⟩ := V hm
 refine G ?_
 refine QO (fun k' s' f' w' => (fun (aL : (List Edge)) => ∃ (bb : PHeap) (aC : Value), PHeap.le cb bb ∧ St w0 bb (Res.arr (U .i64) 3 i aa :: Res.box p 58 [O 0, O 0, Vn, Vn, Vn] :: Res.box x 58 [O b, O j, n, aC, o] :: Res.arr (U .i64) 3 n aD :: Res.arr encEdge 100 aC aL :: Res.arr encBool 4 o a7 :: H) w' ∧ Fx f' [(71, O (k' : Int)), (1, i), (4, Vq p), (8, Vq x), (69, ag), (70, O ((l.Edges.length : Int)))]) s') bp ?_ ?_ ?_
 ·have cX := b4.nilArr encEdge 100
  exact fq
 ·intro dc aL dD cA e0 bD bs y
  obtain ⟨cc, aC, bG, aU, ⟨cB, rfl⟩⟩ := bs
  obtain ⟨ad, bR, y⟩ := V y
  refine G ?_
  refine Jk Z Z Z bR ?_
  intro co d1 bn
  refine G ?_
  refine Zw (E := encEdge) aU A100.h Z Z Z bn ?_
  intro dO bS
  obtain rfl := Jz.1 bS
  refine G ?_
  refine Exec.alloc (cs := [O 0, O 0, O 0]) aU QeW Z Z ?_
  intro cp e1 cY
  refine G ?_
  refine KJ Z Z Z ?_
  intro e2 b5
  refine G ?_
  refine JE (n0 := 17) (qs 0 15 (.e 15 [0, 1] (.e 16 [] .done))) JM (by kernel_rfl) (by kernel_rfl) ?_
  have aq := b5.drew
  obtain ⟨ah, a8, y⟩ := V y
  obtain ⟨cK, cy, aR⟩ := (aq.f1).arr_at a8
  refine G ?_
  refine Qa S22.h Z aR Z (Qb a8).1 (Qb a8).2.1 ⟨Z, ?_⟩
  refine G ?_
  refine Qf (F := (U .i64)) (aq.f1) aR A3.h Z Z Z a8 (Sub.refl _) ?_
  intro dP bT
  obtain rfl := Qg.1 bT
  refine ⟨Z, ?_⟩
  obtain ⟨ae, a9, y⟩ := V y
  obtain ⟨cL, cz, aS⟩ := (aq.f1).arr_at a9
  refine G ?_
  refine Qa S22.h Z aS Z (Qb a9).1 (Qb a9).2.1 ⟨Z, ?_⟩
  refine G ?_
  refine Qf (F := (U .i64)) (aq.f1) aS A3.h Z Z Z a9 (Sub.refl _) ?_
  intro dQ bU
  obtain rfl := Qg.1 bU
  refine ⟨Z, ?_⟩
  refine G ?_
  refine Exec.build Z (Qc (c := [O ah]) (Qe Z Z) (Qc (c := [O (ad.Label)]) (Qe Z Z) (Qc (c := [O ae]) (Qe Z Z) Qi))) (v := Value.agg #[O ah, O (ad.Label), O ae]) (fun _ => by kernel_rfl) ⟨Z, ?_⟩
  refine G ?_
  refine Exec.buildSlice (Te := 100) (cs := [O ah, O (ad.Label), O ae]) aq Z (Qc (c := [O ah, O (ad.Label), O ae]) (Qe Z Z) Qi) (fun _ => by kernel_rfl) ?_
  intro cq e3 b6
  refine ⟨agq, ?_⟩
  obtain ⟨dt, bV, y⟩ := V y
  refine G ?_
  refine Q5 (E := encEdge) (ys := [(⟨ah, ad.Label, ae⟩ : Edge)]) b6.f6 S55.h QeW Z (by decide) Z Z Z Z ⟨[O ah, O (ad.Label), O ae], [], Z, ⟨[O ah], [O (ad.Label), O ae], Z, Z, ⟨[O (ad.Label)], [O ae], Z, Z, Z⟩⟩, Z⟩ Z bV ?_
  intro aJ e4 aG
  refine ⟨agq, ?_⟩
  refine G ?_
  refine Qq (ds := [aJ]) (es := [O b, O j, n, aJ, o]) aG.f4 A55.h Z Z Z (Qz ((aG.f4).f1).arr_one) (Zj ((aG.f4).f1).arr_one QU) (Nat.le_of_ble_eq_true Z) Z ?_
  intro e5 b7
  cases y
  refine G ?_
  exact ⟨cc, aJ, bG, (((((((b7.f2).drop).f5).f2).f5).f3).f5).f5, (Fx.mk (FxL.cons (QM bD (SliceRep.le rq)) fxl))⟩
 intro cC e6 bt
 obtain ⟨dE, aC, du, b8, ⟨cD, rfl⟩⟩ := bt
 obtain ⟨dv, bW, hm⟩ := V hm
 refine G ?_
 refine Tc Z Z Z (Zi Z Qw) (Qfk bW b8.f4).r ?_
 rintro bl e7 ⟨dF, _, dw, aH, rfl⟩
 refine G ?_
 refine Qq (ds := [bl]) (es := [O b, O j, n, bl, o]) aH.f3 A55.h Z Z Z (Qz ((aH.f3).f1).arr_one) (Zj ((aH.f3).f1).arr_one QU) (Nat.le_of_ble_eq_true Z) Z ?_
 intro e8 cZ
 refine G ?_
 refine KJ Z Z Z ?_
 intro e9 aV
 cases hm
 refine G ?_
 refine ⟨_, QaS Z ⟨_, _, Z, Kb (aV) A58.h⟩ Z, ?_⟩
 obtain ⟨dG, dx, b9, d2⟩ := aV.f4.freezeArr
 obtain ⟨dH, dy, bA, d3⟩ := b9.f2.freezeArr
 obtain ⟨dI, dz, da, d4⟩ := bA.f3.freezeArr
 exact fq
theorem Kc {w0 w : World} {s : PHeap} {H : List Res} {q : mergeshrink_Abstraction} {a : System} {z : Int} {k : Nat} {m : Value} {n : Value} {o : Value} {d : Value} {g : Value} {i : Value} {r : (List Int) × (Option Int) × System × Bool} (hm : QG q a z = some r) (hS : St w0 s (Res.box k 73 [m, n, o, Value.bool (q.exact)] :: H) w) (ag : SliceRep (U .i64) s d a.Costs) (ah : SliceRep encEdge s g a.Edges) (ai : SliceRep encBool s i a.Goals) :
  Calls Tryz.prog 56 #[Value.pointer (some ⟨k, 0, none⟩), Value.agg #[O (a.States), O (a.Init), d, g, i], O z] w fun e w' => ∃ v, e = .returned v ∧ ((un4 fun (a9 : (List Int)) (aA : (Option Int)) (j : System) (aC : Bool) => ∃ (c : PHeap) (ab : Value) (ac : Value) (ad : Value) (ae : Value), PHeap.le s c ∧ St w0 c (Res.box k 73 [m, n, o, Value.bool (aC)] :: H) w' ∧ v = Value.tuple #[Value.agg #[O (j.States), O (j.Init), ac, ad, ae], ab, K4 52 (aA)] ∧ SliceRep (U .i64) c ab a9 ∧ SliceRep (U .i64) c ac j.Costs ∧ SliceRep encEdge c ad j.Edges ∧ SliceRep encBool c ae j.Goals) r) := by
 unfold QG at hm
 refine Qd Tryz.func56 Z Z (G ?_)
 refine Kq Z Z ?_
 intro t bl ak
 refine G ?_
 refine Exec.alloc (cs := [O 0, O 0, Vn, Vn, Vn]) ak Z58 Z Z ?_
 intro u bm l
 refine G ?_
 rcases Qs hm with ⟨aw, hm⟩ | ⟨aw, hm⟩
 ·refine G ?_
  refine JE (n0 := 5) (qs 0 3 (.e 3 [0] (.e 4 [] .done))) JM (by kernel_rfl) (by kernel_rfl) (G ?_)
  refine QK (ds := [O (a.States), O (a.Init), d, g, i]) ((l.drew).f1) A58.h Z Z Z ⟨Z, ?_⟩
  refine G ?_
  refine Zn ((l.drew).f1) A3.h Z Z Z ⟨Z, ?_⟩
  obtain ⟨b3, az, hm⟩ := V hm
  refine G ?_
  refine Tc Z Z Z Z (Qce az l.drew).r ?_
  rintro bg bn ⟨aZ, _, aM, al, rfl, aU⟩
  refine ⟨agq, ?_⟩
  refine G ?_
  refine Qq (ds := [O (a.States), O (a.Init), d, g, i]) (es := [O (a.States), O (a.Init), d, g, i]) al A58.h Z Z Z Z (Zj Z (Zj Z (Zj (rq).one (Zj (rq).one (Zj (rq).one QU))))) (Nat.le_of_ble_eq_true Z) Z ?_
  intro bo am
  refine ⟨agq, ?_⟩
  cases hm
  refine G ?_
  refine ⟨_, Ql3 Z ⟨_, _, Z, Kb (am) A58.h⟩ Z Z, ?_⟩
  exact fq
 obtain ⟨a6, a0, hm⟩ := V hm
 obtain ⟨aB, b4⟩ := a6
 replace hm := Q7 hm
 refine G ?_
 refine Tc Z Z Z Z (Qgs a0 l ag ah ai).r ?_
 rintro _ bp ⟨ba, af, aN, an, rfl⟩
 refine G ?_
 refine Qv (T := 52) Tryz.underlying39 Z Z Z (G ?_)
 rcases Qs hm with ⟨ax, hm⟩ | ⟨ax, hm⟩
 ·refine G ?_
  refine Exec.build Z Qi (v := Value.agg #[O 0, O 0, Vn, Vn, Vn]) (fun _ => by kernel_rfl) (G ?_)
  refine KJ Z Z Z ?_
  intro bq ao
  cases hm
  refine G ?_
  refine ⟨_, Ql3 Z ⟨_, _, Z, Kb (ao) A58.h⟩ Z Z, ?_⟩
  exact fq
 obtain ⟨a7, a1, hm⟩ := V hm
 obtain ⟨b5, b6⟩ := a7
 replace hm := Q7 hm
 refine G ?_
 refine Tc Z Z Z Z (Qba a1 an rq rq rq).r ?_
 rintro _ br ⟨a5, bh, aO, ap, rfl⟩
 refine G ?_
 refine Qv (T := 52) Tryz.underlying39 Z Z Z (G ?_)
 rcases Qs hm with ⟨y, hm⟩ | ⟨y, hm⟩
 ·refine G ?_
  refine Exec.build Z Qi (v := Value.agg #[O 0, O 0, Vn, Vn, Vn]) (fun _ => by kernel_rfl) (G ?_)
  refine KJ Z Z Z ?_
  intro bs aq
  cases hm
  refine G ?_
  refine ⟨_, Ql3 Z ⟨_, _, Z, Kb (aq) A58.h⟩ Z Z, ?_⟩
  exact fq
 obtain ⟨p, b, hm⟩ := V hm
 refine W_c Z y (Qa4 (Jt (Ze (Zc (Qp (M := fun f' w' => (fun (p : Bool) => ∃ (aa : PHeap) , PHeap.le a5 aa ∧ St w0 aa (Res.box k 73 [m, n, o, Vb p] :: Res.box t 58 [O (a.States), O (a.Init), d, g, i] :: Res.box u 58 [O 0, O 0, Vn, Vn, Vn] :: Res.arr (U .i64) 3 af aB :: H) w' ∧ Fx f' [(4, Vq t), (6, Vq u), (9, af)]) p) ?_ ?_)))))
 ·refine G ?_
  rcases Qs b with ⟨ay, b⟩ | ⟨ay, b⟩
  ·obtain ⟨b7, a2, b⟩ := V b
   refine G ?_
   refine Tc Z Z Z Z (Qbb a2 ap.f1).r ?_
   rintro _ bt ⟨bb, aP, ar, rfl⟩
   obtain ⟨b8, a3, b⟩ := V b
   refine G ?_
   refine Tc Z Z Z Z (Qbb a3 ar.f1).r ?_
   rintro _ bu ⟨bc, aQ, aG, rfl⟩
   refine G ?_
   refine KJ Z Z Z ?_
   intro bv aH
   cases b
   refine G ?_
   exact fq
  refine G ?_
  refine KJ Z Z Z ?_
  intro bw aI
  cases b
  refine G ?_
  exact fq
 intro aE bx aj
 obtain ⟨bd, aR, au, ⟨aF, rfl⟩⟩ := aj
 obtain ⟨a8, a4, hm⟩ := V hm
 obtain ⟨b9, bA⟩ := a8
 replace hm := Q7 hm
 refine G ?_
 refine Tc Z Z Z Z (Qea a4 au.f3 rq rq rq).r ?_
 rintro _ bz ⟨be, bi, bj, bk, aS, av, rfl, aV, aW, aX⟩
 refine G ?_
 refine Exec.alloc (cs := [O 0, O 0, Vn, Vn, Vn]) av Z58 Z Z ?_
 intro aD b0 aJ
 refine G ?_
 refine KJ Z Z Z ?_
 intro b1 aK
 refine G ?_
 refine KJ Z Z Z ?_
 intro b2 x
 cases hm
 refine G ?_
 refine ⟨_, Ql3 Z ⟨_, _, Z, Kb (x) A58.h⟩ Z Z, ?_⟩
 obtain ⟨bf, aT, aL, aY⟩ := x.f2.freezeArr
 exact fq
instance F83_1 : FTy Tryz.prog 83 1 1 := ⟨by kernel_rfl⟩
instance F83_3 : FTy Tryz.prog 83 3 3 := ⟨by kernel_rfl⟩
instance F73_1 : FTy Tryz.prog 73 1 1 := ⟨by kernel_rfl⟩
instance A71 : ATy Tryz.prog 71 false 1 := ⟨by kernel_rfl⟩
instance S71 : STy Tryz.prog 71 83 4 64 := ⟨by kernel_rfl⟩
instance F83_2 : FTy Tryz.prog 83 2 2 := ⟨by kernel_rfl⟩
instance S101 : STy Tryz.prog 101 55 1 24 := ⟨by kernel_rfl⟩
theorem Z55 : Ji Tryz.prog 55 = some (Value.slice none 0 0) := by kernel_rfl
theorem Qcd {w0 w : World} {s : PHeap} {H : List Res} {g : System} {ab : Value} {t : Value} {ac : Value} {r : (List (List Edge))} (hm : Km g = some r) (hS : St w0 s (H) w) (ax : SliceRep (U .i64) s ab g.Costs) (ay : SliceRep encEdge s t g.Edges) (az : SliceRep encBool s ac g.Goals) :
  Calls Tryz.prog 85 #[Value.agg #[O (g.States), O (g.Init), ab, t, ac]] w fun e w' => ∃ v, e = .returned v ∧ ((fun (aw : (List (List Edge))) => ∃ (p : PHeap) (ad : Value), PHeap.le s p ∧ St w0 p (H) w' ∧ v = ad ∧ SliceRep (Qm encEdge) p ad aw) r) := by
 unfold Km at hm
 refine Qd Tryz.func85 Z Z (G ?_)
 refine Kq Z Z ?_
 intro a0 aY ai
 obtain ⟨aJ, ao, hm⟩ := V hm
 refine G ?_
 refine Qbx (F := encEdge) (T2 := 100) ai S101.h Z55 Z Z Z ao ?_
 intro n aG aZ aj
 obtain ⟨o, af, hm⟩ := V hm
 refine G ?_
 refine QO (fun k' s' f' w' => (fun (o : (List (List Edge))) => ∃ (aa : PHeap) (m : List Value), PHeap.le s aa ∧ St w0 aa (Res.arr encRaw 55 n m :: Res.rows encEdge 100 m o :: H) w' ∧ Fx f' [(13, O (k' : Int)), (3, n), (11, t), (12, O ((g.Edges.length : Int)))]) s') af ?_ ?_ ?_
 ·have aB := (aj.f2).drop
  exact fq
 ·intro aI o aS a5 ba aF ag d
  obtain ⟨aT, m, aK, x, ⟨a6, rfl⟩⟩ := ag
  obtain ⟨a, ap, d⟩ := V d
  refine G ?_
  refine Jk Z Z Z ap ?_
  intro a1 aP ae
  refine G ?_
  refine Zw (E := encEdge) x A100.h Z Z Z ae ?_
  intro aW aq
  obtain rfl := Jz.1 aq
  refine G ?_
  refine Exec.alloc (cs := [O 0, O 0, O 0]) x QeW Z Z ?_
  intro a2 bb aC
  refine G ?_
  refine KJ Z Z Z ?_
  intro bc ak
  refine G ?_
  refine JE (n0 := 11) (qs 0 9 (.e 9 [0, 1, 2, 3, 4, 5, 6, 7] (.e 10 [0, 1, 2] .done))) JM (by kernel_rfl) (by kernel_rfl) ?_
  have j := ak.drew
  obtain ⟨aR, y, d⟩ := V d
  obtain ⟨aA, b, u, _⟩ := (((j.f2).f2).f1).rows_at y
  obtain ⟨a9, a4, i⟩ := ((j.f2).f2).arr_at b
  refine G ?_
  refine Qa S101.h Z i Z (Qb b).1 (Qb b).2.1 ⟨Z, ?_⟩
  refine G ?_
  refine Qf (F := encRaw) ((j.f2).f2) i A55.h Z Z Z b (Sub.refl _) ?_
  intro av z
  replace z := (K5.1 z).1
  subst av
  refine ⟨Z, ?_⟩
  refine G ?_
  refine Exec.buildSlice (Te := 100) (cs := [O (a.From), O (a.Label), O (a.To)]) j Z (Qc (c := [O (a.From), O (a.Label), O (a.To)]) (Qe Z Z) Qi) (fun _ => by kernel_rfl) ?_
  intro a3 bd l
  refine ⟨(Qh (Q1 Z Z (Zm (v := n) Z Z ⟨Z, Z⟩)) (Qh (Q1 Z Z (Zp F100_1.h Z Z Z ⟨Z, Z⟩)) (Qh (Q1 Z Z (Zn (l.f1) A3.h Z Z Z ⟨Z, Z⟩)) (Qh (Q1 Z Z (Zm (v := n) Z Z ⟨Z, Z⟩)) (Qh (Q1 Z Z (Zp F100_1.h Z Z Z ⟨Z, Z⟩)) (Qh (Q1 Z Z (Zn (l.f1) A3.h Z Z Z ⟨Z, Z⟩)) (Qh (Q1 Z Z (Qa S101.h Z i Z (Qb b).1 (Qb b).2.1 ⟨Z, Z⟩)) (Qh (Q1 Z Z (Qf (F := encRaw) ((l.f3).f3) i A55.h Z Z Z b (Sub.refl _) (fun _ q => ⟨Z, (K5.1 q).1⟩))) J5)))))))), ?_⟩
  have al := (((l.f3).f3).f1).rows_split u (Qb y).2.2
  obtain ⟨aL, ar, d⟩ := V d
  refine G ?_
  refine Q5 (E := encEdge) (ys := [a]) (al.f3).f1 S55.h QeW Z (by decide) Z Z Z Z ⟨[O (a.From), O (a.Label), O (a.To)], [], Z, ⟨[O (a.From)], [O (a.Label), O (a.To)], Z, Z, ⟨[O (a.Label)], [O (a.To)], Z, Z, Z⟩⟩, Z⟩ Z ar ?_
  intro aX be am
  refine ⟨agq, ?_⟩
  refine G ?_
  refine Qa S101.h Z i Z (Qb b).1 (Qb b).2.1 ?_
  obtain ⟨aM, au, d⟩ := V d
  refine G ?_
  refine Qbw ((am.f2).f2).f2 u i A55.h Z Z Z Z au ?_
  intro aH bf aD
  cases d
  refine G ?_
  exact fq
 intro a7 bg ah
 obtain ⟨aU, m, aN, an, ⟨a8, rfl⟩⟩ := ah
 cases hm
 refine G ?_
 refine ⟨_, KR Z, ?_⟩
 obtain ⟨aV, aO, aE, aQ⟩ := an.freezeGrid
 exact fq
end Go.Pw
