/- -/
import Derived.Test.YtcpkjkmbdolfnaaGreatDoorLC
import Derived.Test.YtcpkjkmbdolfnaaGreatDoorLD
import Derived.Test.YtcpkjkmbdolfnaaGreatDoorMb8
set_option maxRecDepth 100000
set_option maxHeartbeats 40000000
set_option linter.unusedVariables false
namespace Go.Pw
open Go.Proofs
attribute [local irreducible] Exec WL W andThen Y2 DL QW
theorem QcP {w0 w : World} {s : PHeap} {H : List Res} {r : Bool} (hm : Yu = some r) (hS : St w0 s (H) w) :
  Calls Tryz.prog 4 #[] w fun e w' => ∃ v, e = .returned v ∧ ((fun (y23 : Bool) => ∃ (av : PHeap) , PHeap.le s av ∧ St w0 av (H) w' ∧ v = Value.bool (y23)) r) := by
 unfold Yu at hm
 refine Qj Tryz.func4 Z Z (G ?_)
 refine Tc Z Z Z QT (QaF Yz hS).r ?_
 rintro _ cB ⟨bX, cn, co, cp, cq, y, ay, rfl, bb, bc, bd, be⟩
 refine G ?_
 refine Exec.buildSlice (Te := 3) (cs := [O 0, O 1]) ay Z (Qc (c := [O 0]) (Qe Z Z) (Qc (c := [O 1]) (Qe Z Z) Qh)) (fun _ => by kernel_rfl) ?_
 intro b9 cC az
 have a0 := St.boxArr (E := (U .i64)) (xs := [0, 1]) az ⟨[O 0], [O 1], rfl, rfl, ⟨[O 1], [], rfl, rfl, rfl⟩⟩ (by simp [maxLen])
 obtain ⟨bY, k, a1, bf⟩ := a0.freezeArr
 obtain ⟨b4, aW, hm⟩ := V hm
 obtain ⟨bR, cT⟩ := b4
 replace hm := Q6 hm
 refine G ?_
 refine Tc Z Z Z (Zi Z (Zi Z (Zi Z QT))) (KB aW a1 (bb.mono k) (bc.mono k) (bd.mono k) (be.mono k) bf).r ?_
 rintro _ cD aO
 rcases aO with ⟨aj, rfl, bZ, cr, b7, ct, cu, aq, a2, rfl, ah⟩ | ⟨rfl, ca, ar, a3, rfl⟩
 ·replace hm := Qd0 hm
  obtain ⟨ch, o, hm⟩ := V hm
  refine G ?_
  refine Tc Z Z Z QT (QaF Yz a2).r ?_
  rintro _ cE ⟨cb, cv, cw, cx, cy, q, a4, rfl, bg, bh, bi, bj⟩
  refine G ?_
  refine Exec.buildSlice (Te := 3) (cs := [O 1, O 0]) a4 Z (Qc (c := [O 1]) (Qe Z Z) (Qc (c := [O 0]) (Qe Z Z) Qh)) (fun _ => by kernel_rfl) ?_
  intro bA cF a5
  have a6 := St.boxArr (E := (U .i64)) (xs := [1, 0]) a5 ⟨[O 1], [O 0], rfl, rfl, ⟨[O 0], [], rfl, rfl, rfl⟩⟩ (by simp [maxLen])
  obtain ⟨cc, h, a7, bk⟩ := a6.freezeArr
  obtain ⟨b5, aX, hm⟩ := V hm
  obtain ⟨bS, aa⟩ := b5
  replace hm := Q6 hm
  refine G ?_
  refine Tc Z Z Z (Zi Z (Zi Z (Zi Z QT))) (KB aX a7 (bg.mono h) (bh.mono h) (bi.mono h) (bj.mono h) bk).r ?_
  rintro _ cG aP
  rcases aP with ⟨ak, rfl, bs, cz, c0, c1, c2, z, a8, rfl, ai⟩ | ⟨rfl, bt, aR, a9, rfl⟩
  ·replace hm := Qd0 hm
   obtain ⟨ci, u, hm⟩ := V hm
   obtain ⟨j, a, hm⟩ := V hm
   refine g ?_
   refine Zc (Qo (M := fun f' w' => (fun (j : Bool) => ∃ (aw : PHeap) , PHeap.le bs aw ∧ St w0 aw (H) w' ∧ Fx f' [(0, Vb j)]) j) ?_ ?_)
   ·refine G ?_
    refine Ky (T := 57) Tryz.underlying32 Z Z Z (G ?_)
    refine Qc7 Z (Zf Z (Zx (Qr o))) Z (Zm (v := Qaw 57 (aa)) Z Z (Qc7 Z (Zf Z (Zx (Qr o))) Z (Ky (T := 57) Tryz.underlying32 Z Z Z (G ?_))))
    refine Zs (v := Vb (aa.isNone)) Z (Zx (Qr o)) Z (G ?_)
    refine Qc7 Z (Zf Z (Zx (Qr u))) Z (Zm (v := Vq b7) Z Z (Qc7 Z (Zf Z (Zx (Qr u))) Z (Exec.buildSlice (Te := 3) (cs := [O 0, O 0]) a8 Z (Qc (c := [O 0]) (Qe Z Z) (Qc (c := [O 0]) (Qe Z Z) Qh)) (fun _ => by kernel_rfl) ?_)))
    intro bB cH aA
    have aB := St.boxArr (E := (U .i64)) (xs := [0, 0]) aA ⟨[O 0], [O 0], rfl, rfl, ⟨[O 0], [], rfl, rfl, rfl⟩⟩ (by simp [maxLen])
    obtain ⟨cd, b, aC, bl⟩ := aB.freezeArr
    obtain ⟨b8, aY, a⟩ := V a
    refine Qc7 Z (Zf Z (Zx (Qr u))) Z (Tc Z Z Z (Zi Z (Zi Z QT)) (JM aY ((aC.f5).f5).f5 (ah.mono (Zt (Zt (Zt q h) z) b)) bl).r ?_)
    rintro _ cI ⟨bu, d, al, rfl⟩
    refine Qc7 Z (Zf Z (Zx (Qr u))) Z (Exec.eql Z Z Z (G ?_))
    refine Zs (v := Vb (decide (b8 = 3))) Z (Zx (Qr u)) Z (G ?_)
    rcases KV a with ⟨ab, a⟩ | ⟨ab, a⟩
    ·refine G ?_
     refine Tc Z Z Z (Zi Z QT) (JS (Jy aj) ((al.f2).f2).f2 (ah.mono (Zt (Zt (Zt (Zt q h) z) b) d))).r ?_
     rintro _ cJ ⟨bv, i, am, rfl⟩
     refine G ?_
     rcases KV a with ⟨ac, a⟩ | ⟨ac, a⟩
     ·refine G ?_
      refine Tc Z Z Z (Zi Z QT) (JN (Jr aj) ((am.f2).f2).f2 (ah.mono (Zt (Zt (Zt (Zt (Zt q h) z) b) d) i))).r ?_
      rintro _ cK ⟨bw, l, an, rfl⟩
      refine G ?_
      rcases KV a with ⟨ad, a⟩ | ⟨ad, a⟩
      ·refine G ?_
       refine Exec.buildSlice (Te := 3) (cs := [O 0, O 0]) an Z (Qc (c := [O 0]) (Qe Z Z) (Qc (c := [O 0]) (Qe Z Z) Qh)) (fun _ => by kernel_rfl) ?_
       intro bC cL aD
       have aE := St.boxArr (E := (U .i64)) (xs := [0, 0]) aD ⟨[O 0], [O 0], rfl, rfl, ⟨[O 0], [], rfl, rfl, rfl⟩⟩ (by simp [maxLen])
       obtain ⟨ce, m, aF, bm⟩ := aE.freezeArr
       obtain ⟨cU, aZ, a⟩ := V a
       refine G ?_
       refine Tc Z Z Z (Zi Z (Zi Z QT)) (JM aZ ((aF.f5).f5).f5 (ai.mono (Zt (Zt (Zt (Zt b d) i) l) m)) bm).r ?_
       rintro _ cM ⟨bx, t, ao, rfl⟩
       refine G ?_
       rcases KV a with ⟨ae, a⟩ | ⟨ae, a⟩
       ·refine G ?_
        refine Tc Z Z Z (Zi Z QT) (JS (Jy ak) ((ao.f2).f2).f2 (ai.mono (Zt (Zt (Zt (Zt (Zt b d) i) l) m) t))).r ?_
        rintro _ cN ⟨bz, ag, ap, rfl⟩
        refine G ?_
        rcases KV a with ⟨af, a⟩ | ⟨af, a⟩
        ·refine G ?_
         refine Tc Z Z Z (Zi Z QT) (JN (Jr ak) ((ap.f2).f2).f2 (ai.mono (Zt (Zt (Zt (Zt (Zt (Zt b d) i) l) m) t) ag))).r ?_
         rintro _ cO ⟨b0, aS, aG, rfl⟩
         have bF := Zu a
         subst j
         refine G ?_
         exact ⟨b0, (Zt (Zt (Zt (Zt (Zt (Zt (Zt b d) i) l) m) t) ag) aS), (((((aG.drop).drop).drop).drop).drop).drop, (Fx.mk)⟩
        replace af := Zk af
        have bG := Zu a
        subst j
        refine G ?_
        exact ⟨bz, (Zt (Zt (Zt (Zt (Zt (Zt b d) i) l) m) t) ag), (((((ap.drop).drop).drop).drop).drop).drop, (Fx.mk)⟩
       replace ae := Zk ae
       have bH := Zu a
       subst j
       refine G ?_
       exact ⟨bx, (Zt (Zt (Zt (Zt (Zt b d) i) l) m) t), (((((ao.drop).drop).drop).drop).drop).drop, (Fx.mk)⟩
      replace ad := Zk ad
      have bI := Zu a
      subst j
      refine G ?_
      exact ⟨bw, (Zt (Zt (Zt b d) i) l), (((((an.drop).drop).drop).drop).drop).drop, (Fx.mk)⟩
     replace ac := Zk ac
     have bJ := Zu a
     subst j
     refine G ?_
     exact ⟨bv, (Zt (Zt b d) i), (((((am.drop).drop).drop).drop).drop).drop, (Fx.mk)⟩
    replace ab := Zk ab
    have bK := Zu a
    subst j
    refine G ?_
    exact ⟨bu, (Zt b d), (((((al.drop).drop).drop).drop).drop).drop, (Fx.mk)⟩
   intro bP cP ax
   obtain ⟨b1, aT, aH, ⟨bQ, rfl⟩⟩ := ax
   have bL := Zu hm
   subst r
   refine G ?_
   refine ⟨_, Yc Z, ?_⟩
   exact ⟨b1, (Zt (Zt (Zt (Zt (Zt (Zt y k) aq) q) h) z) aT), aH, Z⟩
  replace hm := Qd1 hm
  obtain ⟨cj, x, hm⟩ := V hm
  refine G ?_
  refine Ky (T := 57) Tryz.underlying32 Z Z Z (G ?_)
  refine Qc7 Z (Zf Z (Zx (Qr o))) Z (Zm (v := Qaw 57 (aa)) Z Z (Qc7 Z (Zf Z (Zx (Qr o))) Z (Ky (T := 57) Tryz.underlying32 Z Z Z (G ?_))))
  refine Zs (v := Vb (aa.isNone)) Z (Zx (Qr o)) Z (G ?_)
  refine Zl Z (Zf Z (Zx (Y3 (Qr x)))) Z Z (Zl Z (Zf Z (Zx (Y3 (Qr x)))) Z Z (Zl Z (Zf Z (Zx (Y3 (Qr x)))) Z Z (Zl Z (Zf Z (Zx (Y3 (Qr x)))) Z Z (G ?_))))
  refine Qbp (v := Vb false) Z (Zx (Y3 (Qr x))) Z ?_
  have bM := Zu hm
  subst r
  refine G ?_
  refine ⟨_, Yc Z, ?_⟩
  exact ⟨bt, (Zt (Zt (Zt (Zt (Zt y k) aq) q) h) aR), ((a9.drop).drop).drop, Z⟩
 replace hm := Qd1 hm
 obtain ⟨ck, p, hm⟩ := V hm
 refine G ?_
 refine Tc Z Z Z QT (QaF Yz a3).r ?_
 rintro _ cQ ⟨cf, c3, c4, c5, c6, au, aI, rfl, bn, bo, bp, bq⟩
 refine G ?_
 refine Exec.buildSlice (Te := 3) (cs := [O 1, O 0]) aI Z (Qc (c := [O 1]) (Qe Z Z) (Qc (c := [O 0]) (Qe Z Z) Qh)) (fun _ => by kernel_rfl) ?_
 intro bD cR aJ
 have aK := St.boxArr (E := (U .i64)) (xs := [1, 0]) aJ ⟨[O 1], [O 0], rfl, rfl, ⟨[O 0], [], rfl, rfl, rfl⟩⟩ (by simp [maxLen])
 obtain ⟨cg, n, aL, br⟩ := aK.freezeArr
 obtain ⟨b6, ba, hm⟩ := V hm
 obtain ⟨bT, cV⟩ := b6
 replace hm := Q6 hm
 refine G ?_
 refine Tc Z Z Z (Zi Z (Zi Z (Zi Z QT))) (KB ba aL (bn.mono n) (bo.mono n) (bp.mono n) (bq.mono n) br).r ?_
 rintro _ cS aQ
 rcases aQ with ⟨bE, rfl, b2, c7, c8, c9, cA, aU, aM, rfl, bW⟩ | ⟨rfl, b3, aV, aN, rfl⟩
 ·replace hm := Qd0 hm
  obtain ⟨cl, bU, hm⟩ := V hm
  refine G ?_
  refine Ky (T := 57) Tryz.underlying32 Z Z Z (G ?_)
  refine Zl Z (Zf Z (Zx (Y3 (Qr p)))) Z Z (Zl Z (Zf Z (Zx (Y3 (Qr p)))) Z Z (G ?_))
  refine Qbp (v := Vb false) Z (Zx (Y3 (Qr p))) Z ?_
  have bN := Zu hm
  subst r
  refine G ?_
  refine ⟨_, Yc Z, ?_⟩
  exact ⟨b2, (Zt (Zt (Zt (Zt (Zt y k) ar) au) n) aU), ((aM.drop).drop).drop, Z⟩
 replace hm := Qd1 hm
 obtain ⟨cm, bV, hm⟩ := V hm
 refine G ?_
 refine Ky (T := 57) Tryz.underlying32 Z Z Z (G ?_)
 refine Zl Z (Zf Z (Zx (Y3 (Qr p)))) Z Z (Zl Z (Zf Z (Zx (Y3 (Qr p)))) Z Z (G ?_))
 refine Qbp (v := Vb false) Z (Zx (Y3 (Qr p))) Z ?_
 have bO := Zu hm
 subst r
 refine G ?_
 refine ⟨_, Yc Z, ?_⟩
 exact ⟨b3, (Zt (Zt (Zt (Zt (Zt y k) ar) au) n) aV), aN, Z⟩
theorem Qhb {w0 w : World} {s : PHeap} {H : List Res} {ab : (List Int)} {d : (List Int)} {i : Value} {j : Value} {r : Bool} (hm : YJ ab d = some r) (hS : St w0 s (H) w) (ac : SliceRep (U .i64) s i ab) (o : SliceRep (U .i64) s j d) :
  Calls Tryz.prog 54 #[i, j] w fun e w' => ∃ v, e = .returned v ∧ ((fun (a0 : Bool) => ∃ (x : PHeap) , PHeap.le s x ∧ St w0 x (H) w' ∧ v = Value.bool (a0)) r) := by
 unfold YJ at hm
 refine Qj Tryz.func54 Z Z (G ?_)
 rcases Qp hm with ⟨q, hm⟩ | ⟨q, hm⟩
 ·cases hm
  refine G ?_
  exact fr
 obtain ⟨p, ag, aq, ao, al⟩ := Qs hm
 refine W_c Z q (QaN (J3 (Ze (Zc (Zc (Zd (g ?_)))))))
 refine Qo (M := fun f' w' => ∃ s', (p = .next s' ∨ p = .brk s') ∧ (fun (_ : Unit) => ∃ (y : PHeap) , PHeap.le s y ∧ St w0 y (H) w' ∧ Fx f' [(0, i), (1, j), (12, O ((d.length : Int)))]) s') ?_ ?_
 ·refine G ?_
  refine QP (fun k' s' f' w' => (fun (_ : Unit) => ∃ (z : PHeap) , PHeap.le s z ∧ St w0 z (H) w' ∧ Fx f' [(13, O (k' : Int)), (0, i), (1, j), (12, O ((d.length : Int)))]) s') ag ?_ ?_ ?_
  ·exact fq
  ·intro av aT a4 a8 aZ aJ ah b ar
   obtain ⟨m, l, c, ⟨a9, rfl⟩⟩ := ah
   obtain ⟨n, a, b⟩ := V b
   refine Zc (Zd (g ?_))
   refine Zc (QaO (Zx (decide_eq_true (by omega))) (J3 (Ze (Zc (Qae (Zc (Zd (g ?_))))))))
   refine Zc (Qo (M := fun f' w' => (fun (n : Bool) => ∃ (aa : PHeap) , PHeap.le m aa ∧ St w0 aa (H) w' ∧ Fx f' [(0, i), (1, j), (12, O ((d.length : Int))), (13, O ((av : Int))), (31, Vb n)]) n) ?_ ?_)
   ·refine Jz (n0 := 16) (qs 0 16 .done) J2 (by kernel_rfl) (by kernel_rfl) ?_
    obtain ⟨bd, u, a⟩ := V a
    refine G ?_
    refine Qm S22.h Z Z Z (o.mono l) u ?_
    intro a1 aN ad a5
    refine ⟨Z, ?_⟩
    refine G ?_
    refine Zw (E := (U .i64)) c.drew A3.h Z Z Z ad ?_
    intro aW aw
    obtain rfl := Qf.1 aw
    refine ⟨Z, ?_⟩
    refine G ?_
    rcases Qp a with ⟨am, a⟩ | ⟨am, a⟩
    ·cases a
     refine G ?_
     exact ⟨m, (Zv _), c.drew, (Fx.mk)⟩
    refine G ?_
    refine Qm S22.h Z Z Z (o.mono l) u ?_
    intro a2 aO ae a6
    refine ⟨Z, ?_⟩
    refine G ?_
    refine Zw (E := (U .i64)) c.drew A3.h Z Z Z ae ?_
    intro aX ax
    obtain rfl := Qf.1 ax
    refine ⟨Z, ?_⟩
    obtain ⟨be, ay, a⟩ := V a
    refine G ?_
    refine Qm S22.h Z Z Z (ac.mono l) ay ?_
    intro a3 aP af a7
    refine ⟨Z, ?_⟩
    refine G ?_
    refine Zw (E := (U .i64)) c.drew A3.h Z Z Z af ?_
    intro aY az
    obtain rfl := Qf.1 az
    refine ⟨Z, ?_⟩
    cases a
    refine G ?_
    exact ⟨m, (Zv _), c.drew, (Fx.mk)⟩
   intro aA ba aj
   obtain ⟨aQ, aK, aG, ⟨aB, rfl⟩⟩ := aj
   refine G ?_
   rcases Qp b with ⟨an, b⟩ | ⟨an, b⟩
   ·cases b
    have ap := aq _ (ar (by intro _ h; cases h))
    cases ap
    refine G ?_
    exact fr
   cases b
   refine G ?_
   exact ⟨_, Z, fq⟩
  intro aU aC bb ai au
  obtain ⟨aR, aL, aH, ⟨aD, rfl⟩⟩ := ai
  refine G ?_
  exact ⟨_, .inl au, fq⟩
 rintro aE bc ⟨aV, t, ak⟩
 have hm := t.elim (ao _) (al _)
 clear t
 obtain ⟨aS, aM, aI, ⟨aF, rfl⟩⟩ := ak
 cases hm
 refine G ?_
 exact fr
theorem Qai {w0 w : World} {s : PHeap} {H : List Res} {y : (List Int)} {d : (List Fact)} {i : Value} {c : Value} {r : Bool} (hm : Kv y d = some r) (hS : St w0 s (H) w) (z : SliceRep (U .i64) s i y) (aa : SliceRep encFact s c d) :
  Calls Tryz.prog 55 #[i, c] w fun e w' => ∃ v, e = .returned v ∧ ((fun (a6 : Bool) => ∃ (q : PHeap) , PHeap.le s q ∧ St w0 q (H) w' ∧ v = Value.bool (a6)) r) := by
 unfold Kv at hm
 refine Qj Tryz.func55 Z Z ?_
 obtain ⟨l, ae, av, ar, ak⟩ := Qs hm
 refine Zc (Zd (g ?_))
 refine Zc (Zc (Zd (g ?_)))
 refine Qo (M := fun f' w' => ∃ s', (l = .next s' ∨ l = .brk s') ∧ (fun (_ : Unit) => ∃ (t : PHeap) , PHeap.le s t ∧ St w0 t (H) w' ∧ Fx f' [(0, i), (1, c), (7, c), (8, O ((d.length : Int)))]) s') ?_ ?_
 ·refine G ?_
  refine QP (fun k' s' f' w' => (fun (_ : Unit) => ∃ (u : PHeap) , PHeap.le s u ∧ St w0 u (H) w' ∧ Fx f' [(9, O (k' : Int)), (0, i), (1, c), (7, c), (8, O ((d.length : Int)))]) s') ae ?_ ?_ ?_
  ·exact fq
  ·intro ay ba aB aE bg aQ af b aw
   obtain ⟨a5, p, m, ⟨aF, rfl⟩⟩ := af
   obtain ⟨bm, az, b⟩ := V b
   refine G ?_
   refine Jt Z Z Z az ?_
   intro a7 aU ab
   refine G ?_
   refine Zw (E := encFact) m A77.h Z Z Z ab ?_
   intro bd a0
   obtain rfl := KH.1 a0
   refine G ?_
   refine Exec.alloc (cs := [O 0, O 0]) m Z77 Z Z ?_
   intro a8 bh aM
   refine G ?_
   refine JU Z Z Z ?_
   intro bi aj
   obtain ⟨j, a, b⟩ := V b
   refine g ?_
   refine Zc (Qo (M := fun f' w' => (fun (j : Bool) => ∃ (x : PHeap) , PHeap.le a5 x ∧ St w0 x (H) w' ∧ Fx f' [(0, i), (1, c), (7, c), (8, O ((d.length : Int))), (9, O ((ay : Int))), (53, Vb j)]) j) ?_ ?_)
   ·refine Jz (n0 := 40) (qs 0 40 .done) J2 (by kernel_rfl) (by kernel_rfl) ?_
    have n := aj.drew
    refine G ?_
    rcases Qp a with ⟨al, a⟩ | ⟨al, a⟩
    ·cases a
     refine G ?_
     exact fq
    refine G ?_
    rcases Qp a with ⟨am, a⟩ | ⟨am, a⟩
    ·cases a
     refine G ?_
     exact fq
    refine G ?_
    rcases Qp a with ⟨an, a⟩ | ⟨an, a⟩
    ·cases a
     refine G ?_
     exact fq
    obtain ⟨bn, a1, a⟩ := V a
    refine G ?_
    refine Qm S22.h Z Z Z (z.mono p) a1 ?_
    intro a9 aV ac aC
    refine ⟨Z, ?_⟩
    refine G ?_
    refine Zw (E := (U .i64)) n A3.h Z Z Z ac ?_
    intro be a2
    obtain rfl := Qf.1 a2
    refine ⟨Z, ?_⟩
    refine G ?_
    rcases Qp a with ⟨ao, a⟩ | ⟨ao, a⟩
    ·cases a
     refine G ?_
     exact fq
    refine G ?_
    rcases Qp a with ⟨ap, a⟩ | ⟨ap, a⟩
    ·obtain ⟨bo, a3, a⟩ := V a
     refine G ?_
     refine Qm S23.h Z Z Z (aa.mono p) a3 ?_
     intro aA aW ad aD
     refine ⟨Z, ?_⟩
     refine G ?_
     refine Zw (E := (U .i64)) n A3.h Z Z Z (ad.sub (Sub.iso (QkM (Sub.refl _))) Z) ?_
     intro bf a4
     obtain rfl := Qf.1 a4
     refine ⟨Z, ?_⟩
     cases a
     refine G ?_
     exact fq
    cases a
    refine G ?_
    exact fq
   intro aG bj ah
   obtain ⟨aX, aR, aN, ⟨aH, rfl⟩⟩ := ah
   refine G ?_
   rcases Qp b with ⟨aq, b⟩ | ⟨aq, b⟩
   ·cases b
    have au := av _ (aw (by intro _ h; cases h))
    cases au
    refine G ?_
    exact fr
   cases b
   refine G ?_
   exact ⟨_, Z, fq⟩
  intro bb aI bk ag ax
  obtain ⟨aY, aS, aO, ⟨aJ, rfl⟩⟩ := ag
  refine G ?_
  exact ⟨_, .inl ax, fq⟩
 rintro aK bl ⟨bc, o, ai⟩
 have hm := o.elim (ar _) (ak _)
 clear o
 obtain ⟨aZ, aT, aP, ⟨aL, rfl⟩⟩ := ai
 cases hm
 refine G ?_
 exact fr
theorem QeS {w0 w : World} {s : PHeap} {H : List Res} {ao : (List Int)} {b : Op} {l : Value} {q : Value} {m : Value} {r : Bool} (hm : Yo ao b = some r) (hS : St w0 s (H) w) (ap : SliceRep (U .i64) s l ao) (aq : SliceRep encFact s q b.Pre) (bn : SliceRep encEffect s m b.Effs) :
  Calls Tryz.prog 56 #[l, Value.agg #[Value.string (b.Name), O (b.Cost), q, m]] w fun e w' => ∃ v, e = .returned v ∧ ((fun (bm : Bool) => ∃ (ae : PHeap) , PHeap.le s ae ∧ St w0 ae (H) w' ∧ v = Value.bool (bm)) r) := by
 unfold Yo at hm
 refine Qj Tryz.func56 Z Z (G ?_)
 refine JY Z Z ?_
 intro n ct a5
 obtain ⟨t, a, hm⟩ := V hm
 refine g ?_
 refine Zc (Zc (Qo (M := fun f' w' => (fun (t : Bool) => ∃ (af : PHeap) , PHeap.le s af ∧ St w0 af (Res.box n 82 [Value.string (b.Name), O (b.Cost), q, m] :: H) w' ∧ Fx f' [(0, l), (3, Vq n), (34, Vb t)]) t) ?_ ?_))
 ·refine G ?_
  rcases Qp a with ⟨aF, a⟩ | ⟨aF, a⟩
  ·cases a
   refine G ?_
   exact fq
  refine G ?_
  rcases Qp a with ⟨aG, a⟩ | ⟨aG, a⟩
  ·cases a
   refine G ?_
   exact fq
  refine G ?_
  rcases Qp a with ⟨aH, a⟩ | ⟨aH, a⟩
  ·cases a
   refine G ?_
   exact fq
  refine G ?_
  refine Qa9 Tryz.underlying9 Z Z (G ?_)
  rcases Qp a with ⟨aI, a⟩ | ⟨aI, a⟩
  ·cases a
   refine G ?_
   exact fq
  obtain ⟨cA, bb, a⟩ := V a
  refine G ?_
  refine Tc Z Z Z Z (Qai bb a5 ap aq).r ?_
  rintro _ cu ⟨cb, bN, bC, rfl⟩
  cases a
  refine G ?_
  exact fq
 intro bt cv a0
 obtain ⟨ag, bO, bD, ⟨bu, rfl⟩⟩ := a0
 refine G ?_
 rcases Qp hm with ⟨aJ, hm⟩ | ⟨aJ, hm⟩
 ·cases hm
  refine G ?_
  exact fr
 refine G ?_
 refine Qa9 Tryz.underlying9 Z Z ?_
 obtain ⟨cp, bc, hm⟩ := V hm
 obtain ⟨y, au, aT, aP, aD⟩ := Qs hm
 refine g ?_
 refine Qo (M := fun f' w' => ∃ s', (y = .next s' ∨ y = .brk s') ∧ (fun (_ : Unit) => ∃ (ah : PHeap) , PHeap.le ag ah ∧ St w0 ah (Res.box n 82 [Value.string (b.Name), O (b.Cost), q, m] :: H) w' ∧ Fx f' [(0, l), (3, Vq n), (37, O ((b.Name.size : Int)))]) s') ?_ ?_
 ·refine G ?_
  refine QP (fun k' s' f' w' => (fun (_ : Unit) => ∃ (ai : PHeap) , PHeap.le ag ai ∧ St w0 ai (Res.box n 82 [Value.string (b.Name), O (b.Cost), q, m] :: H) w' ∧ Fx f' [(38, O (k' : Int)), (0, l), (3, Vq n), (37, O ((b.Name.size : Int)))]) s') au ?_ ?_ ?_
  ·exact fq
  ·intro aZ cj br bv cw aO aw o aV
   obtain ⟨bj, bP, bE, ⟨bw, rfl⟩⟩ := aw
   obtain ⟨u, p, o⟩ := V o
   refine Zc (Zd (g ?_))
   refine Zc (QaO (Zx (decide_eq_true (by omega))) (J3 (Ze (Zc (Qae (Zc (Zd (g ?_))))))))
   refine Zc (Qo (M := fun f' w' => (fun (u : Bool) => ∃ (aj : PHeap) , PHeap.le bj aj ∧ St w0 aj (Res.box n 82 [Value.string (b.Name), O (b.Cost), q, m] :: H) w' ∧ Fx f' [(0, l), (3, Vq n), (37, O ((b.Name.size : Int))), (38, O ((aZ : Int))), (52, Vb u)]) u) ?_ ?_)
   ·obtain ⟨c9, ad, p⟩ := V p
    refine G ?_
    refine QaB Tryz.underlying9 Z Z Z ad (G ?_)
    rcases Qp p with ⟨aK, p⟩ | ⟨aK, p⟩
    ·cases p
     refine G ?_
     exact fq
    refine G ?_
    refine QaB Tryz.underlying9 Z Z Z ad ?_
    cases p
    refine G ?_
    exact fq
   intro bx cx a1
   obtain ⟨bk, bQ, a6, ⟨bz, rfl⟩⟩ := a1
   refine G ?_
   rcases Qp o with ⟨aL, o⟩ | ⟨aL, o⟩
   ·cases o
    have aR := aT _ (aV (by intro _ h; cases h))
    cases aR
    refine G ?_
    exact fr
   cases o
   refine G ?_
   refine ⟨_, Z, ?_⟩; exact ⟨bk, lq, a6, (Fx.mk (FxL.cons (QD aO (by have h := Qr bc; simp at h; simp only [maxLen]; omega)) fxl))⟩
  intro ck b0 cy ax aW
  obtain ⟨cc, bR, bF, ⟨b1, rfl⟩⟩ := ax
  refine G ?_
  exact ⟨_, .inl aW, fq⟩
 rintro b2 cz ⟨cl, ab, a2⟩
 have hm := ab.elim (aP _) (aD _)
 clear ab
 obtain ⟨ak, bS, a7, ⟨b3, rfl⟩⟩ := a2
 obtain ⟨z, av, aU, aQ, aE⟩ := Qs hm
 refine g ?_
 refine Zc (Zc (Zd (g ?_)))
 refine Qo (M := fun f' w' => ∃ s', (z = .next s' ∨ z = .brk s') ∧ (fun (_ : Unit) => ∃ (al : PHeap) , PHeap.le ak al ∧ St w0 al (H) w' ∧ Fx f' [(0, l), (55, m), (56, O ((b.Effs.length : Int)))]) s') ?_ ?_
 ·refine G ?_
  refine QP (fun k' s' f' w' => (fun (_ : Unit) => ∃ (am : PHeap) , PHeap.le ak am ∧ St w0 am (H) w' ∧ Fx f' [(57, O (k' : Int)), (0, l), (55, m), (56, O ((b.Effs.length : Int)))]) s') av ?_ ?_ ?_
  ·have bG := a7.drop
   exact fq
  ·intro ba cm bs b4 c0 bM ay i aX
   obtain ⟨bl, bT, aa, ⟨b5, rfl⟩⟩ := ay
   obtain ⟨d, bd, i⟩ := V i
   refine G ?_
   refine Jt Z Z Z bd ?_
   intro bo ca ar
   refine G ?_
   refine Zw (E := encEffect) aa A79.h Z Z Z ar ?_
   intro cr be
   obtain ⟨cq, rfl, bh⟩ := Yv.1 be
   refine G ?_
   refine Exec.alloc (cs := [Vn, O 0, O 0]) aa Z79 Z Z ?_
   intro bp c1 bH
   refine G ?_
   refine JU Z Z Z ?_
   intro c2 a8
   obtain ⟨x, j, i⟩ := V i
   refine g ?_
   refine Zc (Qo (M := fun f' w' => (fun (x : Bool) => ∃ (an : PHeap) , PHeap.le bl an ∧ St w0 an (H) w' ∧ Fx f' [(0, l), (55, m), (56, O ((b.Effs.length : Int))), (57, O ((ba : Int))), (76, Vb x)]) x) ?_ ?_)
   ·obtain ⟨cB, bf, j⟩ := V j
    refine G ?_
    refine Tc Z Z Z Z (Qai bf a8 rq bh).r ?_
    rintro _ c3 ⟨cd, bU, a9, rfl⟩
    refine G ?_
    rcases Qp j with ⟨aM, j⟩ | ⟨aM, j⟩
    ·cases j
     refine G ?_
     exact fq
    refine G ?_
    refine Exec.build Z (Qc (c := [O (d.Var)]) (Qe Z Z) (Qc (c := [O (d.Val)]) (Qe Z Z) Qh)) (v := Value.agg #[O (d.Var), O (d.Val)]) (fun _ => by kernel_rfl) (G ?_)
    refine Exec.buildSlice (Te := 77) (cs := [O (d.Var), O (d.Val)]) a9 Z (Qc (c := [O (d.Var), O (d.Val)]) (Qe Z Z) Qh) (fun _ => by kernel_rfl) ?_
    intro bq c4 aA
    have aB := St.boxArr (E := encFact) (xs := [(⟨d.Var, d.Val⟩ : Fact)]) aA ⟨[O (d.Var), O (d.Val)], [], rfl, ⟨[O (d.Var)], [O (d.Val)], rfl, rfl, rfl⟩, rfl⟩ (by simp [maxLen])
    obtain ⟨ce, bV, aC, bi⟩ := aB.freezeArr
    obtain ⟨cC, bg, j⟩ := V j
    refine G ?_
    refine Tc Z Z Z Z (Qai bg aC rq bi).r ?_
    rintro _ c5 ⟨cf, bW, bI, rfl⟩
    cases j
    refine G ?_
    exact fq
   intro b6 c6 a3
   obtain ⟨cg, bX, bJ, ⟨b7, rfl⟩⟩ := a3
   refine G ?_
   rcases Qp i with ⟨aN, i⟩ | ⟨aN, i⟩
   ·cases i
    have aS := aU _ (aX (by intro _ h; cases h))
    cases aS
    refine G ?_
    exact fr
   cases i
   refine G ?_
   exact ⟨_, Z, fq⟩
  intro cn b8 c7 az aY
  obtain ⟨ch, bY, bK, ⟨b9, rfl⟩⟩ := az
  refine G ?_
  exact ⟨_, .inl aY, fq⟩
 rintro bA c8 ⟨co, ac, a4⟩
 have hm := ac.elim (aQ _) (aE _)
 clear ac
 obtain ⟨ci, bZ, bL, ⟨bB, rfl⟩⟩ := a4
 cases hm
 refine G ?_
 exact fr
theorem Qhx {w0 w : World} {s : PHeap} {H : List Res} {b : Task} {c : Value} {l : Value} {m : Value} {d : Value} {r : Bool} (hm : Qbo b = some r) (hS : St w0 s (H) w) (aY : SliceRep (U .i64) s c b.Vars) (aZ : SliceRep (U .i64) s l b.Init) (ba : SliceRep encFact s m b.Goal) (bb : SliceRep encOp s d b.Ops) :
  Calls Tryz.prog 30 #[Value.agg #[c, l, m, d]] w fun e w' => ∃ v, e = .returned v ∧ ((fun (aX : Bool) => ∃ (ab : PHeap) , PHeap.le s ab ∧ St w0 ab (H) w' ∧ v = Value.bool (aX)) r) := by
 unfold Qbo at hm
 refine Qj Tryz.func30 Z Z (G ?_)
 refine JY Z Z ?_
 intro a cj b0
 refine g ?_
 refine Zc (Zc (Qo (M := fun f' w' => ∃ (ac : PHeap) , PHeap.le s ac ∧ St w0 ac (Res.box a 26 [c, l, m, d] :: H) w' ∧ Fx f' [(1, Vq a), (16, Vb (((decide (64 < (b.Vars.length : Int))) || decide (4096 < (b.Ops.length : Int)))))]) ?_ ?_))
 ·refine G ?_
  rcases tf (decide (64 < (b.Vars.length : Int))) with a6 | a6
  ·refine G ?_
   exact fq
  refine G ?_
  exact fq
 intro bh ck av
 obtain ⟨ad, bD, b1, ⟨bi, rfl⟩⟩ := av
 refine G ?_
 rcases Qp hm with ⟨x, hm⟩ | ⟨x, hm⟩
 ·cases hm
  refine G ?_
  exact fr
 obtain ⟨q, an, aF, aB, a4⟩ := Qs hm
 refine W_c Z x (QaN (J3 (Ze (Zc (Zc (Zd (g ?_)))))))
 refine Qo (M := fun f' w' => ∃ s', (q = .next s' ∨ q = .brk s') ∧ (fun (_ : Unit) => ∃ (ae : PHeap) , PHeap.le ad ae ∧ St w0 ae (Res.box a 26 [c, l, m, d] :: H) w' ∧ Fx f' [(1, Vq a), (18, c), (19, O ((b.Vars.length : Int)))]) s') ?_ ?_
 ·refine G ?_
  refine QP (fun k' s' f' w' => (fun (_ : Unit) => ∃ (af : PHeap) , PHeap.le ad af ∧ St w0 af (Res.box a 26 [c, l, m, d] :: H) w' ∧ Fx f' [(20, O (k' : Int)), (1, Vq a), (18, c), (19, O ((b.Vars.length : Int)))]) s') an ?_ ?_ ?_
  ·exact fq
  ·intro aL bZ bf bj cl bA ap n aH
   obtain ⟨aV, bE, a0, ⟨bk, rfl⟩⟩ := ap
   obtain ⟨o, aM, n⟩ := V n
   refine G ?_
   refine Jt Z Z Z aM ?_
   intro bc bP al
   refine G ?_
   refine Zw (E := (U .i64)) a0 A3.h Z Z Z al ?_
   intro ch aN
   obtain rfl := Qf.1 aN
   refine g ?_
   refine Zc (Qo (M := fun f' w' => ∃ (ag : PHeap) , PHeap.le aV ag ∧ St w0 ag (Res.box a 26 [c, l, m, d] :: H) w' ∧ Fx f' [(1, Vq a), (18, c), (19, O ((b.Vars.length : Int))), (20, O ((aL : Int))), (29, Vb (((decide (o < 1)) || decide (64 < o))))]) ?_ ?_)
   ·refine G ?_
    rcases tf (decide (o < 1)) with a7 | a7
    ·refine G ?_
     exact fq
    refine G ?_
    exact fq
   intro bl cm aw
   obtain ⟨bR, bF, b2, ⟨bm, rfl⟩⟩ := aw
   refine G ?_
   rcases Qp n with ⟨a8, n⟩ | ⟨a8, n⟩
   ·cases n
    have aD := aF _ (aH (by intro _ h; cases h))
    cases aD
    refine G ?_
    exact fr
   cases n
   refine G ?_
   exact ⟨_, Z, fq⟩
  intro ca bn cn aq aI
  obtain ⟨bS, bG, b3, ⟨bo, rfl⟩⟩ := aq
  refine G ?_
  exact ⟨_, .inl aI, fq⟩
 rintro bp co ⟨cb, y, ax⟩
 have hm := y.elim (aB _) (a4 _)
 clear y
 obtain ⟨aW, bH, a1, ⟨bq, rfl⟩⟩ := ax
 obtain ⟨p, j, hm⟩ := V hm
 refine g ?_
 refine Zc (Zc (Qo (M := fun f' w' => (fun (p : Bool) => ∃ (ah : PHeap) , PHeap.le aW ah ∧ St w0 ah (Res.box a 26 [c, l, m, d] :: H) w' ∧ Fx f' [(1, Vq a), (44, Vb p)]) p) ?_ ?_))
 ·obtain ⟨c0, aO, j⟩ := V j
  refine G ?_
  refine Tc Z Z Z Z (Qhb aO a1 rq rq).r ?_
  rintro _ cp ⟨bT, bI, a2, rfl⟩
  refine G ?_
  rcases Qp j with ⟨a9, j⟩ | ⟨a9, j⟩
  ·cases j
   refine G ?_
   exact fq
  obtain ⟨c1, aP, j⟩ := V j
  refine G ?_
  refine Tc Z Z Z Z (Qai aP a2 rq rq).r ?_
  rintro _ cq ⟨bU, bJ, b4, rfl⟩
  cases j
  refine G ?_
  exact fq
 intro br cr ay
 obtain ⟨ai, bK, b5, ⟨bs, rfl⟩⟩ := ay
 refine G ?_
 rcases Qp hm with ⟨z, hm⟩ | ⟨z, hm⟩
 ·cases hm
  refine G ?_
  exact fr
 obtain ⟨t, ao, aG, aC, a5⟩ := Qs hm
 refine W_c Z z (QaN (J3 (Ze (Zc (Zc (Zd (g ?_)))))))
 refine Qo (M := fun f' w' => ∃ s', (t = .next s' ∨ t = .brk s') ∧ (fun (_ : Unit) => ∃ (aj : PHeap) , PHeap.le ai aj ∧ St w0 aj (Res.box a 26 [c, l, m, d] :: H) w' ∧ Fx f' [(1, Vq a), (46, d), (47, O ((b.Ops.length : Int)))]) s') ?_ ?_
 ·refine G ?_
  refine QP (fun k' s' f' w' => (fun (_ : Unit) => ∃ (ak : PHeap) , PHeap.le ai ak ∧ St w0 ak (Res.box a 26 [c, l, m, d] :: H) w' ∧ Fx f' [(48, O (k' : Int)), (1, Vq a), (46, d), (47, O ((b.Ops.length : Int)))]) s') ao ?_ ?_ ?_
  ·exact fq
  ·intro bC cc bg bt ct bB ar i aJ
   obtain ⟨bV, bL, u, ⟨bu, rfl⟩⟩ := ar
   obtain ⟨cz, aQ, i⟩ := V i
   refine G ?_
   refine Jt Z Z Z aQ ?_
   intro bd bQ am
   refine G ?_
   refine Zw (E := encOp) u A82.h Z Z Z am ?_
   intro ci aR
   obtain ⟨cf, cg, rfl, aT, aU⟩ := Ys.1 aR
   refine G ?_
   refine Exec.alloc (cs := [Value.string (⟨#[]⟩), O 0, Vn, Vn]) u Z82 Z Z ?_
   intro be cu b6
   refine G ?_
   refine JU Z Z Z ?_
   intro cv a3
   obtain ⟨c2, aS, i⟩ := V i
   refine G ?_
   refine Tc Z Z Z Z (QeS aS a3 rq aT aU).r ?_
   rintro _ cw ⟨bW, bM, b7, rfl⟩
   refine G ?_
   rcases Qp i with ⟨aA, i⟩ | ⟨aA, i⟩
   ·cases i
    have aE := aG _ (aJ (by intro _ h; cases h))
    cases aE
    refine G ?_
    exact fr
   cases i
   refine G ?_
   exact ⟨_, Z, fq⟩
  intro cd bv cx au aK
  obtain ⟨bX, bN, b8, ⟨bw, rfl⟩⟩ := au
  refine G ?_
  exact ⟨_, .inl aK, fq⟩
 rintro bx cy ⟨ce, aa, az⟩
 have hm := aa.elim (aC _) (a5 _)
 clear aa
 obtain ⟨bY, bO, b9, ⟨bz, rfl⟩⟩ := az
 cases hm
 refine G ?_
 exact fr
theorem QdV {w0 w : World} {s : PHeap} {H : List Res} {d : (List Int)} {b : Int} {c : Value} {r : Int} (hm : Y6 d b = some r) (hS : St w0 s (H) w) (ak : SliceRep (U .i64) s c d) :
  Calls Tryz.prog 16 #[c, O b] w fun e w' => ∃ v, e = .returned v ∧ ((fun (aj : Int) => ∃ (n : PHeap) , PHeap.le s n ∧ St w0 n (H) w' ∧ v = O aj) r) := by
 unfold Y6 at hm
 refine Qj Tryz.func16 Z Z ?_
 obtain ⟨j, t, ae, ac, aa⟩ := Qs hm
 refine Zc (Zd (g ?_))
 refine Zc (Zd (g ?_))
 refine Zc (Zc (Zd (g ?_)))
 refine Qo (M := fun f' w' => ∃ s', (j = .next s' ∨ j = .brk s') ∧ (fun (m : Int) => ∃ (o : PHeap) , PHeap.le s o ∧ St w0 o (H) w' ∧ Fx f' [(1, O b), (5, O m), (8, c), (9, O ((d.length : Int)))]) s') ?_ ?_
 ·refine G ?_
  refine QP (fun k' s' f' w' => (fun (i : Int) => ∃ (p : PHeap) , PHeap.le s p ∧ St w0 p (H) w' ∧ Fx f' [(10, O (k' : Int)), (1, O b), (5, O i), (8, c), (9, O ((d.length : Int)))]) s') t ?_ ?_ ?_
  ·exact fq
  ·intro ay i am an a7 ax u a af
   obtain ⟨a3, az, z, ⟨ao, rfl⟩⟩ := u
   obtain ⟨aA, ah, a⟩ := V a
   refine G ?_
   refine Jt Z Z Z ah ?_
   intro al a2 q
   refine G ?_
   refine Zw (E := (U .i64)) z A3.h Z Z Z q ?_
   intro a6 ai
   obtain rfl := Qf.1 ai
   refine G ?_
   refine QaQ Z Z Z (G ?_)
   refine QdC Z Z Z (G ?_)
   rcases Qp a with ⟨ab, a⟩ | ⟨ab, a⟩
   ·cases a
    have ad := ae _ (af (by intro _ h; cases h))
    cases ad
    refine G ?_
    exact fr
   cases a
   refine G ?_
   exact ⟨_, Z, fq⟩
  intro i ap a8 x ag
  obtain ⟨a4, a0, av, ⟨aq, rfl⟩⟩ := x
  refine G ?_
  exact ⟨_, .inl ag, fq⟩
 rintro ar a9 ⟨m, l, y⟩
 have hm := l.elim (ac _) (aa _)
 clear l
 obtain ⟨a5, a1, aw, ⟨au, rfl⟩⟩ := y
 cases hm
 refine G ?_
 exact fr
theorem Qhc {w0 w : World} {s : PHeap} {H : List Res} {a : Task} {j : Value} {l : Value} {m : Value} {d : Value} {r : Bool} (hm : Qa5 a = some r) (hS : St w0 s (H) w) (a2 : SliceRep (U .i64) s j a.Vars) (a3 : SliceRep (U .i64) s l a.Init) (a4 : SliceRep encFact s m a.Goal) (a5 : SliceRep encOp s d a.Ops) :
  Calls Tryz.prog 15 #[Value.agg #[j, l, m, d]] w fun e w' => ∃ v, e = .returned v ∧ ((fun (a1 : Bool) => ∃ (u : PHeap) , PHeap.le s u ∧ St w0 u (H) w' ∧ v = Value.bool (a1)) r) := by
 unfold Qa5 at hm
 refine Qj Tryz.func15 Z Z (G ?_)
 refine JY Z Z ?_
 intro i bn aJ
 refine g ?_
 refine Zc (Zc (Qo (M := fun f' w' => ∃ (x : PHeap) , PHeap.le s x ∧ St w0 x (Res.box i 26 [j, l, m, d] :: H) w' ∧ Fx f' [(1, Vq i), (14, Vb (((decide (12 < (a.Vars.length : Int))) || decide (20 < (a.Ops.length : Int)))))]) ?_ ?_))
 ·refine G ?_
  rcases tf (decide (12 < (a.Vars.length : Int))) with am | am
  ·refine G ?_
   exact fq
  refine G ?_
  exact fq
 intro a9 bo ag
 obtain ⟨y, aS, aK, ⟨aA, rfl⟩⟩ := ag
 refine G ?_
 rcases Qp hm with ⟨q, hm⟩ | ⟨q, hm⟩
 ·cases hm
  refine G ?_
  exact fr
 obtain ⟨o, ad, ar, ap, al⟩ := Qs hm
 refine W_c Z q (QaN (J3 (Ze (Zc (Zc (Zd (g ?_)))))))
 refine Qo (M := fun f' w' => ∃ s', (o = .next s' ∨ o = .brk s') ∧ (fun (_ : Unit) => ∃ (z : PHeap) , PHeap.le y z ∧ St w0 z (Res.box i 26 [j, l, m, d] :: H) w' ∧ Fx f' [(1, Vq i), (16, d), (17, O ((a.Ops.length : Int)))]) s') ?_ ?_
 ·refine G ?_
  refine QP (fun k' s' f' w' => (fun (_ : Unit) => ∃ (aa : PHeap) , PHeap.le y aa ∧ St w0 aa (Res.box i 26 [j, l, m, d] :: H) w' ∧ Fx f' [(18, O (k' : Int)), (1, Vq i), (16, d), (17, O ((a.Ops.length : Int)))]) s') ad ?_ ?_ ?_
  ·exact fq
  ·intro aR bh a8 aB bp aQ ae c au
   obtain ⟨bc, aT, p, ⟨aC, rfl⟩⟩ := ae
   obtain ⟨bx, aw, c⟩ := V c
   refine G ?_
   refine Jt Z Z Z aw ?_
   intro a6 aZ ac
   refine G ?_
   refine Zw (E := encOp) p A82.h Z Z Z ac ?_
   intro bm ax
   obtain ⟨bk, bl, rfl, ba, bb⟩ := Ys.1 ax
   refine G ?_
   refine Exec.alloc (cs := [Value.string (⟨#[]⟩), O 0, Vn, Vn]) p Z82 Z Z ?_
   intro a7 bq aL
   refine G ?_
   refine JU Z Z Z ?_
   intro br aM
   refine G ?_
   rcases Qp c with ⟨an, c⟩ | ⟨an, c⟩
   ·cases c
    have aq := ar _ (au (by intro _ h; cases h))
    cases aq
    refine G ?_
    exact fr
   cases c
   refine G ?_
   exact ⟨_, Z, fq⟩
  intro bi aD bs af av
  obtain ⟨bd, aU, aN, ⟨aE, rfl⟩⟩ := af
  refine G ?_
  exact ⟨_, .inl av, fq⟩
 rintro aF bt ⟨bj, t, ah⟩
 have hm := t.elim (ap _) (al _)
 clear t
 obtain ⟨a0, aV, aj, ⟨aG, rfl⟩⟩ := ah
 obtain ⟨n, b, hm⟩ := V hm
 refine g ?_
 refine Zc (Qo (M := fun f' w' => (fun (n : Bool) => ∃ (ab : PHeap) , PHeap.le a0 ab ∧ St w0 ab (H) w' ∧ Fx f' [(2, Vb n)]) n) ?_ ?_)
 ·obtain ⟨bz, ay, b⟩ := V b
  refine G ?_
  refine Tc Z Z Z Z (Qhx ay aj rq rq rq rq).r ?_
  rintro _ bu ⟨be, aW, ak, rfl⟩
  refine G ?_
  rcases Qp b with ⟨ao, b⟩ | ⟨ao, b⟩
  ·obtain ⟨b0, az, b⟩ := V b
   refine G ?_
   refine Tc Z Z Z Z (QdV az ak rq).r ?_
   rintro _ bv ⟨bf, aX, aO, rfl⟩
   cases b
   refine G ?_
   exact fq
  cases b
  refine G ?_
  exact fq
 intro aH bw ai
 obtain ⟨bg, aY, aP, ⟨aI, rfl⟩⟩ := ai
 cases hm
 refine G ?_
 exact fr
theorem Qhu {w0 w : World} {s : PHeap} {H : List Res} {b : Task} {i : Value} {j : Value} {k : Value} {l : Value} {r : Bool} (hm : Qbn b = some r) (hS : St w0 s (H) w) (m : SliceRep (U .i64) s i b.Vars) (n : SliceRep (U .i64) s j b.Init) (o : SliceRep encFact s k b.Goal) (p : SliceRep encOp s l b.Ops) :
  Calls Tryz.prog 5 #[Value.agg #[i, j, k, l]] w fun e w' => ∃ v, e = .returned v ∧ ((fun (ac : Bool) => ∃ (d : PHeap) , PHeap.le s d ∧ St w0 d (H) w' ∧ v = Value.bool (ac)) r) := by
 unfold Qbn at hm
 refine Qj Tryz.func5 Z Z (G ?_)
 refine JY Z Z ?_
 intro ad ao t
 obtain ⟨c, a, hm⟩ := V hm
 refine g ?_
 refine Zc (Qo (M := fun f' w' => (fun (c : Bool) => ∃ (h : PHeap) , PHeap.le s h ∧ St w0 h (H) w' ∧ Fx f' [(2, Vb c)]) c) ?_ ?_)
 ·obtain ⟨au, aa, a⟩ := V a
  refine G ?_
  refine Tc Z Z Z Z (Qhc aa t m n o p).r ?_
  rintro _ ap ⟨al, ai, u, rfl⟩
  refine G ?_
  rcases Qp a with ⟨x, a⟩ | ⟨x, a⟩
  ·refine G ?_
   rcases Qp a with ⟨y, a⟩ | ⟨y, a⟩
   ·obtain ⟨av, ab, a⟩ := V a
    refine G ?_
    refine Tc Z Z Z Z (QdV ab u rq).r ?_
    rintro _ aq ⟨am, aj, ag, rfl⟩
    refine G ?_
    rcases Qp a with ⟨z, a⟩ | ⟨z, a⟩
    ·cases a
     refine G ?_
     exact fq
    cases a
    refine G ?_
    exact fq
   cases a
   refine G ?_
   exact fq
  cases a
  refine G ?_
  exact fq
 intro ae ar q
 obtain ⟨an, ak, ah, ⟨af, rfl⟩⟩ := q
 cases hm
 refine G ?_
 exact fr
theorem QfK {w0 w : World} {s : PHeap} {H : List Res} {l : (List Int)} {c : Int} {a : Value} {r : Bool} (hm : YZ l c = some r) (hS : St w0 s (H) w) (a4 : SliceRep (U .i64) s a l) :
  Calls Tryz.prog 6 #[a, O c] w fun e w' => ∃ v, e = .returned v ∧ ((fun (a3 : Bool) => ∃ (t : PHeap) , PHeap.le s t ∧ St w0 t (H) w' ∧ v = Value.bool (a3)) r) := by
 unfold YZ at hm
 refine Qj Tryz.func6 Z Z (G ?_)
 rcases Qp hm with ⟨p, hm⟩ | ⟨p, hm⟩
 ·cases hm
  refine G ?_
  exact fr
 obtain ⟨bc, ax, hm⟩ := V hm
 obtain ⟨o, ab, ar, ap, al⟩ := Qs hm
 refine W_c Z p (QaN (J3 (Ze (Zc (Zc (Zd (g ?_)))))))
 refine Qo (M := fun f' w' => ∃ s', (o = .next s' ∨ o = .brk s') ∧ (fun (_ : Unit) => ∃ (u : PHeap) , PHeap.le s u ∧ St w0 u (H) w' ∧ Fx f' [(0, a), (13, O c)]) s') ?_ ?_
 ·refine G ?_
  refine QP (fun k' s' f' w' => (fun (_ : Unit) => ∃ (x : PHeap) , PHeap.le s x ∧ St w0 x (H) w' ∧ Fx f' [(14, O (k' : Int)), (0, a), (13, O c)]) s') ab ?_ ?_ ?_
  ·exact fq
  ·intro j aZ a6 a7 be ao ad b au
   obtain ⟨a0, aO, aJ, ⟨a8, rfl⟩⟩ := ad
   obtain ⟨m, ac, b⟩ := V b
   refine G ?_
   refine QH (fun k' s' f' w' => (fun (m : Int) => ∃ (y : PHeap) , PHeap.le a0 y ∧ St w0 y (H) w' ∧ Fx f' [(19, O (k' : Int)), (0, a), (5, O ((j : Int))), (6, O m), (13, O c), (14, O ((j : Int))), (17, a), (18, O ((l.length : Int)))]) s') ac ?_ ?_ ?_
   ·exact fq
   ·intro aw m aV a9 bf aN ae d
    obtain ⟨a1, aP, aj, ⟨aA, rfl⟩⟩ := ae
    obtain ⟨bk, ay, d⟩ := V d
    refine G ?_
    refine Jt Z Z Z ay ?_
    intro a5 aU aa
    refine G ?_
    refine Zw (E := (U .i64)) aj A3.h Z Z Z aa ?_
    intro bd az
    obtain rfl := Qf.1 az
    obtain ⟨n, i, d⟩ := V d
    refine g ?_
    refine Zc (Zd (g ?_))
    refine Qo (M := fun f' w' => (fun (n : Int) => ∃ (z : PHeap) , PHeap.le a1 z ∧ St w0 z (H) w' ∧ Fx f' [(0, a), (5, O ((j : Int))), (6, O n), (13, O c), (14, O ((j : Int))), (17, a), (18, O ((l.length : Int))), (19, O ((aw : Int)))]) n) ?_ ?_
    ·rcases Qp i with ⟨am, i⟩ | ⟨am, i⟩
     ·cases i
      refine G ?_
      exact fq
     cases i
     refine G ?_
     exact fq
    intro aB bg ah
    obtain ⟨aW, aQ, aK, ⟨aC, rfl⟩⟩ := ah
    cases d
    refine G ?_
    exact fq
   intro aD bh af
   obtain ⟨a2, aR, ak, ⟨aE, rfl⟩⟩ := af
   refine G ?_
   rcases Qp b with ⟨an, b⟩ | ⟨an, b⟩
   ·cases b
    have aq := ar _ (au (by intro _ h; cases h))
    cases aq
    refine G ?_
    exact fr
   cases b
   refine G ?_
   refine ⟨_, Z, ?_⟩; exact ⟨a2, lq, ak, (Fx.mk (FxL.cons (QD ao (by have h := Qr ax; simp at h; simp only [maxLen]; omega)) fxl))⟩
  intro ba aF bi ag av
  obtain ⟨aX, aS, aL, ⟨aG, rfl⟩⟩ := ag
  refine G ?_
  exact ⟨_, .inl av, fq⟩
 rintro aH bj ⟨bb, q, ai⟩
 have hm := q.elim (ap _) (al _)
 clear q
 obtain ⟨aY, aT, aM, ⟨aI, rfl⟩⟩ := ai
 cases hm
 refine G ?_
 exact fr
theorem Z40 : Jp Tryz.prog 40 = some (Value.agg #[O 0, O 0, Value.slice none 0 0, Value.slice none 0 0, Value.slice none 0 0, Value.slice none 0 0, Value.bool false]) := by kernel_rfl
theorem QdW {w0 w : World} {s : PHeap} {H : List Res} {c : Int} {b : Int} {a : Int} {r : Int} (hm : Qas c b a = some r) (hS : St w0 s (H) w) :
  Calls Tryz.prog 25 #[O c, O b, O a] w fun e w' => ∃ v, e = .returned v ∧ ((fun (f : Int) => ∃ (d : PHeap) , PHeap.le s d ∧ St w0 d (H) w' ∧ v = O f) r) := by
 unfold Qas at hm
 refine Qj Tryz.func25 Z Z (G ?_)
 refine QdC Z Z Z (G ?_)
 refine QaQ Z Z Z ?_
 cases hm
 refine G ?_
 exact fr
theorem Qbz {w0 w : World} {s : PHeap} {H : List Res} {m : (List Int)} {j : Value} {r : (List (List Int))} (hm : KR m = some r) (hS : St w0 s (H) w) (aW : SliceRep (U .i64) s j m) :
  Calls Tryz.prog 12 #[j] w fun e w' => ∃ v, e = .returned v ∧ ((fun (aV : (List (List Int))) => ∃ (z : PHeap) (ai : Value), PHeap.le s z ∧ St w0 z (H) w' ∧ v = ai ∧ SliceRep (Qu (U .i64)) z ai aV) r) := by
 unfold KR at hm
 refine Qj Tryz.func12 Z Z (G ?_)
 refine Exec.buildSlice (Te := 3) (cs := []) hS Z Qh (fun _ => by kernel_rfl) ?_
 intro t bL av
 have aw := St.boxArr (E := (U .i64)) (xs := []) av rfl (by simp [maxLen])
 obtain ⟨aM, bx, ax, aL⟩ := aw.freezeArr
 refine G ?_
 refine Exec.buildSlice (Te := 22) (cs := [Vs (some ⟨t, 0, none⟩) 0 0]) ax Z (Qc (c := [Vs (some ⟨t, 0, none⟩) 0 0]) (Qe Z Z) Qh) (fun _ => by kernel_rfl) ?_
 intro aX bM ay
 obtain ⟨g, ak, hm⟩ := V hm
 refine G ?_
 refine QH (fun k' s' f' w' => (fun (g : (List (List Int))) => ∃ (af : PHeap) (a : Value), PHeap.le aM af ∧ St w0 af (Res.arr (Qu (U .i64)) 22 a g :: H) w' ∧ Fx f' [(14, O (k' : Int)), (3, a), (12, j), (13, O ((m.length : Int)))]) s') ak ?_ ?_ ?_
 ·have br := St.boxArr (E := (Qu (U .i64))) (xs := [[]]) ay ⟨[Vs (some ⟨t, 0, none⟩) 0 0], [], rfl, ⟨_, rfl, aL⟩, rfl⟩ (by simp [maxLen])
  exact fq
 ·intro ad g bC be bN bw an i
  obtain ⟨aN, a, bz, n, ⟨bf, rfl⟩⟩ := an
  obtain ⟨ab, aE, i⟩ := V i
  refine G ?_
  refine Jt Z Z Z aE ?_
  intro aY b9 aj
  refine G ?_
  refine Zw (E := (U .i64)) n A3.h Z Z Z aj ?_
  intro bJ aF
  obtain rfl := Qf.1 aF
  refine G ?_
  refine Qw (n) S44.h Z Z ?_
  obtain ⟨y, al, i⟩ := V i
  refine G ?_
  refine QH (fun k' s' f' w' => (fun (y : (List (List Int))) => ∃ (ag : PHeap) (q : Value), PHeap.le aN ag ∧ St w0 ag (Res.arr (Qu (U .i64)) 22 q y :: Res.arr (Qu (U .i64)) 22 a g :: H) w' ∧ Fx f' [(20, O (k' : Int)), (5, O ab), (6, q), (12, j), (13, O ((m.length : Int))), (14, O ((ad : Int))), (18, a), (19, O ((g.length : Int)))]) s') al ?_ ?_ ?_
  ·have bs := n.nilArr (Qu (U .i64)) 22
   exact fq
  ·intro aC y aO bg bO aA ao b
   obtain ⟨aP, q, b0, u, ⟨bh, rfl⟩⟩ := ao
   obtain ⟨aU, p, b⟩ := V b
   obtain ⟨bq, bc, ac⟩ := (u.f1).arr_at p
   refine G ?_
   refine Qb S44.h Z ac Z (Qd p).1 (Qd p).2.1 (G ?_)
   refine Qg (F := (Qu (U .i64))) (u.f1) ac A22.h Z Z Z p (Sub.refl _) ?_
   intro aS aG
   have bA := Jb.1 aG
   obtain ⟨bI, aH, b⟩ := V b
   obtain ⟨x, am, b⟩ := V b
   refine G ?_
   refine QH (fun k' s' f' w' => (fun (x : (List (List Int))) => ∃ (ah : PHeap) (l : Value), PHeap.le aP ah ∧ St w0 ah (Res.arr (Qu (U .i64)) 22 l x :: Res.arr (Qu (U .i64)) 22 a g :: H) w' ∧ Fx f' [(25, O (k' : Int)), (5, O ab), (6, l), (8, aS), (12, j), (13, O ((m.length : Int))), (14, O ((ad : Int))), (18, a), (19, O ((g.length : Int))), (20, O ((aC : Int))), (24, O ab)]) s') am ?_ ?_ ?_
   ·have bt := u.f1
    exact fq
   ·intro o x bD bi bP aB ap d
    obtain ⟨bE, l, b1, az, ⟨bj, rfl⟩⟩ := ap
    refine G ?_
    refine Exec.buildSlice (Te := 3) (cs := []) az Z Qh (fun _ => by kernel_rfl) ?_
    intro aZ bQ a0
    refine G ?_
    have a1 := St.boxArr (E := (U .i64)) (xs := []) a0 rfl (by simp [maxLen])
    obtain ⟨b2, aI, d⟩ := V d
    refine G ?_
    refine Q5 (E := (U .i64)) (ys := aU) a1 S22.h Z3 Z (by decide) Z Z Z rq aI ?_
    intro bK bR a2
    refine G ?_
    refine Exec.buildSlice (Te := 3) (cs := [O ((o : Int))]) a2 Z (Qc (c := [O ((o : Int))]) (Qe Z Z) Qh) (fun _ => by kernel_rfl) ?_
    intro ba bS a3
    obtain ⟨aD, aJ, d⟩ := V d
    refine G ?_
    refine Qt (E := (U .i64)) (ys := [(o : Int)]) a3.f1 S22.h Z3 Z (by decide) Z Z Z Z ⟨[O ((o : Int))], [], Z, Z, Z⟩ Z aJ ?_
    intro aa bT a4
    obtain ⟨aQ, b3, a5, ae⟩ := a4.freezeArr
    refine G ?_
    refine Exec.buildSlice (Te := 22) (cs := [aa]) a5 Z (Qc (c := [aa]) (Qe Z (Ql ae.one)) Qh) (fun _ => by kernel_rfl) ?_
    intro bb bU a6
    obtain ⟨b4, aK, d⟩ := V d
    refine G ?_
    refine Qt (E := (Qu (U .i64))) (ys := [aD]) a6.f1 S44.h Z22 Z (by decide) Z Z Z Z ⟨[aa], [], Z, ⟨_, Z, ae⟩, Z⟩ Z aK ?_
    intro aT bV a7
    cases d
    refine G ?_
    exact ⟨aQ, aT, lq, (a7.f1).f1, (Fx.mk (FxL.cons (QD aB (by have h := Qr aH; simp at h; simp only [maxLen]; omega)) fxl))⟩
   intro bk bW aq
   obtain ⟨aR, l, b5, a8, ⟨bl, rfl⟩⟩ := aq
   have bd := Zu b
   subst aO
   refine G ?_
   exact ⟨aR, l, lq, (a8.f1).f1, (Fx.mk (FxL.cons (QD aA n.arr_le) fxl))⟩
  intro bm bX ar
  obtain ⟨bF, q, b6, bu, ⟨bn, rfl⟩⟩ := ar
  cases i
  refine G ?_
  exact fq
 intro bo bY au
 obtain ⟨bG, a, b7, a9, ⟨bp, rfl⟩⟩ := au
 cases hm
 refine G ?_
 refine ⟨_, Yc Z, ?_⟩
 obtain ⟨bH, b8, bv, bB⟩ := a9.freezeArr
 exact fq
instance A40 : ATy Tryz.prog 40 true 7 := ⟨by kernel_rfl⟩
theorem Qdk {w0 w : World} {s : PHeap} {H : List Res} {c : (List Fact)} {u : (List Int)} {d : Value} {i : Value} {r : Bool} (hm : YK c u = some r) (hS : St w0 s (H) w) (a0 : SliceRep encFact s d c) (x : SliceRep (U .i64) s i u) :
  Calls Tryz.prog 76 #[d, i] w fun e w' => ∃ v, e = .returned v ∧ ((fun (az : Bool) => ∃ (o : PHeap) , PHeap.le s o ∧ St w0 o (H) w' ∧ v = Value.bool (az)) r) := by
 unfold YK at hm
 refine Qj Tryz.func76 Z Z ?_
 obtain ⟨l, aa, an, al, ah⟩ := Qs hm
 refine Zc (Zd (g ?_))
 refine Zc (Zc (Zd (g ?_)))
 refine Qo (M := fun f' w' => ∃ s', (l = .next s' ∨ l = .brk s') ∧ (fun (_ : Unit) => ∃ (p : PHeap) , PHeap.le s p ∧ St w0 p (H) w' ∧ Fx f' [(1, i), (7, d), (8, O ((c.length : Int)))]) s') ?_ ?_
 ·refine G ?_
  refine QP (fun k' s' f' w' => (fun (_ : Unit) => ∃ (q : PHeap) , PHeap.le s q ∧ St w0 q (H) w' ∧ Fx f' [(9, O (k' : Int)), (1, i), (7, d), (8, O ((c.length : Int)))]) s') aa ?_ ?_ ?_
  ·exact fq
  ·intro aq aR a4 a6 aW aI ab b ao
   obtain ⟨ay, ar, m, ⟨a7, rfl⟩⟩ := ab
   obtain ⟨bc, au, b⟩ := V b
   refine G ?_
   refine Jt Z Z Z au ?_
   intro a1 aM y
   refine G ?_
   refine Zw (E := encFact) m A77.h Z Z Z y ?_
   intro aU av
   obtain rfl := KH.1 av
   refine G ?_
   refine Exec.alloc (cs := [O 0, O 0]) m Z77 Z Z ?_
   intro a2 aX aE
   refine G ?_
   refine JU Z Z Z ?_
   intro aY af
   obtain ⟨j, a, b⟩ := V b
   refine g ?_
   refine Zc (Qo (M := fun f' w' => (fun (j : Bool) => ∃ (t : PHeap) , PHeap.le ay t ∧ St w0 t (H) w' ∧ Fx f' [(1, i), (7, d), (8, O ((c.length : Int))), (9, O ((aq : Int))), (32, Vb j)]) j) ?_ ?_)
   ·refine Jz (n0 := 20) (qs 0 20 .done) J2 (by kernel_rfl) (by kernel_rfl) ?_
    have ag := af.drew
    refine G ?_
    rcases Qp a with ⟨ai, a⟩ | ⟨ai, a⟩
    ·cases a
     refine G ?_
     exact fq
    refine G ?_
    rcases Qp a with ⟨aj, a⟩ | ⟨aj, a⟩
    ·cases a
     refine G ?_
     exact fq
    obtain ⟨bd, aw, a⟩ := V a
    refine G ?_
    refine Qm S22.h Z Z Z (x.mono ar) aw ?_
    intro a3 aN z a5
    refine ⟨Z, ?_⟩
    refine G ?_
    refine Zw (E := (U .i64)) ag A3.h Z Z Z z ?_
    intro aV ax
    obtain rfl := Qf.1 ax
    refine ⟨Z, ?_⟩
    cases a
    refine G ?_
    exact fq
   intro a8 aZ ad
   obtain ⟨aO, aJ, aF, ⟨a9, rfl⟩⟩ := ad
   refine G ?_
   rcases Qp b with ⟨ak, b⟩ | ⟨ak, b⟩
   ·cases b
    have am := an _ (ao (by intro _ h; cases h))
    cases am
    refine G ?_
    exact fr
   cases b
   refine G ?_
   exact ⟨_, Z, fq⟩
  intro aS aA ba ac ap
  obtain ⟨aP, aK, aG, ⟨aB, rfl⟩⟩ := ac
  refine G ?_
  exact ⟨_, .inl ap, fq⟩
 rintro aC bb ⟨aT, n, ae⟩
 have hm := n.elim (al _) (ah _)
 clear n
 obtain ⟨aQ, aL, aH, ⟨aD, rfl⟩⟩ := ae
 cases hm
 refine G ?_
 exact fr
theorem Qhd {w0 w : World} {s : PHeap} {H : List Res} {d : Task} {q : (List Int)} {n : Int} {t : Value} {u : Value} {x : Value} {y : Value} {i : Value} {r : (List Int) × Bool} (hm : Qa6 d q n = some r) (hS : St w0 s (H) w) (aN : SliceRep (U .i64) s t d.Vars) (aO : SliceRep (U .i64) s u d.Init) (aP : SliceRep encFact s x d.Goal) (aQ : SliceRep encOp s y d.Ops) (am : SliceRep (U .i64) s i q) :
  Calls Tryz.prog 46 #[Value.agg #[t, u, x, y], i, O n] w fun e w' => ∃ v, e = .returned v ∧ ((QM fun (aL : (List Int)) (aM : Bool) => ∃ (p : PHeap) (aj : Value), PHeap.le s p ∧ St w0 p (H) w' ∧ v = Value.tuple #[aj, Value.bool (aM)] ∧ SliceRep (U .i64) p aj aL) r) := by
 unfold Qa6 at hm
 refine Qj Tryz.func46 Z Z (G ?_)
 refine JY Z Z ?_
 intro aa bB ac
 obtain ⟨z, a, hm⟩ := V hm
 refine g ?_
 refine Zc (Zc (Qo (M := fun f' w' => (fun (z : Bool) => ∃ (ag : PHeap) , PHeap.le s ag ∧ St w0 ag (Res.box aa 26 [t, u, x, y] :: H) w' ∧ Fx f' [(1, i), (2, O n), (3, Vq aa), (30, Vb z)]) z) ?_ ?_))
 ·refine G ?_
  rcases Qp a with ⟨a2, a⟩ | ⟨a2, a⟩
  ·cases a
   refine G ?_
   exact fq
  refine G ?_
  rcases Qp a with ⟨a3, a⟩ | ⟨a3, a⟩
  ·cases a
   refine G ?_
   exact fq
  obtain ⟨bN, a7, a⟩ := V a
  refine G ?_
  refine Jt Z Z Z a7 ?_
  intro aR bw an
  refine G ?_
  refine Zw (E := (Qu encFact)) ac A23.h Z Z Z (an.sub (Sub.iso (Qey (Qey (QkM (Sub.refl _)) Z) Z)) Z) ?_
  intro b9 a8
  have aH := Jb.1 a8
  obtain ⟨bQ, a9, a⟩ := V a
  refine G ?_
  refine Tc Z Z Z Z (Qdk a9 ac aH am).r ?_
  rintro _ bC ⟨b2, bn, bg, rfl⟩
  cases a
  refine G ?_
  exact fq
 intro aX bD av
 obtain ⟨aJ, bo, ax, ⟨aY, rfl⟩⟩ := av
 refine G ?_
 rcases Qp hm with ⟨a4, hm⟩ | ⟨a4, hm⟩
 ·cases hm
  refine G ?_
  refine ⟨_, Qb4 Z, ?_⟩
  exact fq
 refine G ?_
 refine Exec.buildSlice (Te := 3) (cs := []) ax Z Qh (fun _ => by kernel_rfl) ?_
 intro aS bE ay
 refine G ?_
 have az := St.boxArr (E := (U .i64)) (xs := []) ay rfl (by simp [maxLen])
 obtain ⟨bp, aA, hm⟩ := V hm
 refine G ?_
 refine Q5 (E := (U .i64)) (ys := q) az S22.h Z3 Z (by decide) Z Z Z rq aA ?_
 intro j bF ad
 obtain ⟨al, aB, hm⟩ := V hm
 refine G ?_
 refine Jt Z Z Z aB ?_
 intro aT bx ao
 refine G ?_
 refine Zw (E := (Qu encEffect)) ad A80.h Z Z Z (ao.sub (Sub.iso (Qey (Qey (Qey (Sub.refl _) Z) Z) Z)) Z) ?_
 intro ak aC
 have b0 := Jb.1 aC
 obtain ⟨l, aq, hm⟩ := V hm
 refine G ?_
 refine QH (fun k' s' f' w' => (fun (l : (List Int)) => ∃ (ah : PHeap) , PHeap.le aJ ah ∧ St w0 ah (Res.arr (U .i64) 3 j l :: H) w' ∧ Fx f' [(41, O (k' : Int)), (1, i), (8, j), (39, ak), (40, O ((al.Effs.length : Int)))]) s') aq ?_ ?_ ?_
 ·have bh := (ad.f1).drop
  exact fq
 ·intro a6 l b3 aZ bG bm ar c
  obtain ⟨b4, bq, ae, ⟨ba, rfl⟩⟩ := ar
  obtain ⟨bO, aD, c⟩ := V c
  refine G ?_
  refine Jt Z Z Z aD ?_
  intro aU bz ap
  refine G ?_
  refine Zw (E := encEffect) ae A79.h Z Z Z ap ?_
  intro bA aE
  obtain ⟨b8, rfl, aI⟩ := Yv.1 aE
  refine G ?_
  refine Exec.alloc (cs := [Vn, O 0, O 0]) ae Z79 Z Z ?_
  intro aV bH bi
  refine G ?_
  refine JU Z Z Z ?_
  intro bI a0
  obtain ⟨bR, aF, c⟩ := V c
  refine G ?_
  refine Tc Z Z Z Z (Qdk aF a0 aI rq).r ?_
  rintro _ bJ ⟨aK, br, af, rfl⟩
  obtain ⟨m, b, c⟩ := V c
  refine g ?_
  refine Qo (M := fun f' w' => (fun (m : (List Int)) => ∃ (ai : PHeap) , PHeap.le aK ai ∧ St w0 ai (Res.arr (U .i64) 3 j m :: H) w' ∧ Fx f' [(1, i), (8, j), (39, ak), (40, O ((al.Effs.length : Int))), (41, O ((a6 : Int)))]) m) ?_ ?_
  ·rcases Qp b with ⟨a5, b⟩ | ⟨a5, b⟩
   ·obtain ⟨bP, o, b⟩ := V b
    obtain ⟨bf, aW, ab⟩ := (af.f1).arr_at o
    refine G ?_
    refine Qb S22.h Z ab Z (Qd o).1 (Qd o).2.1 ?_
    obtain ⟨bs, aG, b⟩ := V b
    refine G ?_
    refine Qv af.f1 ab A3.h Z Z Z Z (Qf.2 Z) aG ?_
    intro bK bj
    cases b
    refine G ?_
    exact fq
   cases b
   refine G ?_
   exact fq
  intro bb bL aw
  obtain ⟨b5, bt, bk, ⟨bc, rfl⟩⟩ := aw
  cases c
  refine G ?_
  exact fq
 intro bd bM au
 obtain ⟨b6, bu, a1, ⟨be, rfl⟩⟩ := au
 cases hm
 refine G ?_
 refine ⟨_, Qb4 Z, ?_⟩
 obtain ⟨b7, bv, bl, b1⟩ := a1.freezeArr
 exact fq
theorem Qc4 {w0 w : World} {s : PHeap} {H : List Res} {a : Edge} {b : Edge} {r : Bool} (hm : Y8 a b = some r) (hS : St w0 s (H) w) :
  Calls Tryz.prog 77 #[Value.agg #[O (a.From), O (a.Label), O (a.To)], Value.agg #[O (b.From), O (b.Label), O (b.To)]] w fun e w' => ∃ v, e = .returned v ∧ ((fun (g : Bool) => ∃ (c : PHeap) , PHeap.le s c ∧ St w0 c (H) w' ∧ v = Value.bool (g)) r) := by
 unfold Y8 at hm
 refine Qj Tryz.func77 Z Z (G ?_)
 refine JY Z Z ?_
 intro h l j
 refine G ?_
 refine JY Z Z ?_
 intro i m k
 refine G ?_
 rcases Qp hm with ⟨d, hm⟩ | ⟨d, hm⟩
 ·cases hm
  refine G ?_
  exact fr
 refine G ?_
 rcases Qp hm with ⟨f, hm⟩ | ⟨f, hm⟩
 ·cases hm
  refine G ?_
  exact fr
 cases hm
 refine G ?_
 exact fr
theorem QaW {w0 w : World} {s : PHeap} {H : List Res} {aw : (List Edge)} {a : Edge} {b : Value} {r : (List Edge)} (hm : K6 aw a = some r) (hS : St w0 s (H) w) (n : SliceRep encEdge s b aw) :
  Calls Tryz.prog 47 #[b, Value.agg #[O (a.From), O (a.Label), O (a.To)]] w fun e w' => ∃ v, e = .returned v ∧ ((fun (bf : (List Edge)) => ∃ (ak : PHeap) (a3 : Value), PHeap.le s ak ∧ St w0 ak (H) w' ∧ v = a3 ∧ SliceRep encEdge ak a3 bf) r) := by
 unfold K6 at hm
 refine Qj Tryz.func47 Z Z (G ?_)
 refine JY Z Z ?_
 intro l bS b2
 obtain ⟨aq, a6, aU, aS, aQ⟩ := Qs hm
 refine g ?_
 refine Zc (Zd (g ?_))
 refine Zc (Qo (M := fun f' w' => ∃ s', (aq = .next s' ∨ aq = .brk s') ∧ (fun (d : Int) => ∃ (ay : PHeap) , PHeap.le s ay ∧ St w0 ay (Res.box l 73 [O (a.From), O (a.Label), O (a.To)] :: H) w' ∧ Fx f' [(0, b), (3, Vq l), (5, O d)]) s') ?_ ?_)
 ·refine G ?_
  refine KA (fun s' f' w' => (fun (x : Int) => ∃ (az : PHeap) , PHeap.le s az ∧ St w0 az (Res.box l 73 [O (a.From), O (a.Label), O (a.To)] :: H) w' ∧ Fx f' [(0, b), (3, Vq l), (5, O x)]) s') a6 ?_ ?_
  ·exact fq
  intro x y bt bT a7 i av
  obtain ⟨a0, m, u, ⟨bu, rfl⟩⟩ := a7
  obtain ⟨ap, k, i⟩ := V i
  refine Zc (Zc (Qo (M := fun f' w' => (fun (ap : Bool) => ∃ (a1 : PHeap) , PHeap.le a0 a1 ∧ St w0 a1 (Res.box l 73 [O (a.From), O (a.Label), O (a.To)] :: H) w' ∧ Fx f' [(0, b), (3, Vq l), (5, O x), (19, Vb ap)]) ap) ?_ ?_))
  ·refine Jz (n0 := 12) (qs 0 9 (.e 9 [] (.q 10 (.q 11 .done)))) J2 (by kernel_rfl) (by kernel_rfl) (G ?_)
   rcases Qp k with ⟨aR, k⟩ | ⟨aR, k⟩
   ·obtain ⟨be, aW, k⟩ := V k
    refine G ?_
    refine Qm S35.h Z Z Z (n.mono m) aW ?_
    intro bg bB a4 bn
    refine ⟨Z, ?_⟩
    refine G ?_
    refine Zw (E := encEdge) u.drew A73.h Z Z Z a4 ?_
    intro bH aX
    obtain rfl := QK.1 aX
    refine ⟨Z, ?_⟩
    refine G ?_
    refine Q4 (ds := [O (a.From), O (a.Label), O (a.To)]) (u.drew) A73.h Z Z Z ⟨Z, ?_⟩
    refine G ?_
    refine Tc Z Z Z Z (Qc4 (QaX be a) u.drew).r ?_
    rintro _ bU ⟨bE, b6, b3, rfl⟩
    refine ⟨YD, ?_⟩
    cases k
    refine G ?_
    exact fq
   cases k
   refine G ?_
   exact ⟨a0, (Zv _), u.drew, (Fx.mk)⟩
  intro bv bV a8
  obtain ⟨al, p, o, ⟨bw, rfl⟩⟩ := a8
  refine G ?_
  rcases KV i with ⟨ad, i⟩ | ⟨ad, i⟩
  ·refine G ?_
   refine Jz (n0 := 7) (qs 0 7 .done) J2 (by kernel_rfl) (by kernel_rfl) ?_
   obtain ⟨ao, aY, i⟩ := V i
   refine G ?_
   refine Qm S35.h Z Z Z (n.mono (Zt m p)) aY ?_
   intro bh bC a5 bo
   refine ⟨Z, ?_⟩
   refine G ?_
   refine Zw (E := encEdge) o.drew A73.h Z Z Z a5 ?_
   intro bI aZ
   obtain rfl := QK.1 aZ
   refine ⟨Z, ?_⟩
   refine G ?_
   refine Q4 (ds := [O (a.From), O (a.Label), O (a.To)]) (o.drew) A73.h Z Z Z ⟨Z, ?_⟩
   refine G ?_
   refine QdX (xs := [ao.From, ao.Label, ao.To]) (ys := [a.From, a.Label, a.To]) Qob Z Z Z Z Z Z Z ⟨Z, ?_⟩
   refine G ?_
   rcases KV i with ⟨ae, i⟩ | ⟨ae, i⟩
   ·have bp := Zu i
    subst y
    have aT := aU _ (av (by intro _ h; cases h))
    have bq := Zu aT
    subst r
    refine G ?_
    refine ⟨_, Yc Z, ?_⟩
    exact ⟨al, b, (Zt m p), (o.drew).drop, Z, (n.mono (Zt m p))⟩
   replace ae := Zk ae
   have br := Zu i
   subst y
   refine G ?_
   refine ⟨_, Z, ?_⟩; exact ⟨al, (Zt m p), o.drew, (Fx.mk)⟩
  replace ad := Zk ad
  have bs := Zu i
  subst y
  refine G ?_
  refine ⟨_, .inr (av (by intro _ h; cases h)), ?_⟩; exact ⟨al, (Zt m p), o, (Fx.mk)⟩
 rintro bx bW ⟨d, au, a9⟩
 have hm := au.elim (aS _) (aQ _)
 clear au
 obtain ⟨am, ax, ab, ⟨bz, rfl⟩⟩ := a9
 obtain ⟨z, ba, hm⟩ := V hm
 obtain ⟨aa, bb, hm⟩ := V hm
 obtain ⟨b7, af, hm⟩ := V hm
 obtain ⟨b8, ag, hm⟩ := V hm
 obtain ⟨aV, ah, hm⟩ := V hm
 refine g ?_
 refine Zc (Qo (M := fun f' w' => ∃ (a2 : PHeap) (an : Value), PHeap.le am a2 ∧ St w0 a2 (Res.arr encEdge 73 an aV :: H) w' ∧ Fx f' [(4, an)]) ?_ ?_)
 ·refine Jz (n0 := 12) (qs 1 3 (.q 5 (qs 8 3 (.alt (.e 0 [1, 2, 3, 5, 8, 9, 10] (.alt (.e 4 [5, 8, 9, 10] (.e 6 [8, 9, 10] (.e 7 [8, 9, 10] (.e 11 [] .done)))) (.e 6 [1, 2, 3, 8, 9, 10] (.e 4 [8, 9, 10] (.e 7 [8, 9, 10] (.e 11 [] .done)))))) (.e 6 [1, 2, 3, 8, 9, 10] (.e 0 [1, 2, 3, 8, 9, 10] (.e 4 [8, 9, 10] (.e 7 [8, 9, 10] (.e 11 [] .done))))))))) J2 (by kernel_rfl) (by kernel_rfl) (G ?_)
  refine Qhg S35.h Z Z Z (n.mono ax) ba ?_
  intro bJ ai t
  refine ⟨Z, ?_⟩
  refine G ?_
  refine Q4 (ds := [O (a.From), O (a.Label), O (a.To)]) (ab.drew) A73.h Z Z Z ⟨Z, ?_⟩
  refine G ?_
  refine Qfu S35.h Z Z Z (n.mono ax) bb ?_
  intro bK aj j
  refine ⟨Z, ?_⟩
  refine KO ?_ ?_
  ·refine G ?_
   refine Exec.buildSlice (Te := 73) (cs := []) ab.drew Z Qh (fun _ => by kernel_rfl) ?_
   intro bi bX ac
   refine ⟨(Qa (Qi Z Z (Zm (v := b) Z Z ⟨Z, Z⟩)) (Qa (Qi Z Z (Zm (v := O d) Z Z ⟨Z, Z⟩)) (Qa (Qi Z Z (t Z Z)) (Qa (Qi Z Z (Q4 (ds := [O (a.From), O (a.Label), O (a.To)]) (ac.f1) A73.h Z Z Z ⟨Z, Z⟩)) (Qa (Qi Z Z (Zm (v := b) Z Z ⟨Z, Z⟩)) (Qa (Qi Z Z (Zm (v := O d) Z Z ⟨Z, Z⟩)) (Qa (Qi Z Z (j Z Z)) Q1))))))), ?_⟩
   refine KO ?_ ?_
   ·have aB := St.boxArr (E := encEdge) (xs := []) ac rfl (by simp [maxLen])
    refine G ?_
    refine Q5 (E := encEdge) (ys := z) aB S35.h Z73 Z (by decide) Z Z Z ai af ?_
    intro bL bY ar
    refine ⟨(Qa (Qi Z Z (Q4 (ds := [O (a.From), O (a.Label), O (a.To)]) (ar.f1) A73.h Z Z Z ⟨Z, Z⟩)) (Qa (Qi Z Z (Zm (v := b) Z Z ⟨Z, Z⟩)) (Qa (Qi Z Z (Zm (v := O d) Z Z ⟨Z, Z⟩)) (Qa (Qi Z Z (j Z Z)) Q1)))), ?_⟩
    refine G ?_
    refine Exec.buildSlice (Te := 73) (cs := [O (a.From), O (a.Label), O (a.To)]) ar Z (Qc (c := [O (a.From), O (a.Label), O (a.To)]) (Qe Z Z) Qh) (fun _ => by kernel_rfl) ?_
    intro bj bZ aC
    refine ⟨(Qa (Qi Z Z (Zm (v := b) Z Z ⟨Z, Z⟩)) (Qa (Qi Z Z (Zm (v := O d) Z Z ⟨Z, Z⟩)) (Qa (Qi Z Z (j Z Z)) Q1))), ?_⟩
    refine G ?_
    refine Qt (E := encEdge) (ys := [a]) aC.f1 S35.h Z73 Z (by decide) Z Z Z Z ⟨[O (a.From), O (a.Label), O (a.To)], [], Z, ⟨[O (a.From)], [O (a.Label), O (a.To)], Z, Z, ⟨[O (a.Label)], [O (a.To)], Z, Z, Z⟩⟩, Z⟩ Z ag ?_
    intro bM ca aD
    refine ⟨(Qa (Qi Z Z (Zm (v := b) Z Z ⟨Z, Z⟩)) (Qa (Qi Z Z (Zm (v := O d) Z Z ⟨Z, Z⟩)) (Qa (Qi Z Z (j Z Z)) Q1))), ?_⟩
    refine G ?_
    refine Q5 (E := encEdge) (ys := aa) aD S35.h Z73 Z (by decide) Z Z Z aj ah ?_
    intro bc cb aE
    refine ⟨YD, ?_⟩
    refine G ?_
    exact ⟨am, bc, (Zv _), (aE.f1).drop, (Fx.mk)⟩
   refine G ?_
   refine Exec.buildSlice (Te := 73) (cs := [O (a.From), O (a.Label), O (a.To)]) ac Z (Qc (c := [O (a.From), O (a.Label), O (a.To)]) (Qe Z Z) Qh) (fun _ => by kernel_rfl) ?_
   intro bk cc aF
   refine ⟨(Qa (Qi Z Z (Zm (v := b) Z Z ⟨Z, Z⟩)) (Qa (Qi Z Z (Zm (v := O d) Z Z ⟨Z, Z⟩)) (Qa (Qi Z Z (t Z Z)) (Qa (Qi Z Z (Zm (v := b) Z Z ⟨Z, Z⟩)) (Qa (Qi Z Z (Zm (v := O d) Z Z ⟨Z, Z⟩)) (Qa (Qi Z Z (j Z Z)) Q1)))))), ?_⟩
   have aG := St.boxArr (E := encEdge) (xs := []) aF.f1 rfl (by simp [maxLen])
   refine G ?_
   refine Q5 (E := encEdge) (ys := z) aG S35.h Z73 Z (by decide) Z Z Z ai af ?_
   intro bN cd aH
   refine ⟨(Qa (Qi Z Z (Zm (v := b) Z Z ⟨Z, Z⟩)) (Qa (Qi Z Z (Zm (v := O d) Z Z ⟨Z, Z⟩)) (Qa (Qi Z Z (j Z Z)) Q1))), ?_⟩
   refine G ?_
   refine Qt (E := encEdge) (ys := [a]) (aH.f1).f1 S35.h Z73 Z (by decide) Z Z Z Z ⟨[O (a.From), O (a.Label), O (a.To)], [], Z, ⟨[O (a.From)], [O (a.Label), O (a.To)], Z, Z, ⟨[O (a.Label)], [O (a.To)], Z, Z, Z⟩⟩, Z⟩ Z ag ?_
   intro bO ce aI
   refine ⟨(Qa (Qi Z Z (Zm (v := b) Z Z ⟨Z, Z⟩)) (Qa (Qi Z Z (Zm (v := O d) Z Z ⟨Z, Z⟩)) (Qa (Qi Z Z (j Z Z)) Q1))), ?_⟩
   refine G ?_
   refine Q5 (E := encEdge) (ys := aa) aI S35.h Z73 Z (by decide) Z Z Z aj ah ?_
   intro bd cf aJ
   refine ⟨YD, ?_⟩
   refine G ?_
   exact ⟨am, bd, (Zv _), (aJ.f1).drop, (Fx.mk)⟩
  refine G ?_
  refine Exec.buildSlice (Te := 73) (cs := [O (a.From), O (a.Label), O (a.To)]) ab.drew Z (Qc (c := [O (a.From), O (a.Label), O (a.To)]) (Qe Z Z) Qh) (fun _ => by kernel_rfl) ?_
  intro bl cg aK
  refine ⟨(Qa (Qi Z Z (Zm (v := b) Z Z ⟨Z, Z⟩)) (Qa (Qi Z Z (Zm (v := O d) Z Z ⟨Z, Z⟩)) (Qa (Qi Z Z (t Z Z)) (Qa (Qi Z Z (Zm (v := b) Z Z ⟨Z, Z⟩)) (Qa (Qi Z Z (Zm (v := O d) Z Z ⟨Z, Z⟩)) (Qa (Qi Z Z (j Z Z)) Q1)))))), ?_⟩
  refine G ?_
  refine Exec.buildSlice (Te := 73) (cs := []) aK Z Qh (fun _ => by kernel_rfl) ?_
  intro bm ch aL
  refine ⟨(Qa (Qi Z Z (Zm (v := b) Z Z ⟨Z, Z⟩)) (Qa (Qi Z Z (Zm (v := O d) Z Z ⟨Z, Z⟩)) (Qa (Qi Z Z (t Z Z)) (Qa (Qi Z Z (Zm (v := b) Z Z ⟨Z, Z⟩)) (Qa (Qi Z Z (Zm (v := O d) Z Z ⟨Z, Z⟩)) (Qa (Qi Z Z (j Z Z)) Q1)))))), ?_⟩
  have aM := St.boxArr (E := encEdge) (xs := []) aL rfl (by simp [maxLen])
  refine G ?_
  refine Q5 (E := encEdge) (ys := z) aM S35.h Z73 Z (by decide) Z Z Z ai af ?_
  intro bP ci aN
  refine ⟨(Qa (Qi Z Z (Zm (v := b) Z Z ⟨Z, Z⟩)) (Qa (Qi Z Z (Zm (v := O d) Z Z ⟨Z, Z⟩)) (Qa (Qi Z Z (j Z Z)) Q1))), ?_⟩
  refine G ?_
  refine Qt (E := encEdge) (ys := [a]) (aN.f1).f1 S35.h Z73 Z (by decide) Z Z Z Z ⟨[O (a.From), O (a.Label), O (a.To)], [], Z, ⟨[O (a.From)], [O (a.Label), O (a.To)], Z, Z, ⟨[O (a.Label)], [O (a.To)], Z, Z, Z⟩⟩, Z⟩ Z ag ?_
  intro bQ cj aO
  refine ⟨(Qa (Qi Z Z (Zm (v := b) Z Z ⟨Z, Z⟩)) (Qa (Qi Z Z (Zm (v := O d) Z Z ⟨Z, Z⟩)) (Qa (Qi Z Z (j Z Z)) Q1))), ?_⟩
  refine G ?_
  refine Q5 (E := encEdge) (ys := aa) aO S35.h Z73 Z (by decide) Z Z Z aj ah ?_
  intro bR ck b4
  refine ⟨YD, ?_⟩
  refine G ?_
  exact fq
 intro b0 cl aA
 obtain ⟨bF, an, b9, aP, ⟨b1, rfl⟩⟩ := aA
 cases hm
 refine G ?_
 refine ⟨_, Yc Z, ?_⟩
 obtain ⟨bG, bA, b5, bD⟩ := aP.freezeArr
 exact fq
end Go.Pw
