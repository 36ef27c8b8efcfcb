/- -/
import Derived.Test.YtpjojkomdndamaaGreatDoorMa4
import Derived.Test.YtpjojkomdndamaaGreatDoorMaY
set_option maxRecDepth 100000
set_option maxHeartbeats 4000000
set_option linter.unusedVariables false
namespace Go.Pw
open Go.Proofs
theorem Qid : JI Tryz.prog 184 = some (true, 2) := by kernel_rfl
theorem QmZ : QfC Tryz.prog 184 2 = true := by kernel_rfl
theorem Qo5 : (Tryz.f135.name == "runtime.NumGoroutine") = false := by kernel_rfl
theorem YF {w0 w : World} {s : PHeap} {H : List Res} {ao : (List Arr2_int)} {a : Value} {r : Nat × (List Arr2_int)} (hm : J1 ao = some r) (hS : St w0 s (Res.arr encArr2_int 184 a ao :: H) w) :
  Calls Tryz.prog 135 #[a] w fun e w' => ∃ v, e = .returned v ∧ ((J2 fun (bE : Nat) (bs : (List Arr2_int)) => ∃ (aO : PHeap) (aU : Value), PHeap.le s aO ∧ St w0 aO (Res.arr encArr2_int 184 a bs :: H) w' ∧ v = aU ∧ SubOf 2 a aU 0 bE) r) := by
 unfold J1 at hm
 refine Qy Tryz.func135 Z Z (Zc (Zd (O Z Z (Zo (v := Vs none 0 0) Z Z (Zb (V (Zc (Zc (Zd (O Z Z (Zm (v := a) Z Z (O Z Z (QQ (hS) Qdx Z Z (O Z Z (Zq Z Z Z (Zb (V ?_)))))))))))))))))
 rcases Qg hm with ⟨t, hm⟩ | ⟨t, hm⟩
 ·refine Qv Z t (Zc (Zd (O Z Z (Zm (v := a) Z Z (O Z Z (Zo (v := a) Z Z (Zb (V (Q1 (Qj ?_))))))))))
  have bL := Zu hm
  subst r
  refine ⟨_, QX Z, ?_⟩
  exact ⟨s, a, (Zv _), hS, Z, (Or.inl ⟨Z, Z, hS.arr_shape⟩)⟩
 refine Qw Z t ?_
 replace t := Zk t
 refine Qp (V (Zc (Zc (Zd (O Z Z (Zo (v := U 1) Z Z (Zb (V ?_))))))))
 obtain ⟨aw, bc, bq, bn, bl⟩ := QO hm
 refine QJ (M := fun f' w' => ∃ s', (aw = .next s' ∨ aw = .brk s') ∧ (fun (aE : Int) => ∃ (aP : PHeap) , PHeap.le s aP ∧ St w0 aP (Res.arr encArr2_int 184 a ao :: H) w' ∧ f' 0 = a ∧ f' 3 = U aE) s') ?_ ?_
 ·refine Qm (Yy (fun s' f' w' => (fun (j : Int) => ∃ (aQ : PHeap) , PHeap.le s aQ ∧ St w0 aQ (Res.arr encArr2_int 184 a ao :: H) w' ∧ f' 0 = a ∧ f' 3 = U j) s') bc ?_ ?_)
  ·exact ⟨s, (Zv _), hS, Z, Z⟩
  intro j aq bV cu be b aD
  obtain ⟨ac, au, ar, m, n⟩ := be
  refine Zc (Zc (Zd (O Z Z (Zm (v := U j) Z n (O Z Z (Zm (v := a) Z m (O Z Z (QQ (ar) Qdx Z Z (O Z Z (Zq Z Z Z (Zb (V ?_))))))))))))
  rcases Qg b with ⟨u, b⟩ | ⟨u, b⟩
  ·refine Qv Z u (Qp (V (Zc (Qm (Zc (K3 (n0 := 10) (.q 0 (.q 1 (.q 2 (.q 3 (.q 4 (.q 5 (.q 6 (.q 7 (.q 8 (.q 9 .done)))))))))) K8 (by kernel_rfl) (by kernel_rfl) ?_))))))
   have l := ar.drew
   refine Qh Z Z (Zm (v := a) Z m ⟨Z, ?_⟩)
   refine Qh Z Z (Zm (v := U j) Z n ⟨Z, ?_⟩)
   obtain ⟨aW, ah, b⟩ := Zg b
   obtain ⟨ca, bF, az⟩ := l.arr_at ah
   refine Qh Z Z (Qc Qdx Z az Z (Qe ah).1 (Qe ah).2.1 ⟨Z, ?_⟩)
   refine Qh Z Z (Qt (F := encArr2_int) (l) az Qid Z Z Z ah (Sub.refl _) ?_)
   intro co b2
   obtain rfl := Kz.1 b2
   refine ⟨Z, ?_⟩
   refine Qh Z Z (Zm (v := a) Z m ⟨Z, ?_⟩)
   refine Qh Z Z (Zm (v := U j) Z n ⟨Z, ?_⟩)
   refine Qh Z Z (Exec.sub Z Z Z ⟨Z, ?_⟩)
   obtain ⟨aX, ai, b⟩ := Zg b
   obtain ⟨cb, bG, a2⟩ := l.arr_at ai
   refine Qh Z Z (Qc Qdx Z a2 Z (Qe ai).1 (Qe ai).2.1 ⟨Z, ?_⟩)
   refine Qh Z Z (Qt (F := encArr2_int) (l) a2 Qid Z Z Z ai (Sub.refl _) ?_)
   intro cp b3
   obtain rfl := Kz.1 b3
   refine ⟨Z, ?_⟩
   refine Qh Z Z (QhQ (xs := [aW.a0, aW.a1]) (ys := [aX.a0, aX.a1]) QmZ Z Z Z Z Z Z Z ⟨Z, ?_⟩)
   refine QC (Zb (V ?_))
   rcases Qg b with ⟨x, b⟩ | ⟨x, b⟩
   ·refine Qv Z x (Zc (Zd (O Z Z (Zm (v := a) Z m (O Z Z (Zm (v := U j) Z n ?_))))))
    obtain ⟨ci, aj, b⟩ := Zg b
    refine O Z Z (KU (l) Qdx Z Z Z aj ?_)
    intro k ad
    refine O Z Z (Zo (v := k) Z Z (Zb (V (Zc (Zc (Zd (O Z Z (Zo (v := U 1) Z Z (Zb (V ?_))))))))))
    obtain ⟨ax, bd, cg, bo, bm⟩ := QO b
    refine QJ (M := fun f' w' => ∃ s', (ax = .next s' ∨ ax = .brk s') ∧ (un3 fun (ae : Int) (aF : Int) (aH : (List Arr2_int)) => ∃ (aR : PHeap) , PHeap.le ac aR ∧ St w0 aR (Res.arr encArr2_int 184 a aH :: H) w' ∧ f' 0 = a ∧ f' 3 = U ae ∧ f' 4 = k ∧ f' 5 = U aF) s') ?_ ?_
    ·refine Qm (Yy (fun s' f' w' => (un3 fun (ab : Int) (i : Int) (aI : (List Arr2_int)) => ∃ (aS : PHeap) , PHeap.le ac aS ∧ St w0 aS (Res.arr encArr2_int 184 a aI :: H) w' ∧ f' 0 = a ∧ f' 3 = U ab ∧ f' 4 = k ∧ f' 5 = U i) s') bd ?_ ?_)
     ·exact ⟨ac, (Zv _), l, m, n, Z, Z⟩
     intro bC ay bW cv bf c br
     obtain ⟨ab, i, aI⟩ := bC
     replace c := Qbh c
     obtain ⟨an, aJ, a7, af, ag, o, p⟩ := bf
     refine Zc (Zc (Zd (O Z Z (Zm (v := U i) Z p (O Z Z (Zm (v := k) Z o (O Z Z (Qay Qdx ad Z Z (O Z Z (Zq Z Z Z (Zb (V ?_))))))))))))
     rcases Qg c with ⟨z, c⟩ | ⟨z, c⟩
     ·refine Qv Z z (Qp (V (Zc (Qm (Zc (K3 (n0 := 10) (.q 0 (.q 1 (.q 2 (.q 3 (.q 4 (.q 5 (.q 6 (.q 7 (.q 8 (.q 9 .done)))))))))) K8 (by kernel_rfl) (by kernel_rfl) ?_))))))
      have g := a7.drew
      refine Qh Z Z (Zm (v := k) Z o ⟨Z, ?_⟩)
      refine Qh Z Z (Zm (v := U i) Z p ⟨Z, ?_⟩)
      obtain ⟨aY, ak, c⟩ := Zg c
      obtain ⟨cc, bH, a3⟩ := g.arr_at (QU ak).2.2
      refine Qh Z Z (JR Qdx (KI aj).1 ad a3 Z Z Z (QU ak).1 (QU ak).2.1 ⟨Z, ?_⟩)
      refine Qh Z Z (Qt (F := encArr2_int) (g) a3 Qid Z Z Z (QU ak).2.2 (Sub.refl _) ?_)
      intro cq b4
      obtain rfl := Kz.1 b4
      refine ⟨Z, ?_⟩
      refine Qh Z Z (Zm (v := k) Z o ⟨Z, ?_⟩)
      refine Qh Z Z (Zm (v := U i) Z p ⟨Z, ?_⟩)
      refine Qh Z Z (Exec.sub Z Z Z ⟨Z, ?_⟩)
      obtain ⟨aZ, al, c⟩ := Zg c
      obtain ⟨cd, bI, a4⟩ := g.arr_at (QU al).2.2
      refine Qh Z Z (JR Qdx (KI aj).1 ad a4 Z Z Z (QU al).1 (QU al).2.1 ⟨Z, ?_⟩)
      refine Qh Z Z (Qt (F := encArr2_int) (g) a4 Qid Z Z Z (QU al).2.2 (Sub.refl _) ?_)
      intro cr b5
      obtain rfl := Kz.1 b5
      refine ⟨Z, ?_⟩
      refine Qh Z Z (QhP (xs := [aY.a0, aY.a1]) (ys := [aZ.a0, aZ.a1]) QmZ Z Z Z Z Z Z Z ⟨Z, ?_⟩)
      refine QC (Zb (V ?_))
      obtain ⟨ap, d, c⟩ := Zg c
      refine QJ (M := fun f' w' => (J2 fun (aG : Int) (aK : (List Arr2_int)) => ∃ (aT : PHeap) , PHeap.le an aT ∧ St w0 aT (Res.arr encArr2_int 184 a aK :: H) w' ∧ f' 0 = a ∧ f' 3 = U aG ∧ f' 4 = k ∧ f' 5 = U i) ap) ?_ ?_
      ·rcases Qg d with ⟨aa, d⟩ | ⟨aa, d⟩
       ·refine Qv Z aa (Zc (Zd (O Z Z (Zm (v := a) Z af (O Z Z (Zm (v := U ab) Z ag (O Z Z (Zm (v := k) Z o (O Z Z (Zm (v := U i) Z p ?_))))))))))
        obtain ⟨c1, am, d⟩ := Zg d
        obtain ⟨ce, bJ, a5⟩ := g.arr_at (QU am).2.2
        refine O Z Z (JR Qdx (KI aj).1 ad a5 Z Z Z (QU am).1 (QU am).2.1 (O Z Z (Qt (F := encArr2_int) (g) a5 Qid Z Z Z (QU am).2.2 (Sub.refl _) ?_)))
        intro cs b6
        obtain rfl := Kz.1 b6
        obtain ⟨c2, av, d⟩ := Zg d
        obtain ⟨cf, bK, a6⟩ := g.arr_at av
        refine O Z Z (Qc Qdx Z a6 Z (Qe av).1 (Qe av).2.1 ?_)
        obtain ⟨ch, b7, d⟩ := Zg d
        refine O Z Z (QN g a6 Qid Z Z Z Z (Kz.2 Z) b7 ?_)
        intro cw bj
        refine Zb (V (Zd (O Z Z (Zm (v := U ab) Z ag (O Z Z (Exec.add Z Z Z (O Z Z (Zo (v := U (IntKind.i64.wrap (ab + 1))) Z Z (Zb (V ?_))))))))))
        have bM := Zu d
        subst ap
        exact ⟨an, (Zv _), bj, af, Z, o, p⟩
       refine Qw Z aa ?_
       replace aa := Zk aa
       refine Qp (V ?_)
       have bN := Zu d
       subst ap
       exact ⟨an, (Zv _), g, af, ag, o, p⟩
      intro bX cx bg
      obtain ⟨aG, aK⟩ := ap
      replace c := Jf c
      obtain ⟨b9, bt, bk, bw, bx, bz, b0⟩ := bg
      refine (Qz (V (Zd (O Z Z (Zm (v := U i) Z b0 (O Z Z (Exec.add Z Z Z (O Z Z (Zo (v := U (IntKind.i64.wrap (i + 1))) Z Z (Zb (V ?_)))))))))))
      have bO := Zu c
      subst ay
      refine ⟨_, Z, ?_⟩; exact ⟨b9, (Zt aJ bt), bk, bw, bx, bz, Z⟩
     refine Qw Z z ?_
     replace z := Zk z
     refine QF (Ql (Ql (Q7 (V ?_))))
     have bP := Zu c
     subst ay
     refine ⟨_, .inr (br (by intro _ h; cases h)), ?_⟩; exact ⟨an, aJ, a7, af, ag, o, p⟩
    rintro bY cy ⟨bD, aB, bh⟩
    have b := aB.elim (bo _) (bm _)
    clear aB
    obtain ⟨ae, aF, aH⟩ := bD
    replace b := Qbh b
    obtain ⟨bA, bu, a8, aL, aM, cl, cm⟩ := bh
    refine (V (Zc (Zd (O Z Z (Zm (v := a) Z aL (O Z Z (Zm (v := U ae) Z aM ?_)))))))
    obtain ⟨cj, aN, b⟩ := Zg b
    refine O Z Z (KU (a8) Qdx Z Z Z aN ?_)
    intro ct ba
    refine O Z Z (Qa2 (E := encArr2_int) (y := (⟨0, 0⟩ : Arr2_int)) a8 ba (KI aN).2.2.2.2.2 Qdx Qnj ⟨[U 0], [U 0], Z, Z, Z⟩ Z Z ?_)
    intro cz a9
    refine Zb (V (Zc (Zd (O Z Z (Zm (v := a) Z aL (O Z Z (Zm (v := U ae) Z aM ?_)))))))
    obtain ⟨ck, b8, b⟩ := Zg b
    refine O Z Z (QbV (a9) Qdx Z Z Z b8 ?_)
    intro aV bb
    refine O Z Z (Zo (v := aV) Z Z (Zb (V (Q1 (QD (Qj (Qj (QD (Qj (Qj ?_))))))))))
    have bQ := Zu b
    subst aq
    have bp := bq _ (aD (by intro _ h; cases h))
    have bR := Zu bp
    subst r
    refine ⟨_, QX Z, ?_⟩
    exact ⟨bA, aV, (Zt au bu), a9, Z, bb⟩
   refine Qw Z x ?_
   replace x := Zk x
   refine Qp (Qz (V (Zd (O Z Z (Zm (v := U j) Z n (O Z Z (Exec.add Z Z Z (O Z Z (Zo (v := U (IntKind.i64.wrap (j + 1))) Z Z (Zb (V ?_)))))))))))
   have bS := Zu b
   subst aq
   refine ⟨_, Z, ?_⟩; exact ⟨ac, au, l, m, Z⟩
  refine Qw Z u ?_
  replace u := Zk u
  refine QF (Ql (Ql (Q7 (V ?_))))
  have bT := Zu b
  subst aq
  refine ⟨_, .inr (aD (by intro _ h; cases h)), ?_⟩; exact ⟨ac, au, ar, m, n⟩
 rintro bZ c0 ⟨aE, aC, bi⟩
 have hm := aC.elim (bn _) (bl _)
 clear aC
 obtain ⟨bB, bv, aA, b1, cn⟩ := bi
 refine (V (Zc (Zd (O Z Z (Zm (v := a) Z b1 (O Z Z (Zo (v := a) Z Z (Zb (V (Q1 ?_))))))))))
 have bU := Zu hm
 subst r
 refine ⟨_, QX Z, ?_⟩
 exact ⟨bB, a, bv, aA, Z, (Or.inl ⟨Z, Z, aA.arr_shape⟩)⟩
theorem Qo4 : (Tryz.f136.name == "runtime.NumGoroutine") = false := by kernel_rfl
theorem QoC : (Tryz.f114.name == "runtime.NumGoroutine") = false := by kernel_rfl
theorem Qdz {w0 w : World} {s : PHeap} {H : List Res} {l : System} {x : (List Int)} {al : Value} {ad : Value} {am : Value} {j : Value} {r : (List Int) × Int} (hm : KO l x = some r) (hS : St w0 s (Res.arr (Qa .i64) 3 j x :: H) w) (dG : SliceRep (Qa .i64) s al l.Costs) (ap : SliceRep encEdge s ad l.Edges) (dH : SliceRep encBool s am l.Goals) :
  Calls Tryz.prog 114 #[Value.agg #[U (l.States), U (l.Init), al, ad, am], j] w fun e w' => ∃ v, e = .returned v ∧ ((J2 fun (dD : (List Int)) (dE : Int) => ∃ (bg : PHeap) (bm : Value), PHeap.le s bg ∧ St w0 bg (Res.arr (Qa .i64) 3 j x :: Res.arr (Qa .i64) 3 bm dD :: H) w' ∧ v = Value.tuple #[bm, U dE]) r) := by
 unfold KO at hm
 refine Qy Tryz.func114 Z Z (Zc (Zd (O Z Z (Exec.box (cs := [U (l.States), U (l.Init), al, ad, am]) hS Z Z Z ?_))))
 intro a4 eK aC
 refine O Z Z (Zo (v := Vs none 0 0) Z Z (O Z Z (Zo (v := U 0) Z Z (Zb (V (Zc (Zd (O Z Z (Zp JL Z Z Z (O Z Z (Zn (aC) A3 Z Z Z ?_)))))))))))
 obtain ⟨em, cY, hm⟩ := Zg hm
 refine O Z Z (QbG (F := encArr2_int) (T2 := 184) aC QjZ Qot Z Z Z cY ?_)
 intro d cx eL aD
 refine O Z Z (Zo (v := d) Z Z (Zb (V (Zc (Zc (Zd (O Z Z (Zp QaF Z Z Z (O Z Z (Zn (aD.f2) A35 Z Z Z (O Z Z (Zr S35 Z Z ap (O Z Z (Zm (v := U 0) Z Z (Zb (V ?_))))))))))))))))
 obtain ⟨ac, bp, hm⟩ := Zg hm
 refine Qm (J3 (fun k' s' f' w' => (fun (ac : (List (List Arr2_int))) => ∃ (bh : PHeap) (o : List Value), PHeap.le s bh ∧ St w0 bh (Res.arr (Qa .i64) 3 j x :: Res.box a4 38 [U (l.States), U (l.Init), al, ad, am] :: Res.arr encRaw 183 d o :: Res.rows encArr2_int 184 o ac :: H) w' ∧ f' 1 = j ∧ f' 2 = Vp (some ⟨a4, 0, none⟩) ∧ f' 6 = d ∧ f' 19 = ad ∧ f' 20 = U ((l.Edges.length : Int)) ∧ f' 21 = U (k' : Int)) s') bp ?_ ?_ ?_)
 ·have bz := aD.f2
  have b0 := bz.f3
  exact ⟨s, cx, (Zv _), b0, Z, Z, Z, Z, Z, Z⟩
 ·intro cz ac dw dZ eM cu bs i
  obtain ⟨dx, o, aL, aE, aM, cD, aa, aN, aO, a2⟩ := bs
  refine Zc (Zd (O Z Z (Zq Z a2 aO (Zb (V (Zc (QK (Zx (decide_eq_true (by omega))) (Qp (V (Zc (Qm (Zc (Zd ?_)))))))))))))
  obtain ⟨g, cZ, i⟩ := Zg i
  refine O Z Z (Qu S35 Z aN a2 (ap.mono aL) cZ ?_)
  intro dI ey bo
  refine O Z Z (Zw (E := encEdge) aE A85 Z Z Z bo ?_)
  intro eF da
  obtain rfl := JM.1 da
  refine O Z Z (Exec.alloc (cs := [U 0, U 0, U 0]) aE Z85 Z Z ?_)
  intro dJ eN b1
  refine O Z Z (Qf (ds := [U (g.From), U (g.Label), U (g.To)]) (es := [U (g.From), U (g.Label), U (g.To)]) b1 A85 Z Z Z Z (Zj Z (Zj Z (Zj Z Q6))) (Nat.le_of_ble_eq_true Z) Z ?_)
  intro eO b2
  refine Zb (V (K3 (n0 := 18) (.q 0 (.q 1 (.q 2 (.q 3 (.q 4 (.q 5 (.q 6 (.q 7 (.q 8 (.q 9 (.q 10 (.q 11 (.q 12 (.q 13 (.q 14 (.q 15 (.e 16 [0, 1, 2, 3, 4, 5, 6, 7] (.e 17 [0, 1, 2] .done)))))))))))))))))) K8 (by kernel_rfl) (by kernel_rfl) ?_))
  have m := b2.drew
  refine Qh Z Z (Zm (v := d) Z aa ⟨Z, ?_⟩)
  refine Qh Z Z (Zp Qbn Z Z Z ⟨Z, ?_⟩)
  refine Qh Z Z (Zn (m) A3 Z Z Z ⟨Z, ?_⟩)
  refine Qh Z Z (Zm (v := d) Z aa ⟨Z, ?_⟩)
  refine Qh Z Z (Zp Qbn Z Z Z ⟨Z, ?_⟩)
  refine Qh Z Z (Zn (m) A3 Z Z Z ⟨Z, ?_⟩)
  obtain ⟨e4, aW, i⟩ := Zg i
  obtain ⟨el, n, a6, _⟩ := (((m.f4).f4).f1).rows_at aW
  obtain ⟨ef, dM, y⟩ := ((m.f4).f4).arr_at n
  refine Qh Z Z (Qc QjZ Z y Z (Qe n).1 (Qe n).2.1 ⟨Z, ?_⟩)
  refine Qh Z Z (Qt (F := encRaw) ((m.f4).f4) y Qml Z Z Z n (Sub.refl _) ?_)
  intro d7 aX
  replace aX := (Yf.1 aX).1
  subst d7
  refine ⟨Z, ?_⟩
  refine Qh Z Z (Zp Qan Z Z Z ⟨Z, ?_⟩)
  refine Qh Z Z (Zn (m) A3 Z Z Z ⟨Z, ?_⟩)
  refine Qh Z Z (Zm (v := j) Z aM ⟨Z, ?_⟩)
  refine Qh Z Z (Zp YZ Z Z Z ⟨Z, ?_⟩)
  refine Qh Z Z (Zn (m) A3 Z Z Z ⟨Z, ?_⟩)
  obtain ⟨u, ai, i⟩ := Zg i
  obtain ⟨eg, dN, a7⟩ := (m.f1).arr_at ai
  refine Qh Z Z (Qc Jt Z a7 Z (Qe ai).1 (Qe ai).2.1 ⟨Z, ?_⟩)
  refine Qh Z Z (Qt (F := (Qa .i64)) (m.f1) a7 A3 Z Z Z ai (Sub.refl _) ?_)
  intro eG db
  obtain rfl := Qs.1 db
  refine ⟨Z, ?_⟩
  refine Qh Z Z (Exec.build Z (Qb (c := [U (g.Label)]) (Qi Z Z) (Qb (c := [U u]) (Qi Z Z) Qx)) (v := Value.agg #[U (g.Label), U u]) (fun _ => by kernel_rfl) ⟨Z, ?_⟩)
  refine JH Z Z (Exec.buildSlice (Te := 184) (cs := [U (g.Label), U u]) m Z (Qb (c := [U (g.Label), U u]) (Qi Z Z) Qx) (fun _ => by kernel_rfl) ?_)
  intro dK eP af
  refine ⟨(Qd (Q4 Z Z (Zm (v := d) Z aa ⟨Z, Z⟩)) (Qd (Q4 Z Z (Zp Qbn Z Z Z ⟨Z, Z⟩)) (Qd (Q4 Z Z (Zn (af.f1) A3 Z Z Z ⟨Z, Z⟩)) (Qd (Q4 Z Z (Zm (v := d) Z aa ⟨Z, Z⟩)) (Qd (Q4 Z Z (Zp Qbn Z Z Z ⟨Z, Z⟩)) (Qd (Q4 Z Z (Zn (af.f1) A3 Z Z Z ⟨Z, Z⟩)) (Qd (Q4 Z Z (Qc QjZ Z y Z (Qe n).1 (Qe n).2.1 ⟨Z, Z⟩)) (Qd (Q4 Z Z (Qt (F := encRaw) ((af.f5).f5) y Qml Z Z Z n (Sub.refl _) (fun _ q => ⟨Z, (Yf.1 q).1⟩))) QY)))))))), ?_⟩
  have b3 := (((af.f5).f5).f1).rows_split a6 (Qe aW).2.2
  obtain ⟨en, dc, i⟩ := Zg i
  have b4 := b3.f3
  have b5 := b4.f1
  refine JH Z Z (QR (E := encArr2_int) (ys := [(⟨g.Label, u⟩ : Arr2_int)]) b5 Qdx Qnj Z (by decide) Z Z Z Z ⟨[U (g.Label), U u], [], Z, ⟨[U (g.Label)], [U u], Z, Z, Z⟩, Z⟩ Z dc ?_)
  intro eH eQ aF
  refine ⟨(Qd (Q4 Z Z (Zm (v := d) Z aa ⟨Z, Z⟩)) (Qd (Q4 Z Z (Zp Qbn Z Z Z ⟨Z, Z⟩)) (Qd (Q4 Z Z (Zn (aF.f3) A3 Z Z Z ⟨Z, Z⟩)) QY))), ?_⟩
  refine QC (O Z Z (Qc QjZ Z y Z (Qe n).1 (Qe n).2.1 ?_))
  obtain ⟨eo, dd, i⟩ := Zg i
  have b6 := (aF.f2).f2
  have b7 := b6.f2
  refine O Z Z (QbF b7 a6 y Qml Z Z Z Z dd ?_)
  intro cy eR b8
  refine Zb (Qz (V (Zd (O Z Z (Exec.add Z a2 Z (O Z Z (Zm (v := U (IntKind.i64.wrap ((cz : Int) + 1))) Z Z (Zb (V ?_)))))))))
  have dV := Zu i
  subst dw
  have b9 := (b8.f2).drop
  have bA := b9.f3
  have bB := bA.f3
  exact ⟨dx, cy, aL, bB, aM, cD, aa, aN, aO, (Eq.trans Z (QB cu (SliceRep.le ap)))⟩
 intro ea eS bt
 obtain ⟨bi, o, c1, aG, cE, cF, cG, ez, cH, dA⟩ := bt
 refine Zc (Zd (O Z Z (Zq Z dA cH (Zb (V (Zc (QA (Zx (decide_eq_false (by omega))) (QF (Ql (Ql (Q7 (V (Zc (Zd (O Z Z (Zp JL Z cF Z (O Z Z (Zn (aG.f1) A3 Z Z Z ?_))))))))))))))))))
 obtain ⟨ep, de, hm⟩ := Zg hm
 refine O Z Z (JX (E := encStr) aG Qka Z9 Z Z Z Z de ?_)
 intro t eT ab
 refine O Z Z (Zo (v := t) Z Z (Zb (V (Zc (Zc (Zd (O Z Z (Zm (v := d) Z cG (O Z Z (QgL ((ab.f4).f4) ((ab.f4).f4).f1.rows_len QjZ Z Z (O Z Z (Zm (v := U 0) Z Z (Zb (V ?_))))))))))))))
 obtain ⟨d3, bq, hm⟩ := Zg hm
 refine Qm (J3 (fun k' s' f' w' => (J2 fun (ah : (List ByteArray)) (aw : (List (List Arr2_int))) => ∃ (bj : PHeap) , PHeap.le bi bj ∧ St w0 bj (Res.arr (Qa .i64) 3 j x :: Res.arr encStr 9 t ah :: Res.arr encRaw 183 d o :: Res.rows encArr2_int 184 o aw :: H) w' ∧ f' 1 = j ∧ f' 9 = t ∧ f' 48 = d ∧ f' 49 = U ((ac.length : Int)) ∧ f' 50 = U (k' : Int)) s') bq ?_ ?_ ?_)
 ·have bC := (ab.f2).drop
  have bD := (bC.f3).f3
  have bE := bD.f2
  have bF := bE.f3
  exact ⟨bi, (Zv _), bF, cE, Z, Z, Z, Z⟩
 ·intro p d4 dy eb eU cv bu a
  obtain ⟨ah, aw⟩ := d4
  replace a := Jf a
  obtain ⟨e8, c2, ag, aP, cI, aQ, aR, an⟩ := bu
  refine Zc (Zd (O Z Z (Zq Z an aR (Zb (V (Zc (QK (Zx (decide_eq_true (by omega))) (Qp (V (Zc (Qm (Zc (Zd (O Z Z (Zm (v := U ((p : Int))) Z an ?_)))))))))))))))
  obtain ⟨e5, aY, a⟩ := Zg a
  obtain ⟨aq, ae, z, _⟩ := (((ag.f3).f3).f1).rows_at aY
  obtain ⟨eh, dO, a8⟩ := ((ag.f3).f3).arr_at ae
  refine O Z Z (Qc QjZ Z (Eq.trans aQ a8) an (Qe ae).1 (Qe ae).2.1 (O Z Z (Qt (F := encRaw) ((ag.f3).f3) a8 Qml Z Z Z ae (Sub.refl _) ?_)))
  intro d8 aZ
  replace aZ := (Yf.1 aZ).1
  subst d8
  refine O Z Z (Zo (v := U ((p : Int))) Z Z (O Z Z (Zo (v := aq) Z Z (Zb (V (Zc (Zd (O Z Z (Zm (v := aq) Z Z ?_)))))))))
  have bG := (((ag.f3).f3).f1).rows_split z (Qe aY).2.2
  obtain ⟨er, df, a⟩ := Zg a
  refine O Z Z (Exec.call Z Z Tryz.func131 Z Qo6 (Zi Z (Zi Z Qk)) ((Qg9 df bG).mono ?_))
  rintro _ eV ⟨_, rfl, ⟨e9, c3, bH, rfl⟩⟩
  refine ⟨_, Z, ?_⟩
  obtain ⟨et, ba, a⟩ := Zg a
  have bI := (bH.f2).f2
  have bJ := bI.f2
  have aH := bJ.rows_back z (Qab ba).2.1
  rw [← (Qab ba).2.2] at aH
  have bK := aH.f1
  refine Zb (V (Zc (Zd (O Z Z (Exec.alloc (cs := [Vp none, Vs none 0 0]) bK Qos Z Z ?_)))))
  intro a5 eW bL
  have ar := St.bld_close (.inl rfl) ((QiP (E := Qa .u8) (Te := 5) bL).perm (.swap _ _ _))
  refine Zb (V (Zc (Zd (O Z Z (Zm (v := j) Z aP (O Z Z (Zm (v := U ((p : Int))) Z Z ?_)))))))
  obtain ⟨fl, aj, a⟩ := Zg a
  obtain ⟨ei, dP, a9⟩ := (ar.f3).arr_at aj
  refine O Z Z (Qc Jt Z a9 Z (Qe aj).1 (Qe aj).2.1 (O Z Z (Qt (F := (Qa .i64)) (ar.f3) a9 A3 Z Z Z aj (Sub.refl _) ?_)))
  intro eI dg
  obtain rfl := Qs.1 dg
  obtain ⟨fn, dh, a⟩ := Zg a
  refine O Z Z (Exec.call Z Z Tryz.func134 Z Qno (Zi Z Qk) ((QaK dh ar).mono ?_))
  rintro _ eX ⟨_, rfl, ⟨eA, c4, bM, rfl⟩⟩
  refine ⟨_, Z, ?_⟩
  obtain ⟨eu, di, a⟩ := Zg a
  refine O Z Z (Exec.call Z Z Tryz.func133 Z QnD (Zi Z (Zi Z Qk)) ((QdB di bM).mono ?_))
  rintro _ eY ⟨_, rfl, rfl, bN⟩
  refine ⟨_, Z, ?_⟩
  refine Zb (V (Zc (Zc (Zd (O Z Z (Zm (v := aq) Z Z ?_))))))
  obtain ⟨e6, dj, a⟩ := Zg a
  have bO := (((bN.f2).f2).f1).rows_split z (Qe dj).2.2
  obtain ⟨d5, dk, a⟩ := Zg a
  obtain ⟨dF, ev⟩ := d5
  replace a := Jf a
  refine O Z Z (Exec.call Z Z Tryz.func135 Z Qo5 (Zi Z Qk) ((YF dk bO).mono ?_))
  rintro _ eZ ⟨d9, rfl, ⟨bk, _, c5, bP, rfl, bf⟩⟩
  refine ⟨_, Z, ?_⟩
  obtain ⟨c6, bb, a⟩ := Zg a
  have bQ := (bP.f2).f2
  have bR := bQ.f2
  have aI := bR.rows_back z (Qab bb).2.1
  rw [← (Qab bb).2.2] at aI
  have bS := aI.f1
  refine O Z Z (Qay Qdx bf Z Z (O Z Z (Zm (v := U 0) Z Z (Zb (V ?_)))))
  obtain ⟨eE, dl, a⟩ := Zg a
  obtain ⟨ax, br, a⟩ := Zg a
  refine Qm (J3 (fun k' s' f' w' => (fun (ax : (List Int)) => ∃ (bl : PHeap) , PHeap.le bk bl ∧ St w0 bl (Res.arr (Qa .i64) 3 j x :: Res.arr encStr 9 t ah :: Res.bld 190 5 a5 ax :: Res.arr encRaw 183 d o :: Res.rows encArr2_int 184 o c6 :: H) w' ∧ f' 1 = j ∧ f' 9 = t ∧ f' 10 = U ((p : Int)) ∧ f' 12 = Vp (some ⟨a5, 0, none⟩) ∧ f' 48 = d ∧ f' 49 = U ((ac.length : Int)) ∧ f' 50 = U ((p : Int)) ∧ f' 64 = d9 ∧ f' 65 = U ((dF : Int)) ∧ f' 66 = U (k' : Int)) s') br ?_ ?_ ?_)
  ·have bT := bS.f2
   have bU := bT.f4
   have bV := bU.f4
   exact ⟨bk, (Zv _), bV, aP, cI, Z, Z, aQ, aR, an, Z, Z, Z⟩
  ·intro c0 ax dz ec fa cw bv b
   obtain ⟨eB, c7, au, cJ, cK, cL, aS, cM, cN, cO, aT, aU, a3⟩ := bv
   refine Zc (Zd (O Z Z (Zq Z a3 aU (Zb (V (Zc (QK (Zx (decide_eq_true (by omega))) (Qp (V (Zc (Qm (Zc (Zd ?_)))))))))))))
   obtain ⟨e7, bc, b⟩ := Zg b
   obtain ⟨ao, ak, b⟩ := Zg b
   obtain ⟨ej, dQ, aA⟩ := ((((au.f4).f4).f1).rows_split z (Qe bc).2.2).arr_at (QU ak).2.2
   refine O Z Z (JR Qdx (Int.le_refl 0) bf aA Z aT a3 (QU ak).1 (QU ak).2.1 (O Z Z (Qt (F := encArr2_int) ((((au.f4).f4).f1).rows_split z (Qe bc).2.2) aA Qid Z Z Z (QU ak).2.2 (Sub.refl _) ?_)))
   intro eJ dm
   obtain rfl := Kz.1 dm
   refine O Z Z (Exec.alloc (cs := [U 0, U 0]) au Qnj Z Z ?_)
   intro dL fb bW
   refine O Z Z (Qf (ds := [U (ao.a0), U (ao.a1)]) (es := [U (ao.a0), U (ao.a1)]) bW Qid Z Z Z Z (Zj Z (Zj Z Q6)) (Nat.le_of_ble_eq_true Z) Z ?_)
   intro fc bX
   refine Zb (V (K3 (n0 := 10) (.q 0 (.q 1 (.q 5 (.q 6 (.e 2 [5, 6] (.q 3 (.q 4 (.e 7 [3, 4] (.q 8 (.e 9 [] .done)))))))))) K8 (by kernel_rfl) (by kernel_rfl) ?_))
   have av := bX.drew
   refine Qh Z Z (JW Tryz.underlying184 A3 Z Z Z (by decide) Z ⟨Z, ?_⟩)
   refine Qh Z Z (Zn (av) A3 Z Z Z ⟨Z, ?_⟩)
   refine Qh Z Z (JW Tryz.underlying184 A3 Z Z Z (by decide) Z ⟨Z, ?_⟩)
   refine Qh Z Z (Zn (av) A3 Z Z Z ⟨Z, ?_⟩)
   obtain ⟨fo, dn, b⟩ := Zg b
   refine JH Z Z (Exec.call Z Z Tryz.func134 Z Qno (Zi Z Qk) ((QaK dn av).mono ?_))
   rintro _ fd ⟨_, rfl, ⟨eC, c8, aJ, rfl⟩⟩
   refine ⟨_, Z, ?_⟩
   refine ⟨(Qd (Q4 Z Z (JW Tryz.underlying184 A3 Z Z Z (by decide) Z ⟨Z, Z⟩)) (Qd (Q4 Z Z (Zn (aJ) A3 Z Z Z ⟨Z, Z⟩)) QY)), ?_⟩
   obtain ⟨dR, bd, b⟩ := Zg b
   refine Qh Z Z (Qax Z Z Z bd ⟨Z, ?_⟩)
   obtain ⟨dS, be, b⟩ := Zg b
   refine Qh Z Z (Qax Z Z Z be ⟨Z, ?_⟩)
   obtain ⟨fp, dp, b⟩ := Zg b
   refine JH Z Z (Exec.call Z Z Tryz.func134 Z Qno (Zi Z Qk) ((QaK dp aJ).mono ?_))
   rintro _ fe ⟨_, rfl, ⟨d0, c9, bY, rfl⟩⟩
   refine ⟨_, Z, ?_⟩
   refine ⟨(Qd (Q4 Z Z (Qax Z Z Z bd ⟨Z, Z⟩)) (Qd (Q4 Z Z (Qax Z Z Z be ⟨Z, Z⟩)) QY)), ?_⟩
   obtain ⟨dT, dq, b⟩ := Zg b
   refine Qh Z Z (Qax Z Z Z dq ⟨Z, ?_⟩)
   obtain ⟨ew, dr, b⟩ := Zg b
   have bZ := bY.f3
   refine JH Z Z (Exec.call Z Z Tryz.func133 Z QnD (Zi aS (Zi Z Qk)) ((QdB dr bZ).mono ?_))
   rintro _ ff ⟨_, rfl, rfl, ca⟩
   refine ⟨_, Z, ?_⟩
   refine ⟨QY, ?_⟩
   refine QC (Zb (Qz (V (Zd (O Z Z (Exec.add Z a3 Z (O Z Z (Zm (v := U (IntKind.i64.wrap ((c0 : Int) + 1))) Z Z (Zb (V ?_))))))))))
   have dW := Zu b
   subst dz
   have cb := (ca.f1).drop
   have cc := (cb.f4).f4
   have cd := cc.f2
   have ce := cd.f4
   have cf := ce.f4
   exact ⟨d0, (Zt (Zt c7 c8) c9), cf, cJ, cK, cL, aS, cM, cN, cO, aT, aU, (Eq.trans Z (QB cw (by have h := QT dl; simp at h; simp only [maxLen]; omega)))⟩
  intro ed fg bw
  obtain ⟨d1, cA, cg, cP, aV, cQ, cR, cS, cT, cU, e0, cV, dB⟩ := bw
  refine Zc (Zd (O Z Z (Zq Z dB cV (Zb (V (Zc (QA (Zx (decide_eq_false (by omega))) (QF (Ql (Ql (Q7 (V (Zd (O Z Z (Zm (v := t) Z aV (O Z Z (Zm (v := U ((p : Int))) Z cQ ?_)))))))))))))))))
  obtain ⟨e3, dt, a⟩ := Zg a
  have ch := cg.f2
  refine O Z Z (Exec.call Z Z Tryz.func136 Z Qo4 (Zi cR Qk) ((Qgr dt ch).mono ?_))
  rintro _ fh ⟨_, rfl, rfl, aK⟩
  refine ⟨_, Z, ?_⟩
  obtain ⟨fm, ay, a⟩ := Zg a
  obtain ⟨ek, dU, aB⟩ := (aK.f1).arr_at ay
  refine O Z Z (Qc Qka Z aB Z (Qe ay).1 (Qe ay).2.1 ?_)
  obtain ⟨ex, du, a⟩ := Zg a
  have ci := aK.f1
  refine O Z Z (QN ci aB A9 Z Z Z Z (QdM.2 Z) du ?_)
  intro fi cj
  refine Zb (Qz (V (Zd (O Z Z (Exec.add Z cU Z (O Z Z (Zm (v := U (IntKind.i64.wrap ((p : Int) + 1))) Z Z (Zb (V ?_)))))))))
  have dX := Zu a
  subst dy
  have ck := (cj.f3).f3
  have cl := ck.f2
  have cm := cl.f3
  exact ⟨d1, (Zt (Zt (Zt (Zt c2 c3) c4) c5) cA), cm, cP, aV, cS, cT, (Eq.trans Z (QB cv (by have h := ((ab.f4).f4).f1.rows_len; have h2 := ((ab.f4).f4).arr_le; omega)))⟩
 intro ee fj bx
 obtain ⟨ah, aw⟩ := d3
 replace hm := Jf hm
 obtain ⟨eD, cB, cn, e1, cW, e2, cX, dC⟩ := bx
 refine Zc (Zd (O Z Z (Zq Z dC cX (Zb (V (Zc (QA (Zx (decide_eq_false (by omega))) (QF (Ql (Ql (Q7 (V (Zc (Zd (O Z Z (Zm (v := t) Z cW ?_))))))))))))))))
 obtain ⟨d6, dv, hm⟩ := Zg hm
 obtain ⟨fq, bn⟩ := d6
 replace hm := Jf hm
 have co := cn.f1
 refine O Z Z (Exec.call Z Z Tryz.func113 Z QnF (Zi Z Qk) ((QaG dv co).mono ?_))
 rintro _ fk ⟨_, rfl, ⟨d2, az, cC, cp, rfl⟩⟩
 refine ⟨_, Z, ?_⟩
 refine O Z Z (Exec.extract (v := az) Z Z Z (O Z Z (Exec.extract (v := U bn) Z Z Z (O Z Z (Zo (v := az) Z Z (O Z Z (Zo (v := U bn) Z Z (Zb (V (Q1 ?_))))))))))
 have dY := Zu hm
 subst r
 refine ⟨_, Qbu Z, ?_⟩
 have cq := cp.drop
 have cr := (((cq.f3).f3).drop).drop
 have ct := cr.f1
 exact ⟨d2, az, (Zt (Zt c1 cB) cC), ct, (KX Z Z)⟩
theorem N83 : (Tryz.f83.name == "runtime.NumGoroutine") = false := by kernel_rfl
theorem Qag {w0 w : World} {s : PHeap} {H : List Res} {a : System} {i : Value} {j : Value} {c : Value} {r : (List Int) × (Option Int)} (hm : JP a = some r) (hS : St w0 s (H) w) (am : SliceRep (Qa .i64) s i a.Costs) (an : SliceRep encEdge s j a.Edges) (o : SliceRep encBool s c a.Goals) :
  Calls Tryz.prog 83 #[Value.agg #[U (a.States), U (a.Init), i, j, c]] w fun e w' => ∃ v, e = .returned v ∧ ((J2 fun (b4 : (List Int)) (b5 : (Option Int)) => ∃ (a9 : PHeap) (aE : Value), PHeap.le s a9 ∧ St w0 a9 (Res.arr (Qa .i64) 3 aE b4 :: H) w' ∧ v = Value.tuple #[aE, QG 50 (b5)]) r) := by
 unfold JP at hm
 refine Qy Tryz.func83 Z Z (Zc (Zd (O Z Z (Exec.box (cs := [U (a.States), U (a.Init), i, j, c]) hS Z Z Z ?_))))
 intro m bW av
 refine O Z Z (Zo (v := Vs none 0 0) Z Z (O Z Z (Zo (v := QG 50 (none)) Z Z (Zb (V (Zc (Zc (Zd (O Z Z (Qn (ds := [U (a.States), U (a.Init), i, j, c]) (av) KH Z Z Z ?_))))))))))
 obtain ⟨ci, bp, hm⟩ := Zg hm
 refine O Z Z (Exec.call Z Z Tryz.func60 Z N60 (Zi Z Qk) ((KM bp av am an o).mono ?_))
 rintro _ bX ⟨_, rfl, ⟨ah, g, ad, rfl⟩⟩
 refine ⟨_, Z, ?_⟩
 refine O Z Z (Exec.not Z Z (Zb (V ?_)))
 rcases Qg hm with ⟨p, hm⟩ | ⟨p, hm⟩
 ·refine Qv Z p (Zc (Zd (O Z Z (Exec.makeInterface C50 Z Z (O Z Z (Zo (v := Vs none 0 0) Z Z (O Z Z (Zo (v := QG 50 (some 2)) Z Z (Zb (V (Q1 (Qj ?_))))))))))))
  have b8 := Zu hm
  subst r
  refine ⟨_, Qbu Z, ?_⟩
  have aM := ad.nilArr (Qa .i64) 3
  have aN := (aM.f1).drop
  exact ⟨ah, (Vs none 0 0), g, aN, (KX Z Z)⟩
 refine Qw Z p ?_
 replace p := Zk p
 refine Qp (V (Zc (Zd (O Z Z (Zp JL Z Z Z (O Z Z (Zn (ad) A3 Z Z Z ?_)))))))
 obtain ⟨bJ, bq, hm⟩ := Zg hm
 refine O Z Z (JX (E := encStr) ad Qka Z9 Z Z Z Z bq ?_)
 intro u bY aw
 refine O Z Z (Zo (v := u) Z Z (Zb (V (Zc (Zc (Zd (O Z Z (Zp Qbo Z Z Z (O Z Z (Zn (aw.f1) A36 Z Z Z (O Z Z (Zr S36 Z Z (o.mono g) (O Z Z (Zm (v := U 0) Z Z (Zb (V ?_))))))))))))))))
 obtain ⟨ae, aG, hm⟩ := Zg hm
 refine Qm (J3 (fun k' s' f' w' => (fun (ae : (List ByteArray)) => ∃ (aA : PHeap) , PHeap.le ah aA ∧ St w0 aA (Res.box m 38 [U (a.States), U (a.Init), i, j, c] :: Res.arr encStr 9 u ae :: H) w' ∧ f' 1 = Vp (some ⟨m, 0, none⟩) ∧ f' 4 = u ∧ f' 19 = c ∧ f' 20 = U ((a.Goals.length : Int)) ∧ f' 21 = U (k' : Int)) s') aG ?_ ?_ ?_)
 ·have aO := aw.f1
  exact ⟨ah, (Zv _), aO, Z, Z, Z, Z, Z⟩
 ·intro x ae bw bD bZ bd aI l
  obtain ⟨bR, a2, ax, bj, a5, a6, a7, ac⟩ := aI
  refine Zc (Zd (O Z Z (Zq Z ac a7 (Zb (V (Zc (QK (Zx (decide_eq_true (by omega))) (Qp (V (Zc (Qm (Zc (Zd (O Z Z (Zm (v := U ((x : Int))) Z ac ?_)))))))))))))))
  obtain ⟨ak, br, l⟩ := Zg l
  refine O Z Z (Qu S36 Z a6 ac (o.mono (Zt g a2)) br ?_)
  intro b6 bM aF
  refine O Z Z (Zw (E := encBool) ax A4 Z Z Z aF ?_)
  intro bV bs
  obtain rfl := Ju.1 bs
  refine O Z Z (Zo (v := U ((x : Int))) Z Z (O Z Z (Zo (v := Vb ak) Z Z (Zb (V (Zd (O Z Z (Zm (v := u) Z a5 (O Z Z (Zm (v := U ((x : Int))) Z Z (O Z Z (Zm (v := Vb ak) Z Z (O Z Z (Exec.call Z Z Tryz.func112 Z QoD (Zi Z Qk) ((QcE (Qa6 ak) ax).mono ?_)))))))))))))))
  rintro _ ca ⟨_, rfl, ⟨bx, bi, ay, rfl⟩⟩
  refine ⟨_, Z, ?_⟩
  obtain ⟨ch, ag, l⟩ := Zg l
  obtain ⟨bH, b7, au⟩ := (ay.f1).arr_at ag
  refine O Z Z (Qc Qka Z au Z (Qe ag).1 (Qe ag).2.1 ?_)
  obtain ⟨bK, bt, l⟩ := Zg l
  have aP := ay.f1
  refine O Z Z (QN aP au A9 Z Z Z Z (QdM.2 Z) bt ?_)
  intro cb aQ
  refine Zb (Qz (V (Zd (O Z Z (Exec.add Z ac Z (O Z Z (Zm (v := U (IntKind.i64.wrap ((x : Int) + 1))) Z Z (Zb (V ?_)))))))))
  have b9 := Zu l
  subst bw
  have aR := aQ.f1
  exact ⟨bx, (Zt a2 bi), aR, bj, a5, a6, a7, (Eq.trans Z (QB bd (SliceRep.le (o.mono g))))⟩
 intro bE cc aJ
 obtain ⟨bS, y, aS, bk, bl, bN, bm, b3⟩ := aJ
 refine Zc (Zd (O Z Z (Zq Z b3 bm (Zb (V (Zc (QA (Zx (decide_eq_false (by omega))) (QF (Ql (Ql (Q7 (V (Zc (Zd (O Z Z (Zm (v := u) Z bl ?_))))))))))))))))
 obtain ⟨bz, bu, hm⟩ := Zg hm
 obtain ⟨cj, al⟩ := bz
 replace hm := Jf hm
 have aT := aS.f1
 refine O Z Z (Exec.call Z Z Tryz.func113 Z QnF (Zi Z Qk) ((QaG bu aT).mono ?_))
 rintro _ cd ⟨_, rfl, ⟨ai, aa, z, aU, rfl⟩⟩
 refine ⟨_, Z, ?_⟩
 refine O Z Z (Zm (v := Value.tuple #[aa, U al]) Z Z (O Z Z (Exec.extract (v := aa) Z Z Z (O Z Z (Exec.extract (v := U al) Z Z Z (O Z Z (Zo (v := aa) Z Z (O Z Z (Zo (v := U al) Z Z (Zb (V ?_)))))))))))
 obtain ⟨ao, aH, bg, be, bc⟩ := QO hm
 refine QJ (M := fun f' w' => ∃ s', (ao = .next s' ∨ ao = .brk s') ∧ (J2 fun (aq : (List Int)) (a4 : Int) => ∃ (aB : PHeap) (aj : Value), PHeap.le ai aB ∧ St w0 aB (Res.box m 38 [U (a.States), U (a.Init), i, j, c] :: Res.arr (Qa .i64) 3 aj aq :: H) w' ∧ f' 1 = Vp (some ⟨m, 0, none⟩) ∧ f' 7 = aj ∧ f' 8 = U a4) s') ?_ ?_
 ·refine Qm (Yy (fun s' f' w' => (J2 fun (ar : (List Int)) (af : Int) => ∃ (aC : PHeap) (ab : Value), PHeap.le ai aC ∧ St w0 aC (Res.box m 38 [U (a.States), U (a.Init), i, j, c] :: Res.arr (Qa .i64) 3 ab ar :: H) w' ∧ f' 1 = Vp (some ⟨m, 0, none⟩) ∧ f' 7 = ab ∧ f' 8 = U af) s') aH ?_ ?_)
  ·have aV := aU.drop
   have aW := aV.f1
   exact ⟨ai, aa, (Zv _), aW, bk, Z, Z⟩
  intro b0 ap bF ce aK b bh
  obtain ⟨ar, af⟩ := b0
  replace b := Jf b
  obtain ⟨bT, ab, t, az, a8, bn, bo⟩ := aK
  refine Qm (Zc (Zd (O Z Z (Qn (ds := [U (a.States), U (a.Init), i, j, c]) (az) KH Z a8 Z (O Z Z (Zm (v := ab) Z bn ?_))))))
  obtain ⟨b1, bv, b⟩ := Zg b
  obtain ⟨ck, n⟩ := b1
  replace b := Jf b
  have aX := az.f1
  refine O Z Z (Exec.call Z Z Tryz.func114 Z QoC (Zi Z (Zi Z Qk)) ((Qdz bv aX (am.mono (Zt (Zt (Zt g y) z) t)) (an.mono (Zt (Zt (Zt g y) z) t)) (o.mono (Zt (Zt (Zt g y) z) t))).mono ?_))
  rintro _ cf ⟨_, rfl, ⟨aD, d, a3, a0, rfl⟩⟩
  refine ⟨_, Z, ?_⟩
  refine O Z Z (Zm (v := Value.tuple #[d, U n]) Z Z (O Z Z (Exec.extract (v := d) Z Z Z (O Z Z (Exec.extract (v := U n) Z Z Z (O Z Z (Zo (v := d) Z Z (O Z Z (Zo (v := U n) Z Z (Zb (V (Zc (Zd (O Z Z (Zm (v := d) Z Z (O Z Z (Zo (v := d) Z Z (Zb (V (Zc (Zc (Zd (O Z Z (Zm (v := U n) Z Z (O Z Z (Zm (v := U af) Z bo (O Z Z (Exec.eql Z Z Z (Zb (V ?_))))))))))))))))))))))))))))))
  rcases Qg b with ⟨q, b⟩ | ⟨q, b⟩
  ·refine Qv Z q (Zc (Zd (O Z Z (Zm (v := d) Z Z (O Z Z (Zo (v := d) Z Z (O Z Z (Zo (v := QG 50 (none)) Z Z (Zb (V (Q1 (Qj (QD (Qj (QD (Qj ?_))))))))))))))))
   have bA := Zu b
   subst ap
   have bf := bg _ (bh (by intro _ h; cases h))
   have bB := Zu bf
   subst r
   refine ⟨_, Qbu Z, ?_⟩
   have aY := a0.drop
   have aZ := (aY.f1).drop
   exact ⟨aD, d, (Zt (Zt (Zt (Zt g y) z) t) a3), aZ, (KX Z Z)⟩
  refine Qw Z q ?_
  replace q := Zk q
  refine Qp (V (Zd (O Z Z (Zm (v := U n) Z Z (O Z Z (Zo (v := U n) Z Z (Zb (Qz (V ?_)))))))))
  have bC := Zu b
  subst ap
  have ba := a0.drop
  have bb := ba.f1
  refine ⟨_, Z, ?_⟩; exact ⟨aD, d, (Zt t a3), bb, a8, Z, Z⟩
 rintro bG cg ⟨b2, a1, aL⟩
 have hm := a1.elim (be _) (bc _)
 clear a1
 obtain ⟨aq, a4⟩ := b2
 replace hm := Jf hm
 obtain ⟨bU, aj, bL, bI, bO, bP, bQ⟩ := aL
 refine ?_
 cases hm
theorem QnG : (Tryz.f109.name == "runtime.NumGoroutine") = false := by kernel_rfl
theorem Y0 {w0 w : World} {s : PHeap} {H : List Res} {d : (List Int)} {a : Value} {r : Int} (hm : J8 d = some r) (hS : St w0 s (Res.arr (Qa .i64) 3 a d :: H) w) :
  Calls Tryz.prog 109 #[a] w fun e w' => ∃ v, e = .returned v ∧ ((fun (a6 : Int) => ∃ (ag : PHeap) , PHeap.le s ag ∧ St w0 ag (Res.arr (Qa .i64) 3 a d :: H) w' ∧ v = U a6) r) := by
 unfold J8 at hm
 refine Qy Tryz.func109 Z Z (Zc (Zd (O Z Z (Zo (v := U 0) Z Z (Zb (V (Zc (Zc (Zd (O Z Z (Zm (v := a) Z Z (O Z Z (QQ (hS) Jt Z Z (O Z Z (Zq Z Z Z (Zb (V ?_)))))))))))))))))
 obtain ⟨al, k, hm⟩ := Zg hm
 refine QJ (M := fun f' w' => (fun (_ : Unit) => ∃ (ah : PHeap) , PHeap.le s ah ∧ St w0 ah (Res.arr (Qa .i64) 3 a d :: H) w' ∧ f' 0 = a) al) ?_ ?_
 ·rcases Qg k with ⟨i, k⟩ | ⟨i, k⟩
  ·refine Qv Z i ?_
   cases k
  refine Qw Z i ?_
  replace i := Zk i
  refine Qp (V ?_)
  have a9 := Zu k
  subst al
  exact ⟨s, (Zv _), hS, Z⟩
 intro aD aN ao
 obtain ⟨u, aw, t, ae⟩ := ao
 refine (V (Zc (Zd (O Z Z (Zm (v := a) Z ae ?_)))))
 obtain ⟨a4, p, hm⟩ := Zg hm
 obtain ⟨aG, a7, z⟩ := t.arr_at p
 refine O Z Z (Qc Jt Z z Z (Qe p).1 (Qe p).2.1 (O Z Z (Qt (F := (Qa .i64)) (t) z A3 Z Z Z p (Sub.refl _) ?_)))
 intro aL az
 obtain rfl := Qs.1 az
 refine O Z Z (Zo (v := U a4) Z Z (Zb (V (Zc (Zc (Zd (O Z Z (Zo (v := U 1) Z Z (Zb (V ?_))))))))))
 obtain ⟨x, am, aI, au, ar⟩ := QO hm
 refine QJ (M := fun f' w' => ∃ s', (x = .next s' ∨ x = .brk s') ∧ (J2 fun (l : Int) (ac : Int) => ∃ (ai : PHeap) , PHeap.le u ai ∧ St w0 ai (Res.arr (Qa .i64) 3 a d :: H) w' ∧ f' 0 = a ∧ f' 3 = U l ∧ f' 4 = U ac) s') ?_ ?_
 ·refine Qm (Yy (fun s' f' w' => (J2 fun (m : Int) (c : Int) => ∃ (aj : PHeap) , PHeap.le u aj ∧ St w0 aj (Res.arr (Qa .i64) 3 a d :: H) w' ∧ f' 0 = a ∧ f' 3 = U m ∧ f' 4 = U c) s') am ?_ ?_)
  ·exact ⟨u, (Zv _), t, ae, Z, Z⟩
  intro a2 y aE aO an b av
  obtain ⟨m, c⟩ := a2
  replace b := Jf b
  obtain ⟨ak, ad, g, n, af, o⟩ := an
  refine Zc (Zc (Zd (O Z Z (Zm (v := U c) Z o (O Z Z (Zm (v := a) Z n (O Z Z (QQ (g) Jt Z Z (O Z Z (Zq Z Z Z (Zb (V ?_))))))))))))
  rcases Qg b with ⟨j, b⟩ | ⟨j, b⟩
  ·refine Qv Z j (Qp (V (Zc (Qm (Zd (O Z Z (Zm (v := U m) Z af (O Z Z (Zm (v := a) Z n (O Z Z (Zm (v := U c) Z o ?_)))))))))))
   obtain ⟨a5, q, b⟩ := Zg b
   obtain ⟨aH, a8, aa⟩ := g.arr_at q
   refine O Z Z (Qc Jt Z aa Z (Qe q).1 (Qe q).2.1 (O Z Z (Qt (F := (Qa .i64)) (g) aa A3 Z Z Z q (Sub.refl _) ?_)))
   intro aM a0
   obtain rfl := Qs.1 a0
   refine O Z Z (Qcy Z Z Z (O Z Z (Zo (v := U (max m a5)) Z Z (Zb (Qz (V (Zd (O Z Z (Zm (v := U c) Z o (O Z Z (Exec.add Z Z Z (O Z Z (Zo (v := U (IntKind.i64.wrap (c + 1))) Z Z (Zb (V ?_)))))))))))))))
   have aA := Zu b
   subst y
   refine ⟨_, Z, ?_⟩; exact ⟨ak, ad, g, n, Z, Z⟩
  refine Qw Z j ?_
  replace j := Zk j
  refine QF (Ql (Ql (Q7 (V ?_))))
  have aB := Zu b
  subst y
  refine ⟨_, .inr (av (by intro _ h; cases h)), ?_⟩; exact ⟨ak, ad, g, n, af, o⟩
 rintro aF aP ⟨a3, ab, ap⟩
 have hm := ab.elim (au _) (ar _)
 clear ab
 obtain ⟨l, ac⟩ := a3
 replace hm := Jf hm
 obtain ⟨a1, ax, aq, aJ, ay, aK⟩ := ap
 refine (V (Zc (Zd (O Z Z (Zm (v := U l) Z ay (O Z Z (Zo (v := U l) Z Z (Zb (V (Q1 ?_))))))))))
 have aC := Zu hm
 subst r
 refine ⟨_, QX Z, ?_⟩
 exact ⟨a1, (Zt aw ax), aq, Z⟩
theorem QoF : (Tryz.f110.name == "runtime.NumGoroutine") = false := by kernel_rfl
theorem Qe1 {w0 w : World} {s : PHeap} {H : List Res} {d : (List Bool)} {a : Value} {r : Int × Int} (hm : Yo d = some r) (hS : St w0 s (Res.arr encBool 4 a d :: H) w) :
  Calls Tryz.prog 110 #[a] w fun e w' => ∃ v, e = .returned v ∧ ((J2 fun (aM : Int) (aN : Int) => ∃ (ar : PHeap) , PHeap.le s ar ∧ St w0 ar (Res.arr encBool 4 a d :: H) w' ∧ v = Value.tuple #[U aM, U aN]) r) := by
 unfold Yo at hm
 refine Qy Tryz.func110 Z Z (Zc (Zd (O Z Z (Zo (v := U 0) Z Z (O Z Z (Zo (v := U 0) Z Z (Zb (V (Zc (Zc (Zd (O Z Z (Zm (v := a) Z Z (O Z Z (QQ (hS) S36 Z Z (O Z Z (Exec.sub Z Z Z (O Z Z (Zo (v := U (IntKind.i64.wrap ((d.length : Int) - 1))) Z Z (Zb (V ?_)))))))))))))))))))))
 obtain ⟨ae, ay, aC, a8, a6⟩ := QO hm
 refine QJ (M := fun f' w' => ∃ s', (ae = .next s' ∨ ae = .brk s') ∧ (fun (ap : Int) => ∃ (au : PHeap) , PHeap.le s au ∧ St w0 au (Res.arr encBool 4 a d :: H) w' ∧ f' 0 = a ∧ f' 4 = U ap) s') ?_ ?_
 ·refine Qm (Yy (fun s' f' w' => (fun (c : Int) => ∃ (av : PHeap) , PHeap.le s av ∧ St w0 av (Res.arr encBool 4 a d :: H) w' ∧ f' 0 = a ∧ f' 4 = U c) s') ay ?_ ?_)
  ·exact ⟨s, (Zv _), hS, Z, Z⟩
  intro c z aY bj a0 i am
  obtain ⟨y, ab, ai, aq, o⟩ := a0
  refine Zc (Zc (Zd (O Z Z (Zm (v := U c) Z o (O Z Z (Exec.gtr Z Z Z (Zb (V ?_))))))))
  rcases Qg i with ⟨k, i⟩ | ⟨k, i⟩
  ·refine Qv Z k (Qp (V (Zc (Qm (Zc (Zd (O Z Z (Zm (v := U c) Z o (O Z Z (Exec.sub Z Z Z (O Z Z (Zo (v := U (IntKind.i64.wrap (c - 1))) Z Z (Zb (V ?_))))))))))))))
   obtain ⟨af, az, aD, a9, a7⟩ := QO i
   refine QJ (M := fun f' w' => ∃ s', (af = .next s' ∨ af = .brk s') ∧ (fun (ao : Int) => ∃ (aw : PHeap) , PHeap.le y aw ∧ St w0 aw (Res.arr encBool 4 a d :: H) w' ∧ f' 0 = a ∧ f' 4 = U c ∧ f' 5 = U ao) s') ?_ ?_
   ·refine Qm (Yy (fun s' f' w' => (fun (g : Int) => ∃ (ax : PHeap) , PHeap.le y ax ∧ St w0 ax (Res.arr encBool 4 a d :: H) w' ∧ f' 0 = a ∧ f' 4 = U c ∧ f' 5 = U g) s') az ?_ ?_)
    ·exact ⟨y, (Zv _), ai, aq, o, Z⟩
    intro g aa aZ bk a1 b an
    obtain ⟨ad, ac, aj, p, t, n⟩ := a1
    refine Zc (Zc (Zd (O Z Z (Zm (v := U g) Z n (O Z Z (Exec.geq Z Z Z (Zb (V ?_))))))))
    rcases Qg b with ⟨l, b⟩ | ⟨l, b⟩
    ·refine Qv Z l (Qp (V (Zc (Qm (Zc (K3 (n0 := 9) (.q 0 (.q 1 (.q 2 (.q 3 (.q 4 (.q 5 (.q 6 (.q 7 (.q 8 .done))))))))) K8 (by kernel_rfl) (by kernel_rfl) ?_))))))
     have j := aj.drew
     refine Qh Z Z (Zm (v := a) Z p ⟨Z, ?_⟩)
     refine Qh Z Z (Zm (v := U g) Z n ⟨Z, ?_⟩)
     obtain ⟨bn, u, b⟩ := Zg b
     obtain ⟨bc, aO, ag⟩ := j.arr_at u
     refine Qh Z Z (Qc S36 Z ag Z (Qe u).1 (Qe u).2.1 ⟨Z, ?_⟩)
     refine Qh Z Z (Qt (F := encBool) (j) ag A4 Z Z Z u (Sub.refl _) ?_)
     intro bh aI
     obtain rfl := Ju.1 aI
     refine ⟨Z, ?_⟩
     refine Qh Z Z (Zm (v := a) Z p ⟨Z, ?_⟩)
     refine Qh Z Z (Zm (v := U c) Z t ⟨Z, ?_⟩)
     obtain ⟨bo, x, b⟩ := Zg b
     obtain ⟨bd, aP, ah⟩ := j.arr_at x
     refine Qh Z Z (Qc S36 Z ah Z (Qe x).1 (Qe x).2.1 ⟨Z, ?_⟩)
     refine Qh Z Z (Qt (F := encBool) (j) ah A4 Z Z Z x (Sub.refl _) ?_)
     intro bi aJ
     obtain rfl := Ju.1 aJ
     refine ⟨Z, ?_⟩
     refine Qh Z Z (QgO Tryz.underlying4 Z Z Z ⟨Z, ?_⟩)
     refine QC (Zb (V ?_))
     rcases Qg b with ⟨m, b⟩ | ⟨m, b⟩
     ·refine Qv Z m (Zc (Zd (O Z Z (Zm (v := U g) Z n (O Z Z (Zm (v := U c) Z t (O Z Z (Zo (v := U g) Z Z (O Z Z (Zo (v := U c) Z Z (Zb (V (Q1 (QD (Qj (Qj (QD (Qj (QD (Qj (Qj (QD (Qj (Qj ?_))))))))))))))))))))))))
      have aQ := Zu b
      subst aa
      have aA := aD _ (an (by intro _ h; cases h))
      have aR := Zu aA
      subst z
      have aB := aC _ (am (by intro _ h; cases h))
      have aS := Zu aB
      subst r
      refine ⟨_, Qbu Z, ?_⟩
      exact ⟨ad, (Zt ab ac), j, (KX Z Z)⟩
     refine Qw Z m ?_
     replace m := Zk m
     refine Qp (Qz (V (Zd (O Z Z (Zm (v := U g) Z n (O Z Z (Exec.sub Z Z Z (O Z Z (Zo (v := U (IntKind.i64.wrap (g - 1))) Z Z (Zb (V ?_)))))))))))
     have aT := Zu b
     subst aa
     refine ⟨_, Z, ?_⟩; exact ⟨ad, ac, j, p, t, Z⟩
    refine Qw Z l ?_
    replace l := Zk l
    refine QF (Ql (Ql (Q7 (V ?_))))
    have aU := Zu b
    subst aa
    refine ⟨_, .inr (an (by intro _ h; cases h)), ?_⟩; exact ⟨ad, ac, aj, p, t, n⟩
   rintro ba bl ⟨ao, ak, a2⟩
   have i := ak.elim (a9 _) (a7 _)
   clear ak
   obtain ⟨aK, aE, a4, aG, aH, be⟩ := a2
   refine (Qz (V (Zd (O Z Z (Zm (v := U c) Z aH (O Z Z (Exec.sub Z Z Z (O Z Z (Zo (v := U (IntKind.i64.wrap (c - 1))) Z Z (Zb (V ?_)))))))))))
   have aV := Zu i
   subst z
   refine ⟨_, Z, ?_⟩; exact ⟨aK, (Zt ab aE), a4, aG, Z⟩
  refine Qw Z k ?_
  replace k := Zk k
  refine QF (Ql (Ql (Q7 (V ?_))))
  have aW := Zu i
  subst z
  refine ⟨_, .inr (am (by intro _ h; cases h)), ?_⟩; exact ⟨y, ab, ai, aq, o⟩
 rintro bb bm ⟨ap, al, a3⟩
 have hm := al.elim (a8 _) (a6 _)
 clear al
 obtain ⟨aL, aF, a5, bf, bg⟩ := a3
 refine (V (Zc (Zd (O Z Z (Zo (v := U 0) Z Z (O Z Z (Zo (v := U 1) Z Z (Zb (V (Q1 ?_))))))))))
 have aX := Zu hm
 subst r
 refine ⟨_, Qbu Z, ?_⟩
 exact ⟨aL, aF, a5, (KX Z Z)⟩
theorem QoE : (Tryz.f111.name == "runtime.NumGoroutine") = false := by kernel_rfl
end Go.Pw
