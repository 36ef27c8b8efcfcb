/- -/
import Derived.Test.YtpjojkomdndamaaGreatDoorLC
import Derived.Test.YtpjojkomdndamaaGreatDoorMx4
import Derived.Test.YtpjojkomdndamaaGreatDoorMxY
set_option maxRecDepth 100000
set_option maxHeartbeats 4000000
set_option linter.unusedVariables false
namespace Go.Pw
open Go.Proofs
theorem Qii : JU Tryz.prog 184 = some (true, 2) := by kernel_rfl
theorem Qni : QfI Tryz.prog 184 2 = true := by kernel_rfl
theorem YO {w0 w : World} {s : PHeap} {H : List Res} {an : (List Arr2_int)} {a : Value} {r : Nat × (List Arr2_int)} (hm : J7 an = some r) (hS : St w0 s (Res.arr encArr2_int 184 a an :: H) w) :
  Calls Tryz.prog 135 #[a] w fun e w' => ∃ v, e = .returned v ∧ ((J2 fun (bD : Nat) (br : (List Arr2_int)) => ∃ (aN : PHeap) (aT : Value), PHeap.le s aN ∧ St w0 aN (Res.arr encArr2_int 184 a br :: H) w' ∧ v = aT ∧ SubOf 2 a aT 0 bD) r) := by
 unfold J7 at hm
 refine Qw Tryz.func135 Z Z (Zc (Zd (O Z Z (Zo (v := Vn) Z Z (Zb (V (Zc (Zc (Zd (O Z Z (Zm (v := a) Z Z (O Z Z (QP (hS) Qd8 Z Z (O Z Z (Zq Z Z Z (Zb (V ?_)))))))))))))))))
 rcases Qf hm with ⟨q, hm⟩ | ⟨q, hm⟩
 ·refine Qr Z q (Zc (Zd (O Z Z (Zm (v := a) Z Z (O Z Z (Zo (v := a) Z Z (Zb (V (Q0 (Qi ?_))))))))))
  have bK := Zu hm
  subst r
  refine ⟨_, QW Z, ?_⟩
  exact ⟨s, a, (Zv _), hS, Z, (Or.inl ⟨Z, Z, hS.arr_shape⟩)⟩
 refine Qs Z q ?_
 replace q := Zk q
 refine Qq (V (Zc (Zc (Zd (O Z Z (Zo (v := U 1) Z Z (Zb (V ?_))))))))
 obtain ⟨av, bb, bp, bm, bk⟩ := QN hm
 refine QK (M := fun f' w' => ∃ s', (av = .next s' ∨ av = .brk s') ∧ (fun (aD : Int) => ∃ (aO : PHeap) , PHeap.le s aO ∧ St w0 aO (Res.arr encArr2_int 184 a an :: H) w' ∧ f' 0 = a ∧ f' 3 = U aD) s') ?_ ?_
 ·refine Qo (YG (fun s' f' w' => (fun (j : Int) => ∃ (aP : PHeap) , PHeap.le s aP ∧ St w0 aP (Res.arr encArr2_int 184 a an :: H) w' ∧ f' 0 = a ∧ f' 3 = U j) s') bb ?_ ?_)
  ·exact ⟨s, (Zv _), hS, Z, Z⟩
  intro j ap bU ct bd b aC
  obtain ⟨ab, ar, aq, m, n⟩ := bd
  refine Zc (Zc (Zd (O Z Z (Zm (v := U j) Z n (O Z Z (Zm (v := a) Z m (O Z Z (QP (aq) Qd8 Z Z (O Z Z (Zq Z Z Z (Zb (V ?_))))))))))))
  rcases Qf b with ⟨t, b⟩ | ⟨t, b⟩
  ·refine Qr Z t (Qq (V (Zc (Qo (Zc (KT (n0 := 10) (qs 0 10 .done) Yc (by kernel_rfl) (by kernel_rfl) ?_))))))
   have l := aq.drew
   refine Qm Z Z (Zm (v := a) Z m ⟨Z, ?_⟩)
   refine Qm Z Z (Zm (v := U j) Z n ⟨Z, ?_⟩)
   obtain ⟨aV, ag, b⟩ := Zg b
   obtain ⟨bZ, bE, ay⟩ := l.arr_at ag
   refine Qm Z Z (Qd Qd8 Z ay Z (Qg ag).1 (Qg ag).2.1 ⟨Z, ?_⟩)
   refine Qm Z Z (Qt (F := encArr2_int) (l) ay Qii Z Z Z ag (Sub.refl _) ?_)
   intro cn b1
   obtain rfl := KD.1 b1
   refine ⟨Z, ?_⟩
   refine Qm Z Z (Zm (v := a) Z m ⟨Z, ?_⟩)
   refine Qm Z Z (Zm (v := U j) Z n ⟨Z, ?_⟩)
   refine Qm Z Z (Exec.sub Z Z Z ⟨Z, ?_⟩)
   obtain ⟨aW, ah, b⟩ := Zg b
   obtain ⟨ca, bF, az⟩ := l.arr_at ah
   refine Qm Z Z (Qd Qd8 Z az Z (Qg ah).1 (Qg ah).2.1 ⟨Z, ?_⟩)
   refine Qm Z Z (Qt (F := encArr2_int) (l) az Qii Z Z Z ah (Sub.refl _) ?_)
   intro co b2
   obtain rfl := KD.1 b2
   refine ⟨Z, ?_⟩
   refine Qm Z Z (QhY (xs := [aV.a0, aV.a1]) (ys := [aW.a0, aW.a1]) Qni Z Z Z Z Z Z Z ⟨Z, ?_⟩)
   refine QG (Zb (V ?_))
   rcases Qf b with ⟨u, b⟩ | ⟨u, b⟩
   ·refine Qr Z u (Zc (Zd (O Z Z (Zm (v := a) Z m (O Z Z (Zm (v := U j) Z n ?_))))))
    obtain ⟨ch, ai, b⟩ := Zg b
    refine O Z Z (Yf (l) Qd8 Z Z Z ai ?_)
    intro k ac
    refine O Z Z (Zo (v := k) Z Z (Zb (V (Zc (Zc (Zd (O Z Z (Zo (v := U 1) Z Z (Zb (V ?_))))))))))
    obtain ⟨aw, bc, cf, bn, bl⟩ := QN b
    refine QK (M := fun f' w' => ∃ s', (aw = .next s' ∨ aw = .brk s') ∧ (un3 fun (ad : Int) (aE : Int) (aG : (List Arr2_int)) => ∃ (aQ : PHeap) , PHeap.le ab aQ ∧ St w0 aQ (Res.arr encArr2_int 184 a aG :: H) w' ∧ f' 0 = a ∧ f' 3 = U ad ∧ f' 4 = k ∧ f' 5 = U aE) s') ?_ ?_
    ·refine Qo (YG (fun s' f' w' => (un3 fun (aa : Int) (i : Int) (aH : (List Arr2_int)) => ∃ (aR : PHeap) , PHeap.le ab aR ∧ St w0 aR (Res.arr encArr2_int 184 a aH :: H) w' ∧ f' 0 = a ∧ f' 3 = U aa ∧ f' 4 = k ∧ f' 5 = U i) s') bc ?_ ?_)
     ·exact ⟨ab, (Zv _), l, m, n, Z, Z⟩
     intro bB ax bV cu be c bq
     obtain ⟨aa, i, aH⟩ := bB
     replace c := Qbt c
     obtain ⟨am, aI, a6, ae, af, o, p⟩ := be
     refine Zc (Zc (Zd (O Z Z (Zm (v := U i) Z p (O Z Z (Zm (v := k) Z o (O Z Z (Qa5 Qd8 ac Z Z (O Z Z (Zq Z Z Z (Zb (V ?_))))))))))))
     rcases Qf c with ⟨x, c⟩ | ⟨x, c⟩
     ·refine Qr Z x (Qq (V (Zc (Qo (Zc (KT (n0 := 10) (qs 0 10 .done) Yc (by kernel_rfl) (by kernel_rfl) ?_))))))
      have g := a6.drew
      refine Qm Z Z (Zm (v := k) Z o ⟨Z, ?_⟩)
      refine Qm Z Z (Zm (v := U i) Z p ⟨Z, ?_⟩)
      obtain ⟨aX, aj, c⟩ := Zg c
      obtain ⟨cb, bG, a2⟩ := g.arr_at (QR aj).2.2
      refine Qm Z Z (Kb Qd8 (KU ai).1 ac a2 Z Z Z (QR aj).1 (QR aj).2.1 ⟨Z, ?_⟩)
      refine Qm Z Z (Qt (F := encArr2_int) (g) a2 Qii Z Z Z (QR aj).2.2 (Sub.refl _) ?_)
      intro cp b3
      obtain rfl := KD.1 b3
      refine ⟨Z, ?_⟩
      refine Qm Z Z (Zm (v := k) Z o ⟨Z, ?_⟩)
      refine Qm Z Z (Zm (v := U i) Z p ⟨Z, ?_⟩)
      refine Qm Z Z (Exec.sub Z Z Z ⟨Z, ?_⟩)
      obtain ⟨aY, ak, c⟩ := Zg c
      obtain ⟨cc, bH, a3⟩ := g.arr_at (QR ak).2.2
      refine Qm Z Z (Kb Qd8 (KU ai).1 ac a3 Z Z Z (QR ak).1 (QR ak).2.1 ⟨Z, ?_⟩)
      refine Qm Z Z (Qt (F := encArr2_int) (g) a3 Qii Z Z Z (QR ak).2.2 (Sub.refl _) ?_)
      intro cq b4
      obtain rfl := KD.1 b4
      refine ⟨Z, ?_⟩
      refine Qm Z Z (QhX (xs := [aX.a0, aX.a1]) (ys := [aY.a0, aY.a1]) Qni Z Z Z Z Z Z Z ⟨Z, ?_⟩)
      refine QG (Zb (V ?_))
      obtain ⟨ao, d, c⟩ := Zg c
      refine QK (M := fun f' w' => (J2 fun (aF : Int) (aJ : (List Arr2_int)) => ∃ (aS : PHeap) , PHeap.le am aS ∧ St w0 aS (Res.arr encArr2_int 184 a aJ :: H) w' ∧ f' 0 = a ∧ f' 3 = U aF ∧ f' 4 = k ∧ f' 5 = U i) ao) ?_ ?_
      ·rcases Qf d with ⟨z, d⟩ | ⟨z, d⟩
       ·refine Qr Z z (Zc (Zd (O Z Z (Zm (v := a) Z ae (O Z Z (Zm (v := U aa) Z af (O Z Z (Zm (v := k) Z o (O Z Z (Zm (v := U i) Z p ?_))))))))))
        obtain ⟨c0, al, d⟩ := Zg d
        obtain ⟨cd, bI, a4⟩ := g.arr_at (QR al).2.2
        refine O Z Z (Kb Qd8 (KU ai).1 ac a4 Z Z Z (QR al).1 (QR al).2.1 (O Z Z (Qt (F := encArr2_int) (g) a4 Qii Z Z Z (QR al).2.2 (Sub.refl _) ?_)))
        intro cr b5
        obtain rfl := KD.1 b5
        obtain ⟨c1, au, d⟩ := Zg d
        obtain ⟨ce, bJ, a5⟩ := g.arr_at au
        refine O Z Z (Qd Qd8 Z a5 Z (Qg au).1 (Qg au).2.1 ?_)
        obtain ⟨cg, b6, d⟩ := Zg d
        refine O Z Z (QQ g a5 Qii Z Z Z Z (KD.2 Z) b6 ?_)
        intro cv bi
        refine Zb (V (Zd (O Z Z (Zm (v := U aa) Z af (O Z Z (Exec.add Z Z Z (O Z Z (Zo (v := U (IntKind.i64.wrap (aa + 1))) Z Z (Zb (V ?_))))))))))
        have bL := Zu d
        subst ao
        exact ⟨am, (Zv _), bi, ae, Z, o, p⟩
       refine Qs Z z ?_
       replace z := Zk z
       refine Qq (V ?_)
       have bM := Zu d
       subst ao
       exact ⟨am, (Zv _), g, ae, af, o, p⟩
      intro bW cw bf
      obtain ⟨aF, aJ⟩ := ao
      replace c := Jp c
      obtain ⟨b8, bs, bj, bv, bw, bx, bz⟩ := bf
      refine (Qz (V (Zd (O Z Z (Zm (v := U i) Z bz (O Z Z (Exec.add Z Z Z (O Z Z (Zo (v := U (IntKind.i64.wrap (i + 1))) Z Z (Zb (V ?_)))))))))))
      have bN := Zu c
      subst ax
      refine ⟨_, Z, ?_⟩; exact ⟨b8, (Zt aI bs), bj, bv, bw, bx, Z⟩
     refine Qs Z x ?_
     replace x := Zk x
     refine QJ (Qn (Qn (Q9 (V ?_))))
     have bO := Zu c
     subst ax
     refine ⟨_, .inr (bq (by intro _ h; cases h)), ?_⟩; exact ⟨am, aI, a6, ae, af, o, p⟩
    rintro bX cx ⟨bC, aA, bg⟩
    have b := aA.elim (bn _) (bl _)
    clear aA
    obtain ⟨ad, aE, aG⟩ := bC
    replace b := Qbt b
    obtain ⟨b9, bt, a7, aK, aL, ck, cl⟩ := bg
    refine (V (Zc (Zd (O Z Z (Zm (v := a) Z aK (O Z Z (Zm (v := U ad) Z aL ?_)))))))
    obtain ⟨ci, aM, b⟩ := Zg b
    refine O Z Z (Yf (a7) Qd8 Z Z Z aM ?_)
    intro cs aZ
    refine O Z Z (Qa9 (E := encArr2_int) (y := (⟨0, 0⟩ : Arr2_int)) a7 aZ (KU aM).2.2.2.2.2 Qd8 Qnq ⟨[U 0], [U 0], Z, Z, Z⟩ Z Z ?_)
    intro cy a8
    refine Zb (V (Zc (Zd (O Z Z (Zm (v := a) Z aK (O Z Z (Zm (v := U ad) Z aL ?_)))))))
    obtain ⟨cj, b7, b⟩ := Zg b
    refine O Z Z (Qcc (a8) Qd8 Z Z Z b7 ?_)
    intro aU ba
    refine O Z Z (Zo (v := aU) Z Z (Zb (V (Q0 (QC (Qi (Qi (QC (Qi (Qi ?_))))))))))
    have bP := Zu b
    subst ap
    have bo := bp _ (aC (by intro _ h; cases h))
    have bQ := Zu bo
    subst r
    refine ⟨_, QW Z, ?_⟩
    exact ⟨b9, aU, (Zt ar bt), a8, Z, ba⟩
   refine Qs Z u ?_
   replace u := Zk u
   refine Qq (Qz (V (Zd (O Z Z (Zm (v := U j) Z n (O Z Z (Exec.add Z Z Z (O Z Z (Zo (v := U (IntKind.i64.wrap (j + 1))) Z Z (Zb (V ?_)))))))))))
   have bR := Zu b
   subst ap
   refine ⟨_, Z, ?_⟩; exact ⟨ab, ar, l, m, Z⟩
  refine Qs Z t ?_
  replace t := Zk t
  refine QJ (Qn (Qn (Q9 (V ?_))))
  have bS := Zu b
  subst ap
  refine ⟨_, .inr (aC (by intro _ h; cases h)), ?_⟩; exact ⟨ab, ar, aq, m, n⟩
 rintro bY cz ⟨aD, aB, bh⟩
 have hm := aB.elim (bm _) (bk _)
 clear aB
 obtain ⟨bA, bu, a9, b0, cm⟩ := bh
 refine (V (Zc (Zd (O Z Z (Zm (v := a) Z b0 (O Z Z (Zo (v := a) Z Z (Zb (V (Q0 ?_))))))))))
 have bT := Zu hm
 subst r
 refine ⟨_, QW Z, ?_⟩
 exact ⟨bA, a, bu, a9, Z, (Or.inl ⟨Z, Z, a9.arr_shape⟩)⟩
theorem QdA {w0 w : World} {s : PHeap} {H : List Res} {l : System} {x : (List Int)} {al : Value} {ad : Value} {am : Value} {j : Value} {r : (List Int) × Int} (hm : Yb l x = some r) (hS : St w0 s (Res.arr (Qa .i64) 3 j x :: H) w) (df : SliceRep (Qa .i64) s al l.Costs) (ap : SliceRep encEdge s ad l.Edges) (dg : SliceRep encBool s am l.Goals) :
  Calls Tryz.prog 114 #[Value.agg #[U (l.States), U (l.Init), al, ad, am], j] w fun e w' => ∃ v, e = .returned v ∧ ((J2 fun (dc : (List Int)) (dd : Int) => ∃ (bg : PHeap) (bm : Value), PHeap.le s bg ∧ St w0 bg (Res.arr (Qa .i64) 3 j x :: Res.arr (Qa .i64) 3 bm dc :: H) w' ∧ v = Value.tuple #[bm, U dd]) r) := by
 unfold Yb at hm
 refine Qw Tryz.func114 Z Z (Zc (Zd (O Z Z (Exec.box (cs := [U (l.States), U (l.Init), al, ad, am]) hS Z Z Z ?_))))
 intro a4 ej aC
 refine O Z Z (Zo (v := Vn) Z Z (O Z Z (Zo (v := U 0) Z Z (Zb (V (Zc (Zd (O Z Z (Zp JV Z Z Z (O Z Z (Zn (aC) A3 Z Z Z ?_)))))))))))
 obtain ⟨dD, cz, hm⟩ := Zg hm
 refine O Z Z (QbL (F := encArr2_int) (T2 := 184) aC Qki Qon Z Z Z cz ?_)
 intro d bN ek aD
 refine O Z Z (Zo (v := d) Z Z (Zb (V (Zc (Zc (Zd (O Z Z (Zp QaN Z Z Z (O Z Z (Zn (aD.f2) A35 Z Z Z (O Z Z (Zr S35 Z Z ap (O Z Z (Zm (v := U 0) Z Z (Zb (V ?_))))))))))))))))
 obtain ⟨ac, bp, hm⟩ := Zg hm
 refine Qo (JZ (fun k' s' f' w' => (fun (ac : (List (List Arr2_int))) => ∃ (bh : PHeap) (o : List Value), PHeap.le s bh ∧ St w0 bh (Res.arr (Qa .i64) 3 j x :: Res.box a4 38 [U (l.States), U (l.Init), al, ad, am] :: Res.arr encRaw 183 d o :: Res.rows encArr2_int 184 o ac :: H) w' ∧ f' 1 = j ∧ f' 2 = Vq a4 ∧ f' 6 = d ∧ f' 19 = ad ∧ f' 20 = U ((l.Edges.length : Int)) ∧ f' 21 = U (k' : Int)) s') bp ?_ ?_ ?_)
 ·have bz := aD.f2
  exact ⟨s, bN, (Zv _), bz.f3, Z, Z, Z, Z, Z, Z⟩
 ·intro bP ac cL d0 el bK bs i
  obtain ⟨cM, o, aL, aE, aM, cd, aa, aN, aO, a2⟩ := bs
  refine Zc (Zd (O Z Z (Zq Z a2 aO (Zb (V (Zc (QL (Zx (decide_eq_true (by omega))) (Qq (V (Zc (Qo (Zc (Zd ?_)))))))))))))
  obtain ⟨g, c0, i⟩ := Zg i
  refine O Z Z (Qy S35 Z aN a2 (ap.mono aL) c0 ?_)
  intro dh dN bo
  refine O Z Z (Zw (E := encEdge) aE A85 Z Z Z bo ?_)
  intro ee c1
  obtain rfl := JX.1 c1
  refine O Z Z (Exec.alloc (cs := [U 0, U 0, U 0]) aE Z85 Z Z ?_)
  intro di em b0
  refine O Z Z (Qe (ds := [U (g.From), U (g.Label), U (g.To)]) (es := [U (g.From), U (g.Label), U (g.To)]) b0 A85 Z Z Z Z (Zj Z (Zj Z (Zj Z Q5))) (Nat.le_of_ble_eq_true Z) Z ?_)
  intro en b1
  refine Zb (V (KT (n0 := 18) (qs 0 16 (.e 16 [0, 1, 2, 3, 4, 5, 6, 7] (.e 17 [0, 1, 2] .done))) Yc (by kernel_rfl) (by kernel_rfl) ?_))
  have m := b1.drew
  refine Qm Z Z (Zm (v := d) Z aa ⟨Z, ?_⟩)
  refine Qm Z Z (Zp Qbx Z Z Z ⟨Z, ?_⟩)
  refine Qm Z Z (Zn (m) A3 Z Z Z ⟨Z, ?_⟩)
  refine Qm Z Z (Zm (v := d) Z aa ⟨Z, ?_⟩)
  refine Qm Z Z (Zp Qbx Z Z Z ⟨Z, ?_⟩)
  refine Qm Z Z (Zn (m) A3 Z Z Z ⟨Z, ?_⟩)
  obtain ⟨dT, aW, i⟩ := Zg i
  obtain ⟨dC, n, a6, _⟩ := (((m.f4).f4).f1).rows_at aW
  obtain ⟨d6, dl, y⟩ := ((m.f4).f4).arr_at n
  refine Qm Z Z (Qd Qki Z y Z (Qg n).1 (Qg n).2.1 ⟨Z, ?_⟩)
  refine Qm Z Z (Qt (F := encRaw) ((m.f4).f4) y Qmv Z Z Z n (Sub.refl _) ?_)
  intro cW aX
  replace aX := (Yr.1 aX).1
  subst cW
  refine ⟨Z, ?_⟩
  refine Qm Z Z (Zp Qaw Z Z Z ⟨Z, ?_⟩)
  refine Qm Z Z (Zn (m) A3 Z Z Z ⟨Z, ?_⟩)
  refine Qm Z Z (Zm (v := j) Z aM ⟨Z, ?_⟩)
  refine Qm Z Z (Zp Qan Z Z Z ⟨Z, ?_⟩)
  refine Qm Z Z (Zn (m) A3 Z Z Z ⟨Z, ?_⟩)
  obtain ⟨u, ai, i⟩ := Zg i
  obtain ⟨d7, dm, a7⟩ := (m.f1).arr_at ai
  refine Qm Z Z (Qd JG Z a7 Z (Qg ai).1 (Qg ai).2.1 ⟨Z, ?_⟩)
  refine Qm Z Z (Qt (F := (Qa .i64)) (m.f1) a7 A3 Z Z Z ai (Sub.refl _) ?_)
  intro ef c2
  obtain rfl := Qv.1 c2
  refine ⟨Z, ?_⟩
  refine Qm Z Z (Exec.build Z (Qc (c := [U (g.Label)]) (Qh Z Z) (Qc (c := [U u]) (Qh Z Z) Qu)) (v := Value.agg #[U (g.Label), U u]) (fun _ => by kernel_rfl) ⟨Z, ?_⟩)
  refine JQ Z Z (Exec.buildSlice (Te := 184) (cs := [U (g.Label), U u]) m Z (Qc (c := [U (g.Label), U u]) (Qh Z Z) Qu) (fun _ => by kernel_rfl) ?_)
  intro dj eo af
  refine ⟨(Qb (Q4 Z Z (Zm (v := d) Z aa ⟨Z, Z⟩)) (Qb (Q4 Z Z (Zp Qbx Z Z Z ⟨Z, Z⟩)) (Qb (Q4 Z Z (Zn (af.f1) A3 Z Z Z ⟨Z, Z⟩)) (Qb (Q4 Z Z (Zm (v := d) Z aa ⟨Z, Z⟩)) (Qb (Q4 Z Z (Zp Qbx Z Z Z ⟨Z, Z⟩)) (Qb (Q4 Z Z (Zn (af.f1) A3 Z Z Z ⟨Z, Z⟩)) (Qb (Q4 Z Z (Qd Qki Z y Z (Qg n).1 (Qg n).2.1 ⟨Z, Z⟩)) (Qb (Q4 Z Z (Qt (F := encRaw) ((af.f5).f5) y Qmv Z Z Z n (Sub.refl _) (fun _ q => ⟨Z, (Yr.1 q).1⟩))) QV)))))))), ?_⟩
  have b2 := (((af.f5).f5).f1).rows_split a6 (Qg aW).2.2
  obtain ⟨dE, c3, i⟩ := Zg i
  refine JQ Z Z (QZ (E := encArr2_int) (ys := [(⟨g.Label, u⟩ : Arr2_int)]) (b2.f3).f1 Qd8 Qnq Z (by decide) Z Z Z Z ⟨[U (g.Label), U u], [], Z, ⟨[U (g.Label)], [U u], Z, Z, Z⟩, Z⟩ Z c3 ?_)
  intro eg ep aF
  refine ⟨(Qb (Q4 Z Z (Zm (v := d) Z aa ⟨Z, Z⟩)) (Qb (Q4 Z Z (Zp Qbx Z Z Z ⟨Z, Z⟩)) (Qb (Q4 Z Z (Zn (aF.f3) A3 Z Z Z ⟨Z, Z⟩)) QV))), ?_⟩
  refine QG (O Z Z (Qd Qki Z y Z (Qg n).1 (Qg n).2.1 ?_))
  obtain ⟨dF, c4, i⟩ := Zg i
  refine O Z Z (QbK ((aF.f2).f2).f2 a6 y Qmv Z Z Z Z c4 ?_)
  intro bO er b3
  refine Zb (Qz (V (Zd (O Z Z (Exec.add Z a2 Z (O Z Z (Zm (v := U (IntKind.i64.wrap ((bP : Int) + 1))) Z Z (Zb (V ?_)))))))))
  have dw := Zu i
  subst cL
  exact ⟨cM, bO, aL, (((b3.f2).drop).f3).f3, aM, cd, aa, aN, aO, (Eq.trans Z (QF bK (SliceRep.le ap)))⟩
 intro d1 et bt
 obtain ⟨bi, o, bR, aG, ce, cf, cg, dO, ch, cZ⟩ := bt
 refine Zc (Zd (O Z Z (Zq Z cZ ch (Zb (V (Zc (QB (Zx (decide_eq_false (by omega))) (QJ (Qn (Qn (Q9 (V (Zc (Zd (O Z Z (Zp JV Z cf Z (O Z Z (Zn (aG.f1) A3 Z Z Z ?_))))))))))))))))))
 obtain ⟨dG, c5, hm⟩ := Zg hm
 refine O Z Z (Kr (E := encStr) aG Qkj Z9 Z Z Z Z c5 ?_)
 intro t eu ab
 refine O Z Z (Zo (v := t) Z Z (Zb (V (Zc (Zc (Zd (O Z Z (Zm (v := d) Z cg (O Z Z (QgO ((ab.f4).f4) ((ab.f4).f4).f1.rows_len Qki Z Z (O Z Z (Zm (v := U 0) Z Z (Zb (V ?_))))))))))))))
 obtain ⟨cS, bq, hm⟩ := Zg hm
 refine Qo (JZ (fun k' s' f' w' => (J2 fun (ah : (List ByteArray)) (aw : (List (List Arr2_int))) => ∃ (bj : PHeap) , PHeap.le bi bj ∧ St w0 bj (Res.arr (Qa .i64) 3 j x :: Res.arr encStr 9 t ah :: Res.arr encRaw 183 d o :: Res.rows encArr2_int 184 o aw :: H) w' ∧ f' 1 = j ∧ f' 9 = t ∧ f' 48 = d ∧ f' 49 = U ((ac.length : Int)) ∧ f' 50 = U (k' : Int)) s') bq ?_ ?_ ?_)
 ·have b4 := (ab.f2).drop
  exact ⟨bi, (Zv _), (((b4.f3).f3).f2).f3, ce, Z, Z, Z, Z⟩
 ·intro p cT cN d2 ev bL bu a
  obtain ⟨ah, aw⟩ := cT
  replace a := Jp a
  obtain ⟨dX, bS, ag, aP, ci, aQ, aR, an⟩ := bu
  refine Zc (Zd (O Z Z (Zq Z an aR (Zb (V (Zc (QL (Zx (decide_eq_true (by omega))) (Qq (V (Zc (Qo (Zc (Zd (O Z Z (Zm (v := U ((p : Int))) Z an ?_)))))))))))))))
  obtain ⟨dU, aY, a⟩ := Zg a
  obtain ⟨aq, ae, z, _⟩ := (((ag.f3).f3).f1).rows_at aY
  obtain ⟨d8, dn, a8⟩ := ((ag.f3).f3).arr_at ae
  refine O Z Z (Qd Qki Z (Eq.trans aQ a8) an (Qg ae).1 (Qg ae).2.1 (O Z Z (Qt (F := encRaw) ((ag.f3).f3) a8 Qmv Z Z Z ae (Sub.refl _) ?_)))
  intro cX aZ
  replace aZ := (Yr.1 aZ).1
  subst cX
  refine O Z Z (Zo (v := U ((p : Int))) Z Z (O Z Z (Zo (v := aq) Z Z (Zb (V (Zc (Zd (O Z Z (Zm (v := aq) Z Z ?_)))))))))
  have b5 := (((ag.f3).f3).f1).rows_split z (Qg aY).2.2
  obtain ⟨dH, c6, a⟩ := Zg a
  refine O Z Z (Tc Z Z Z (Zi Z (Zi Z Qk)) (QgE c6 b5).r ?_)
  rintro _ ew ⟨dY, bT, b6, rfl⟩
  obtain ⟨dI, ba, a⟩ := Zg a
  have aH := (((b6.f2).f2).f2).rows_back z (Qao ba).2.1
  rw [← (Qao ba).2.2] at aH
  refine Zb (V (Zc (Zd (O Z Z (Exec.alloc (cs := [Vp none, Vn]) aH.f1 Qom Z Z ?_)))))
  intro a5 ex b7
  have ar := St.bld_close (.inl rfl) ((QiT (E := Qa .u8) (Te := 5) b7).perm (.swap _ _ _))
  refine Zb (V (Zc (Zd (O Z Z (Zm (v := j) Z aP (O Z Z (Zm (v := U ((p : Int))) Z Z ?_)))))))
  obtain ⟨eC, aj, a⟩ := Zg a
  obtain ⟨d9, dp, a9⟩ := (ar.f3).arr_at aj
  refine O Z Z (Qd JG Z a9 Z (Qg aj).1 (Qg aj).2.1 (O Z Z (Qt (F := (Qa .i64)) (ar.f3) a9 A3 Z Z Z aj (Sub.refl _) ?_)))
  intro eh c7
  obtain rfl := Qv.1 c7
  obtain ⟨eE, c8, a⟩ := Zg a
  refine O Z Z (Tc Z Z Z (Zi Z Qk) (QaR c8 ar).r ?_)
  rintro _ ey ⟨dZ, bU, b8, rfl⟩
  obtain ⟨dJ, c9, a⟩ := Zg a
  refine O Z Z (Tc Z Z Z (Zi Z (Zi Z Qk)) (QdM c9 b8).r ?_)
  rintro _ ez ⟨rfl, b9⟩
  refine Zb (V (Zc (Zc (Zd (O Z Z (Zm (v := aq) Z Z ?_))))))
  obtain ⟨dV, cA, a⟩ := Zg a
  have bA := (((b9.f2).f2).f1).rows_split z (Qg cA).2.2
  obtain ⟨cU, cB, a⟩ := Zg a
  obtain ⟨de, dK⟩ := cU
  replace a := Jp a
  refine O Z Z (Tc Z Z Z (Zi Z Qk) (YO cB bA).r ?_)
  rintro cY e0 ⟨bk, _, bV, bB, rfl, bf⟩
  obtain ⟨bW, bb, a⟩ := Zg a
  have aI := (((bB.f2).f2).f2).rows_back z (Qao bb).2.1
  rw [← (Qao bb).2.2] at aI
  refine O Z Z (Qa5 Qd8 bf Z Z (O Z Z (Zm (v := U 0) Z Z (Zb (V ?_)))))
  obtain ⟨ed, cC, a⟩ := Zg a
  obtain ⟨ax, br, a⟩ := Zg a
  refine Qo (JZ (fun k' s' f' w' => (fun (ax : (List Int)) => ∃ (bl : PHeap) , PHeap.le bk bl ∧ St w0 bl (Res.arr (Qa .i64) 3 j x :: Res.arr encStr 9 t ah :: Res.bld 190 5 a5 ax :: Res.arr encRaw 183 d o :: Res.rows encArr2_int 184 o bW :: H) w' ∧ f' 1 = j ∧ f' 9 = t ∧ f' 10 = U ((p : Int)) ∧ f' 12 = Vq a5 ∧ f' 48 = d ∧ f' 49 = U ((ac.length : Int)) ∧ f' 50 = U ((p : Int)) ∧ f' 64 = cY ∧ f' 65 = U ((de : Int)) ∧ f' 66 = U (k' : Int)) s') br ?_ ?_ ?_)
  ·have bC := (aI.f1).f2
   exact ⟨bk, (Zv _), (bC.f4).f4, aP, ci, Z, Z, aQ, aR, an, Z, Z, Z⟩
  ·intro bQ ax cO d3 e1 bM bv b
   obtain ⟨ea, bX, au, cj, ck, cl, aS, cm, cn, co, aT, aU, a3⟩ := bv
   refine Zc (Zd (O Z Z (Zq Z a3 aU (Zb (V (Zc (QL (Zx (decide_eq_true (by omega))) (Qq (V (Zc (Qo (Zc (Zd ?_)))))))))))))
   obtain ⟨dW, bc, b⟩ := Zg b
   obtain ⟨ao, ak, b⟩ := Zg b
   obtain ⟨dA, dq, aA⟩ := ((((au.f4).f4).f1).rows_split z (Qg bc).2.2).arr_at (QR ak).2.2
   refine O Z Z (Kb Qd8 (Int.le_refl 0) bf aA Z aT a3 (QR ak).1 (QR ak).2.1 (O Z Z (Qt (F := encArr2_int) ((((au.f4).f4).f1).rows_split z (Qg bc).2.2) aA Qii Z Z Z (QR ak).2.2 (Sub.refl _) ?_)))
   intro ei cD
   obtain rfl := KD.1 cD
   refine O Z Z (Exec.alloc (cs := [U 0, U 0]) au Qnq Z Z ?_)
   intro dk e2 bD
   refine O Z Z (Qe (ds := [U (ao.a0), U (ao.a1)]) (es := [U (ao.a0), U (ao.a1)]) bD Qii Z Z Z Z (Zj Z (Zj Z Q5)) (Nat.le_of_ble_eq_true Z) Z ?_)
   intro e3 av
   refine Zb (V (KT (n0 := 10) (.q 0 (.q 1 (.q 5 (.q 6 (.e 2 [5, 6] (.q 3 (.q 4 (.e 7 [3, 4] (.q 8 (.e 9 [] .done)))))))))) Yc (by kernel_rfl) (by kernel_rfl) (Qm Z Z (Kg Tryz.underlying184 A3 Z Z Z (by decide) Z ⟨Z, ?_⟩))))
   refine Qm Z Z (Zn (av.drew) A3 Z Z Z ⟨Z, ?_⟩)
   refine Qm Z Z (Kg Tryz.underlying184 A3 Z Z Z (by decide) Z ⟨Z, ?_⟩)
   refine Qm Z Z (Zn (av.drew) A3 Z Z Z ⟨Z, ?_⟩)
   obtain ⟨eF, cE, b⟩ := Zg b
   refine JQ Z Z (Tc Z Z Z (Zi Z Qk) (QaR cE av.drew).r ?_)
   rintro _ e4 ⟨eb, bY, aJ, rfl⟩
   refine ⟨(Qb (Q4 Z Z (Kg Tryz.underlying184 A3 Z Z Z (by decide) Z ⟨Z, Z⟩)) (Qb (Q4 Z Z (Zn (aJ) A3 Z Z Z ⟨Z, Z⟩)) QV)), ?_⟩
   obtain ⟨dr, bd, b⟩ := Zg b
   refine Qm Z Z (Qa4 Z Z Z bd ⟨Z, ?_⟩)
   obtain ⟨dt, be, b⟩ := Zg b
   refine Qm Z Z (Qa4 Z Z Z be ⟨Z, ?_⟩)
   obtain ⟨eG, cF, b⟩ := Zg b
   refine JQ Z Z (Tc Z Z Z (Zi Z Qk) (QaR cF aJ).r ?_)
   rintro _ e5 ⟨cP, bZ, bE, rfl⟩
   refine ⟨(Qb (Q4 Z Z (Qa4 Z Z Z bd ⟨Z, Z⟩)) (Qb (Q4 Z Z (Qa4 Z Z Z be ⟨Z, Z⟩)) QV)), ?_⟩
   obtain ⟨du, cG, b⟩ := Zg b
   refine Qm Z Z (Qa4 Z Z Z cG ⟨Z, ?_⟩)
   obtain ⟨dL, cH, b⟩ := Zg b
   refine JQ Z Z (Tc Z Z Z (Zi aS (Zi Z Qk)) (QdM cH bE.f3).r ?_)
   rintro _ e6 ⟨rfl, bF⟩
   refine ⟨QV, ?_⟩
   refine QG (Zb (Qz (V (Zd (O Z Z (Exec.add Z a3 Z (O Z Z (Zm (v := U (IntKind.i64.wrap ((bQ : Int) + 1))) Z Z (Zb (V ?_))))))))))
   have dx := Zu b
   subst cO
   exact ⟨cP, (Zt (Zt bX bY) bZ), ((((((bF.f1).drop).f4).f4).f2).f4).f4, cj, ck, cl, aS, cm, cn, co, aT, aU, (Eq.trans Z (QF bM (by have h := Q7 cC; simp at h; simp only [maxLen]; omega)))⟩
  intro d4 e7 bw
  obtain ⟨cQ, ca, bG, cp, aV, cq, cr, ct, cu, cv, dP, cw, da⟩ := bw
  refine Zc (Zd (O Z Z (Zq Z da cw (Zb (V (Zc (QB (Zx (decide_eq_false (by omega))) (QJ (Qn (Qn (Q9 (V (Zd (O Z Z (Zm (v := t) Z aV (O Z Z (Zm (v := U ((p : Int))) Z cq ?_)))))))))))))))))
  obtain ⟨dS, cI, a⟩ := Zg a
  refine O Z Z (Tc Z Z Z (Zi cr Qk) (Qg0 cI bG.f2).r ?_)
  rintro _ e8 ⟨rfl, aK⟩
  obtain ⟨eD, ay, a⟩ := Zg a
  obtain ⟨dB, dv, aB⟩ := (aK.f1).arr_at ay
  refine O Z Z (Qd Qkj Z aB Z (Qg ay).1 (Qg ay).2.1 ?_)
  obtain ⟨dM, cJ, a⟩ := Zg a
  refine O Z Z (QQ aK.f1 aB A9 Z Z Z Z (QdX.2 Z) cJ ?_)
  intro e9 bH
  refine Zb (Qz (V (Zd (O Z Z (Exec.add Z cv Z (O Z Z (Zm (v := U (IntKind.i64.wrap ((p : Int) + 1))) Z Z (Zb (V ?_)))))))))
  have dy := Zu a
  subst cN
  exact ⟨cQ, (Zt (Zt (Zt (Zt bS bT) bU) bV) ca), (((bH.f3).f3).f2).f3, cp, aV, ct, cu, (Eq.trans Z (QF bL (by have h := ((ab.f4).f4).f1.rows_len; have h2 := ((ab.f4).f4).arr_le; omega)))⟩
 intro d5 eA bx
 obtain ⟨ah, aw⟩ := cS
 replace hm := Jp hm
 obtain ⟨ec, cb, bI, dQ, cx, dR, cy, db⟩ := bx
 refine Zc (Zd (O Z Z (Zq Z db cy (Zb (V (Zc (QB (Zx (decide_eq_false (by omega))) (QJ (Qn (Qn (Q9 (V (Zc (Zd (O Z Z (Zm (v := t) Z cx ?_))))))))))))))))
 obtain ⟨cV, cK, hm⟩ := Zg hm
 obtain ⟨eH, bn⟩ := cV
 replace hm := Jp hm
 refine O Z Z (Tc Z Z Z (Zi Z Qk) (QaO cK bI.f1).r ?_)
 rintro _ eB ⟨cR, az, cc, bJ, rfl⟩
 refine O Z Z (Exec.extract (v := az) Z Z Z (O Z Z (Exec.extract (v := U bn) Z Z Z (O Z Z (Zo (v := az) Z Z (O Z Z (Zo (v := U bn) Z Z (Zb (V (Q0 ?_))))))))))
 have dz := Zu hm
 subst r
 refine ⟨_, QbU Z, ?_⟩
 exact ⟨cR, az, (Zt (Zt bR cb) cc), (((((bJ.drop).f3).f3).drop).drop).f1, (Yp Z Z)⟩
theorem Qar {w0 w : World} {s : PHeap} {H : List Res} {a : System} {i : Value} {j : Value} {c : Value} {r : (List Int) × (Option Int)} (hm : JY a = some r) (hS : St w0 s (H) w) (am : SliceRep (Qa .i64) s i a.Costs) (an : SliceRep encEdge s j a.Edges) (o : SliceRep encBool s c a.Goals) :
  Calls Tryz.prog 83 #[Value.agg #[U (a.States), U (a.Init), i, j, c]] w fun e w' => ∃ v, e = .returned v ∧ ((J2 fun (bt : (List Int)) (bu : (Option Int)) => ∃ (a9 : PHeap) (aE : Value), PHeap.le s a9 ∧ St w0 a9 (Res.arr (Qa .i64) 3 aE bt :: H) w' ∧ v = Value.tuple #[aE, QD 50 (bu)]) r) := by
 unfold JY at hm
 refine Qw Tryz.func83 Z Z (Zc (Zd (O Z Z (Exec.box (cs := [U (a.States), U (a.Init), i, j, c]) hS Z Z Z ?_))))
 intro m bM av
 refine O Z Z (Zo (v := Vn) Z Z (O Z Z (Zo (v := QD 50 (none)) Z Z (Zb (V (Zc (Zc (Zd (O Z Z (Ql (ds := [U (a.States), U (a.Init), i, j, c]) (av) KS Z Z Z ?_))))))))))
 obtain ⟨bY, bf, hm⟩ := Zg hm
 refine O Z Z (Tc Z Z Z (Zi Z Qk) (KZ bf av am an o).r ?_)
 rintro _ bN ⟨ah, g, ad, rfl⟩
 refine O Z Z (Exec.not Z Z (Zb (V ?_)))
 rcases Qf hm with ⟨p, hm⟩ | ⟨p, hm⟩
 ·refine Qr Z p (Zc (Zd (O Z Z (Exec.makeInterface C50 Z Z (O Z Z (Zo (v := Vn) Z Z (O Z Z (Zo (v := QD 50 (some 2)) Z Z (Zb (V (Q0 (Qi ?_))))))))))))
  have bx := Zu hm
  subst r
  refine ⟨_, QbU Z, ?_⟩
  have aM := ad.nilArr (Qa .i64) 3
  exact ⟨ah, Vn, g, (aM.f1).drop, (Yp Z Z)⟩
 refine Qs Z p ?_
 replace p := Zk p
 refine Qq (V (Zc (Zd (O Z Z (Zp JV Z Z Z (O Z Z (Zn (ad) A3 Z Z Z ?_)))))))
 obtain ⟨b9, bg, hm⟩ := Zg hm
 refine O Z Z (Kr (E := encStr) ad Qkj Z9 Z Z Z Z bg ?_)
 intro u bO aw
 refine O Z Z (Zo (v := u) Z Z (Zb (V (Zc (Zc (Zd (O Z Z (Zp Qby Z Z Z (O Z Z (Zn (aw.f1) A36 Z Z Z (O Z Z (Zr S36 Z Z (o.mono g) (O Z Z (Zm (v := U 0) Z Z (Zb (V ?_))))))))))))))))
 obtain ⟨ae, aG, hm⟩ := Zg hm
 refine Qo (JZ (fun k' s' f' w' => (fun (ae : (List ByteArray)) => ∃ (aA : PHeap) , PHeap.le ah aA ∧ St w0 aA (Res.box m 38 [U (a.States), U (a.Init), i, j, c] :: Res.arr encStr 9 u ae :: H) w' ∧ f' 1 = Vq m ∧ f' 4 = u ∧ f' 19 = c ∧ f' 20 = U ((a.Goals.length : Int)) ∧ f' 21 = U (k' : Int)) s') aG ?_ ?_ ?_)
 ·have aN := aw.f1
  exact ⟨ah, (Zv _), aN, Z, Z, Z, Z, Z⟩
 ·intro x ae bm b3 bP aT aI l
  obtain ⟨bH, a2, ax, aZ, a5, a6, a7, ac⟩ := aI
  refine Zc (Zd (O Z Z (Zq Z ac a7 (Zb (V (Zc (QL (Zx (decide_eq_true (by omega))) (Qq (V (Zc (Qo (Zc (Zd (O Z Z (Zm (v := U ((x : Int))) Z ac ?_)))))))))))))))
  obtain ⟨ak, bh, l⟩ := Zg l
  refine O Z Z (Qy S36 Z a6 ac (o.mono (Zt g a2)) bh ?_)
  intro bv bC aF
  refine O Z Z (Zw (E := encBool) ax A4 Z Z Z aF ?_)
  intro bL bi
  obtain rfl := J0.1 bi
  refine O Z Z (Zo (v := U ((x : Int))) Z Z (O Z Z (Zo (v := Vb ak) Z Z (Zb (V (Zd (O Z Z (Zm (v := u) Z a5 (O Z Z (Zm (v := U ((x : Int))) Z Z (O Z Z (Zm (v := Vb ak) Z Z (O Z Z (Tc Z Z Z (Zi Z Qk) (QcO (QaD ak) ax).r ?_))))))))))))))
  rintro _ bQ ⟨bn, aY, ay, rfl⟩
  obtain ⟨bX, ag, l⟩ := Zg l
  obtain ⟨b7, bw, au⟩ := (ay.f1).arr_at ag
  refine O Z Z (Qd Qkj Z au Z (Qg ag).1 (Qg ag).2.1 ?_)
  obtain ⟨bA, bj, l⟩ := Zg l
  refine O Z Z (QQ ay.f1 au A9 Z Z Z Z (QdX.2 Z) bj ?_)
  intro bR aO
  refine Zb (Qz (V (Zd (O Z Z (Exec.add Z ac Z (O Z Z (Zm (v := U (IntKind.i64.wrap ((x : Int) + 1))) Z Z (Zb (V ?_)))))))))
  have bz := Zu l
  subst bm
  exact ⟨bn, (Zt a2 aY), aO.f1, aZ, a5, a6, a7, (Eq.trans Z (QF aT (SliceRep.le (o.mono g))))⟩
 intro b4 bS aJ
 obtain ⟨bI, y, aP, ba, bb, bD, bc, bs⟩ := aJ
 refine Zc (Zd (O Z Z (Zq Z bs bc (Zb (V (Zc (QB (Zx (decide_eq_false (by omega))) (QJ (Qn (Qn (Q9 (V (Zc (Zd (O Z Z (Zm (v := u) Z bb ?_))))))))))))))))
 obtain ⟨bo, bk, hm⟩ := Zg hm
 obtain ⟨bZ, al⟩ := bo
 replace hm := Jp hm
 refine O Z Z (Tc Z Z Z (Zi Z Qk) (QaO bk aP.f1).r ?_)
 rintro _ bT ⟨ai, aa, z, aQ, rfl⟩
 refine O Z Z (Zm (v := Value.tuple #[aa, U al]) Z Z (O Z Z (Exec.extract (v := aa) Z Z Z (O Z Z (Exec.extract (v := U al) Z Z Z (O Z Z (Zo (v := aa) Z Z (O Z Z (Zo (v := U al) Z Z (Zb (V ?_)))))))))))
 obtain ⟨ao, aH, aW, aU, aS⟩ := QN hm
 refine QK (M := fun f' w' => ∃ s', (ao = .next s' ∨ ao = .brk s') ∧ (J2 fun (aq : (List Int)) (a4 : Int) => ∃ (aB : PHeap) (aj : Value), PHeap.le ai aB ∧ St w0 aB (Res.box m 38 [U (a.States), U (a.Init), i, j, c] :: Res.arr (Qa .i64) 3 aj aq :: H) w' ∧ f' 1 = Vq m ∧ f' 7 = aj ∧ f' 8 = U a4) s') ?_ ?_
 ·refine Qo (YG (fun s' f' w' => (J2 fun (ar : (List Int)) (af : Int) => ∃ (aC : PHeap) (ab : Value), PHeap.le ai aC ∧ St w0 aC (Res.box m 38 [U (a.States), U (a.Init), i, j, c] :: Res.arr (Qa .i64) 3 ab ar :: H) w' ∧ f' 1 = Vq m ∧ f' 7 = ab ∧ f' 8 = U af) s') aH ?_ ?_)
  ·have aR := aQ.drop
   exact ⟨ai, aa, (Zv _), aR.f1, ba, Z, Z⟩
  intro bp ap b5 bU aK b aX
  obtain ⟨ar, af⟩ := bp
  replace b := Jp b
  obtain ⟨bJ, ab, t, az, a8, bd, be⟩ := aK
  refine Qo (Zc (Zd (O Z Z (Ql (ds := [U (a.States), U (a.Init), i, j, c]) (az) KS Z a8 Z (O Z Z (Zm (v := ab) Z bd ?_))))))
  obtain ⟨bq, bl, b⟩ := Zg b
  obtain ⟨ca, n⟩ := bq
  replace b := Jp b
  refine O Z Z (Tc Z Z Z (Zi Z (Zi Z Qk)) (QdA bl az.f1 (am.mono (Zt (Zt (Zt g y) z) t)) (an.mono (Zt (Zt (Zt g y) z) t)) (o.mono (Zt (Zt (Zt g y) z) t))).r ?_)
  rintro _ bV ⟨aD, d, a3, a0, rfl⟩
  refine O Z Z (Zm (v := Value.tuple #[d, U n]) Z Z (O Z Z (Exec.extract (v := d) Z Z Z (O Z Z (Exec.extract (v := U n) Z Z Z (O Z Z (Zo (v := d) Z Z (O Z Z (Zo (v := U n) Z Z (Zb (V (Zc (Zd (O Z Z (Zm (v := d) Z Z (O Z Z (Zo (v := d) Z Z (Zb (V (Zc (Zc (Zd (O Z Z (Zm (v := U n) Z Z (O Z Z (Zm (v := U af) Z be (O Z Z (Exec.eql Z Z Z (Zb (V ?_))))))))))))))))))))))))))))))
  rcases Qf b with ⟨q, b⟩ | ⟨q, b⟩
  ·refine Qr Z q (Zc (Zd (O Z Z (Zm (v := d) Z Z (O Z Z (Zo (v := d) Z Z (O Z Z (Zo (v := QD 50 (none)) Z Z (Zb (V (Q0 (Qi (QC (Qi (QC (Qi ?_))))))))))))))))
   have b0 := Zu b
   subst ap
   have aV := aW _ (aX (by intro _ h; cases h))
   have b1 := Zu aV
   subst r
   refine ⟨_, QbU Z, ?_⟩
   exact ⟨aD, d, (Zt (Zt (Zt (Zt g y) z) t) a3), ((a0.drop).f1).drop, (Yp Z Z)⟩
  refine Qs Z q ?_
  replace q := Zk q
  refine Qq (V (Zd (O Z Z (Zm (v := U n) Z Z (O Z Z (Zo (v := U n) Z Z (Zb (Qz (V ?_)))))))))
  have b2 := Zu b
  subst ap
  refine ⟨_, Z, ?_⟩; exact ⟨aD, d, (Zt t a3), (a0.drop).f1, a8, Z, Z⟩
 rintro b6 bW ⟨br, a1, aL⟩
 have hm := a1.elim (aU _) (aS _)
 clear a1
 obtain ⟨aq, a4⟩ := br
 replace hm := Jp hm
 obtain ⟨bK, aj, bB, b8, bE, bF, bG⟩ := aL
 refine ?_
 cases hm
theorem Y8 {w0 w : World} {s : PHeap} {H : List Res} {d : (List Int)} {a : Value} {r : Int} (hm : JD d = some r) (hS : St w0 s (Res.arr (Qa .i64) 3 a d :: H) w) :
  Calls Tryz.prog 109 #[a] w fun e w' => ∃ v, e = .returned v ∧ ((fun (a6 : Int) => ∃ (ag : PHeap) , PHeap.le s ag ∧ St w0 ag (Res.arr (Qa .i64) 3 a d :: H) w' ∧ v = U a6) r) := by
 unfold JD at hm
 refine Qw Tryz.func109 Z Z (Zc (Zd (O Z Z (Zo (v := U 0) Z Z (Zb (V (Zc (Zc (Zd (O Z Z (Zm (v := a) Z Z (O Z Z (QP (hS) JG Z Z (O Z Z (Zq Z Z Z (Zb (V ?_)))))))))))))))))
 obtain ⟨al, k, hm⟩ := Zg hm
 refine QK (M := fun f' w' => (fun (_ : Unit) => ∃ (ah : PHeap) , PHeap.le s ah ∧ St w0 ah (Res.arr (Qa .i64) 3 a d :: H) w' ∧ f' 0 = a) al) ?_ ?_
 ·rcases Qf k with ⟨i, k⟩ | ⟨i, k⟩
  ·refine Qr Z i ?_
   cases k
  refine Qs Z i ?_
  replace i := Zk i
  refine Qq (V ?_)
  have a9 := Zu k
  subst al
  exact ⟨s, (Zv _), hS, Z⟩
 intro aD aN ao
 obtain ⟨u, aw, t, ae⟩ := ao
 refine (V (Zc (Zd (O Z Z (Zm (v := a) Z ae ?_)))))
 obtain ⟨a4, p, hm⟩ := Zg hm
 obtain ⟨aG, a7, z⟩ := t.arr_at p
 refine O Z Z (Qd JG Z z Z (Qg p).1 (Qg p).2.1 (O Z Z (Qt (F := (Qa .i64)) (t) z A3 Z Z Z p (Sub.refl _) ?_)))
 intro aL az
 obtain rfl := Qv.1 az
 refine O Z Z (Zo (v := U a4) Z Z (Zb (V (Zc (Zc (Zd (O Z Z (Zo (v := U 1) Z Z (Zb (V ?_))))))))))
 obtain ⟨x, am, aI, au, ar⟩ := QN hm
 refine QK (M := fun f' w' => ∃ s', (x = .next s' ∨ x = .brk s') ∧ (J2 fun (l : Int) (ac : Int) => ∃ (ai : PHeap) , PHeap.le u ai ∧ St w0 ai (Res.arr (Qa .i64) 3 a d :: H) w' ∧ f' 0 = a ∧ f' 3 = U l ∧ f' 4 = U ac) s') ?_ ?_
 ·refine Qo (YG (fun s' f' w' => (J2 fun (m : Int) (c : Int) => ∃ (aj : PHeap) , PHeap.le u aj ∧ St w0 aj (Res.arr (Qa .i64) 3 a d :: H) w' ∧ f' 0 = a ∧ f' 3 = U m ∧ f' 4 = U c) s') am ?_ ?_)
  ·exact ⟨u, (Zv _), t, ae, Z, Z⟩
  intro a2 y aE aO an b av
  obtain ⟨m, c⟩ := a2
  replace b := Jp b
  obtain ⟨ak, ad, g, n, af, o⟩ := an
  refine Zc (Zc (Zd (O Z Z (Zm (v := U c) Z o (O Z Z (Zm (v := a) Z n (O Z Z (QP (g) JG Z Z (O Z Z (Zq Z Z Z (Zb (V ?_))))))))))))
  rcases Qf b with ⟨j, b⟩ | ⟨j, b⟩
  ·refine Qr Z j (Qq (V (Zc (Qo (Zd (O Z Z (Zm (v := U m) Z af (O Z Z (Zm (v := a) Z n (O Z Z (Zm (v := U c) Z o ?_)))))))))))
   obtain ⟨a5, q, b⟩ := Zg b
   obtain ⟨aH, a8, aa⟩ := g.arr_at q
   refine O Z Z (Qd JG Z aa Z (Qg q).1 (Qg q).2.1 (O Z Z (Qt (F := (Qa .i64)) (g) aa A3 Z Z Z q (Sub.refl _) ?_)))
   intro aM a0
   obtain rfl := Qv.1 a0
   refine O Z Z (Qc5 Z Z Z (O Z Z (Zo (v := U (max m a5)) Z Z (Zb (Qz (V (Zd (O Z Z (Zm (v := U c) Z o (O Z Z (Exec.add Z Z Z (O Z Z (Zo (v := U (IntKind.i64.wrap (c + 1))) Z Z (Zb (V ?_)))))))))))))))
   have aA := Zu b
   subst y
   refine ⟨_, Z, ?_⟩; exact ⟨ak, ad, g, n, Z, Z⟩
  refine Qs Z j ?_
  replace j := Zk j
  refine QJ (Qn (Qn (Q9 (V ?_))))
  have aB := Zu b
  subst y
  refine ⟨_, .inr (av (by intro _ h; cases h)), ?_⟩; exact ⟨ak, ad, g, n, af, o⟩
 rintro aF aP ⟨a3, ab, ap⟩
 have hm := ab.elim (au _) (ar _)
 clear ab
 obtain ⟨l, ac⟩ := a3
 replace hm := Jp hm
 obtain ⟨a1, ax, aq, aJ, ay, aK⟩ := ap
 refine (V (Zc (Zd (O Z Z (Zm (v := U l) Z ay (O Z Z (Zo (v := U l) Z Z (Zb (V (Q0 ?_))))))))))
 have aC := Zu hm
 subst r
 refine ⟨_, QW Z, ?_⟩
 exact ⟨a1, (Zt aw ax), aq, Z⟩
theorem Qe9 {w0 w : World} {s : PHeap} {H : List Res} {d : (List Bool)} {a : Value} {r : Int × Int} (hm : Yz d = some r) (hS : St w0 s (Res.arr encBool 4 a d :: H) w) :
  Calls Tryz.prog 110 #[a] w fun e w' => ∃ v, e = .returned v ∧ ((J2 fun (aK : Int) (aL : Int) => ∃ (ap : PHeap) , PHeap.le s ap ∧ St w0 ap (Res.arr encBool 4 a d :: H) w' ∧ v = Value.tuple #[U aK, U aL]) r) := by
 unfold Yz at hm
 refine Qw Tryz.func110 Z Z (Zc (Zd (O Z Z (Zo (v := U 0) Z Z (O Z Z (Zo (v := U 0) Z Z (Zb (V (Zc (Zc (Zd (O Z Z (Zm (v := a) Z Z (O Z Z (QP (hS) S36 Z Z (O Z Z (Exec.sub Z Z Z (O Z Z (Zo (v := U (IntKind.i64.wrap ((d.length : Int) - 1))) Z Z (Zb (V ?_)))))))))))))))))))))
 obtain ⟨ad, aw, aA, a6, a4⟩ := QN hm
 refine QK (M := fun f' w' => ∃ s', (ad = .next s' ∨ ad = .brk s') ∧ (fun (an : Int) => ∃ (aq : PHeap) , PHeap.le s aq ∧ St w0 aq (Res.arr encBool 4 a d :: H) w' ∧ f' 0 = a ∧ f' 4 = U an) s') ?_ ?_
 ·refine Qo (YG (fun s' f' w' => (fun (c : Int) => ∃ (ar : PHeap) , PHeap.le s ar ∧ St w0 ar (Res.arr encBool 4 a d :: H) w' ∧ f' 0 = a ∧ f' 4 = U c) s') aw ?_ ?_)
  ·exact ⟨s, (Zv _), hS, Z, Z⟩
  intro c y aW bh ay j ak
  obtain ⟨x, aa, ah, ao, o⟩ := ay
  refine Zc (Zc (Zd (O Z Z (Zm (v := U c) Z o (O Z Z (Exec.gtr Z Z Z (Zb (V ?_))))))))
  rcases Qf j with ⟨k, j⟩ | ⟨k, j⟩
  ·refine Qr Z k (Qq (V (Zc (Qo (Zc (Zd (O Z Z (Zm (v := U c) Z o (O Z Z (Exec.sub Z Z Z (O Z Z (Zo (v := U (IntKind.i64.wrap (c - 1))) Z Z (Zb (V ?_))))))))))))))
   obtain ⟨ae, ax, aB, a7, a5⟩ := QN j
   refine QK (M := fun f' w' => ∃ s', (ae = .next s' ∨ ae = .brk s') ∧ (fun (am : Int) => ∃ (au : PHeap) , PHeap.le x au ∧ St w0 au (Res.arr encBool 4 a d :: H) w' ∧ f' 0 = a ∧ f' 4 = U c ∧ f' 5 = U am) s') ?_ ?_
   ·refine Qo (YG (fun s' f' w' => (fun (g : Int) => ∃ (av : PHeap) , PHeap.le x av ∧ St w0 av (Res.arr encBool 4 a d :: H) w' ∧ f' 0 = a ∧ f' 4 = U c ∧ f' 5 = U g) s') ax ?_ ?_)
    ·exact ⟨x, (Zv _), ah, ao, o, Z⟩
    intro g z aX bi az b al
    obtain ⟨ac, ab, i, p, q, n⟩ := az
    refine Zc (Zc (Zd (O Z Z (Zm (v := U g) Z n (O Z Z (Exec.geq Z Z Z (Zb (V ?_))))))))
    rcases Qf b with ⟨l, b⟩ | ⟨l, b⟩
    ·refine Qr Z l (Qq (V (Zc (Qo (Zc (KT (n0 := 9) (qs 0 9 .done) Yc (by kernel_rfl) (by kernel_rfl) (Qm Z Z (Zm (v := a) Z p ⟨Z, ?_⟩))))))))
     refine Qm Z Z (Zm (v := U g) Z n ⟨Z, ?_⟩)
     obtain ⟨bl, t, b⟩ := Zg b
     obtain ⟨ba, aM, af⟩ := (i.drew).arr_at t
     refine Qm Z Z (Qd S36 Z af Z (Qg t).1 (Qg t).2.1 ⟨Z, ?_⟩)
     refine Qm Z Z (Qt (F := encBool) (i.drew) af A4 Z Z Z t (Sub.refl _) ?_)
     intro bf aG
     obtain rfl := J0.1 aG
     refine ⟨Z, ?_⟩
     refine Qm Z Z (Zm (v := a) Z p ⟨Z, ?_⟩)
     refine Qm Z Z (Zm (v := U c) Z q ⟨Z, ?_⟩)
     obtain ⟨bm, u, b⟩ := Zg b
     obtain ⟨bb, aN, ag⟩ := (i.drew).arr_at u
     refine Qm Z Z (Qd S36 Z ag Z (Qg u).1 (Qg u).2.1 ⟨Z, ?_⟩)
     refine Qm Z Z (Qt (F := encBool) (i.drew) ag A4 Z Z Z u (Sub.refl _) ?_)
     intro bg aH
     obtain rfl := J0.1 aH
     refine ⟨Z, ?_⟩
     refine Qm Z Z (QgR Tryz.underlying4 Z Z Z ⟨Z, ?_⟩)
     refine QG (Zb (V ?_))
     rcases Qf b with ⟨m, b⟩ | ⟨m, b⟩
     ·refine Qr Z m (Zc (Zd (O Z Z (Zm (v := U g) Z n (O Z Z (Zm (v := U c) Z q (O Z Z (Zo (v := U g) Z Z (O Z Z (Zo (v := U c) Z Z (Zb (V (Q0 (QC (Qi (Qi (QC (Qi (QC (Qi (Qi (QC (Qi (Qi ?_))))))))))))))))))))))))
      have aO := Zu b
      subst z
      have a8 := aB _ (al (by intro _ h; cases h))
      have aP := Zu a8
      subst y
      have a9 := aA _ (ak (by intro _ h; cases h))
      have aQ := Zu a9
      subst r
      refine ⟨_, QbU Z, ?_⟩
      exact ⟨ac, (Zt aa ab), i.drew, (Yp Z Z)⟩
     refine Qs Z m ?_
     replace m := Zk m
     refine Qq (Qz (V (Zd (O Z Z (Zm (v := U g) Z n (O Z Z (Exec.sub Z Z Z (O Z Z (Zo (v := U (IntKind.i64.wrap (g - 1))) Z Z (Zb (V ?_)))))))))))
     have aR := Zu b
     subst z
     refine ⟨_, Z, ?_⟩; exact ⟨ac, ab, i.drew, p, q, Z⟩
    refine Qs Z l ?_
    replace l := Zk l
    refine QJ (Qn (Qn (Q9 (V ?_))))
    have aS := Zu b
    subst z
    refine ⟨_, .inr (al (by intro _ h; cases h)), ?_⟩; exact ⟨ac, ab, i, p, q, n⟩
   rintro aY bj ⟨am, ai, a0⟩
   have j := ai.elim (a7 _) (a5 _)
   clear ai
   obtain ⟨aI, aC, a2, aE, aF, bc⟩ := a0
   refine (Qz (V (Zd (O Z Z (Zm (v := U c) Z aF (O Z Z (Exec.sub Z Z Z (O Z Z (Zo (v := U (IntKind.i64.wrap (c - 1))) Z Z (Zb (V ?_)))))))))))
   have aT := Zu j
   subst y
   refine ⟨_, Z, ?_⟩; exact ⟨aI, (Zt aa aC), a2, aE, Z⟩
  refine Qs Z k ?_
  replace k := Zk k
  refine QJ (Qn (Qn (Q9 (V ?_))))
  have aU := Zu j
  subst y
  refine ⟨_, .inr (ak (by intro _ h; cases h)), ?_⟩; exact ⟨x, aa, ah, ao, o⟩
 rintro aZ bk ⟨an, aj, a1⟩
 have hm := aj.elim (a6 _) (a4 _)
 clear aj
 obtain ⟨aJ, aD, a3, bd, be⟩ := a1
 refine (V (Zc (Zd (O Z Z (Zo (v := U 0) Z Z (O Z Z (Zo (v := U 1) Z Z (Zb (V (Q0 ?_))))))))))
 have aV := Zu hm
 subst r
 refine ⟨_, QbU Z, ?_⟩
 exact ⟨aJ, aD, a3, (Yp Z Z)⟩
end Go.Pw
