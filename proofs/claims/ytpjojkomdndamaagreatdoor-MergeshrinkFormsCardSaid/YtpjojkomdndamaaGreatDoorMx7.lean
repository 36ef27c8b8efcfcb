/- -/
import Derived.Test.YtpjojkomdndamaaGreatDoorLC
import Derived.Test.YtpjojkomdndamaaGreatDoorMx6
import Derived.Test.YtpjojkomdndamaaGreatDoorMxX
set_option maxRecDepth 100000
set_option maxHeartbeats 4000000
set_option linter.unusedVariables false
namespace Go.Pw
open Go.Proofs
theorem QnI : Qc2 Tryz.prog 85 3 = true := by kernel_rfl
theorem Qfu {w0 w : World} {s : PHeap} {H : List Res} {an : (List Edge)} {a : Value} {r : Nat × (List Edge)} (hm : QaY an = some r) (hS : St w0 s (Res.arr encEdge 85 a an :: H) w) :
  Calls Tryz.prog 138 #[a] w fun e w' => ∃ v, e = .returned v ∧ ((J2 fun (bB : Nat) (bp : (List Edge)) => ∃ (aP : PHeap) (aV : Value), PHeap.le s aP ∧ St w0 aP (Res.arr encEdge 85 a bp :: H) w' ∧ v = aV ∧ SubOf 3 a aV 0 bB) r) := by
 unfold QaY at hm
 refine Qw Tryz.func138 Z Z (Zc (Zd (O Z Z (Zo (v := Vn) Z Z (Zb (V (Zc (Zc (Zd (O Z Z (Zm (v := a) Z Z (O Z Z (QP (hS) S35 Z Z (O Z Z (Zq Z Z Z (Zb (V ?_)))))))))))))))))
 rcases Qf hm with ⟨q, hm⟩ | ⟨q, hm⟩
 ·refine Qr Z q (Zc (Zd (O Z Z (Zm (v := a) Z Z (O Z Z (Zo (v := a) Z Z (Zb (V (Q0 (Qi ?_))))))))))
  have bI := Zu hm
  subst r
  refine ⟨_, QW Z, ?_⟩
  exact ⟨s, a, (Zv _), hS, Z, (Or.inl ⟨Z, Z, hS.arr_shape⟩)⟩
 refine Qs Z q ?_
 replace q := Zk q
 refine Qq (V (Zc (Zc (Zd (O Z Z (Zo (v := U 1) Z Z (Zb (V ?_))))))))
 obtain ⟨az, aZ, bn, bk, bi⟩ := QN hm
 refine QK (M := fun f' w' => ∃ s', (az = .next s' ∨ az = .brk s') ∧ (fun (aF : Int) => ∃ (aQ : PHeap) , PHeap.le s aQ ∧ St w0 aQ (Res.arr encEdge 85 a an :: H) w' ∧ f' 0 = a ∧ f' 3 = U aF) s') ?_ ?_
 ·refine Qo (YG (fun s' f' w' => (fun (j : Int) => ∃ (aR : PHeap) , PHeap.le s aR ∧ St w0 aR (Res.arr encEdge 85 a an :: H) w' ∧ f' 0 = a ∧ f' 3 = U j) s') aZ ?_ ?_)
  ·exact ⟨s, (Zv _), hS, Z, Z⟩
  intro j ap bS cr bb b aE
  obtain ⟨ab, ar, aq, m, n⟩ := bb
  refine Zc (Zc (Zd (O Z Z (Zm (v := U j) Z n (O Z Z (Zm (v := a) Z m (O Z Z (QP (aq) S35 Z Z (O Z Z (Zq Z Z Z (Zb (V ?_))))))))))))
  rcases Qf b with ⟨t, b⟩ | ⟨t, b⟩
  ·refine Qr Z t (Qq (V (Zc (Qo (Zc (KT (n0 := 10) (qs 0 10 .done) Yc (by kernel_rfl) (by kernel_rfl) ?_))))))
   have l := aq.drew
   refine Qm Z Z (Zm (v := a) Z m ⟨Z, ?_⟩)
   refine Qm Z Z (Zm (v := U j) Z n ⟨Z, ?_⟩)
   obtain ⟨av, ag, b⟩ := Zg b
   obtain ⟨bX, bC, a2⟩ := l.arr_at ag
   refine Qm Z Z (Qd S35 Z a2 Z (Qg ag).1 (Qg ag).2.1 ⟨Z, ?_⟩)
   refine Qm Z Z (Qt (F := encEdge) (l) a2 A85 Z Z Z ag (Sub.refl _) ?_)
   intro cl bz
   obtain rfl := JX.1 bz
   refine ⟨Z, ?_⟩
   refine Qm Z Z (Zm (v := a) Z m ⟨Z, ?_⟩)
   refine Qm Z Z (Zm (v := U j) Z n ⟨Z, ?_⟩)
   refine Qm Z Z (Exec.sub Z Z Z ⟨Z, ?_⟩)
   obtain ⟨aw, ah, b⟩ := Zg b
   obtain ⟨bY, bD, a3⟩ := l.arr_at ah
   refine Qm Z Z (Qd S35 Z a3 Z (Qg ah).1 (Qg ah).2.1 ⟨Z, ?_⟩)
   refine Qm Z Z (Qt (F := encEdge) (l) a3 A85 Z Z Z ah (Sub.refl _) ?_)
   intro cm b0
   obtain rfl := JX.1 b0
   refine ⟨Z, ?_⟩
   refine Qm Z Z (QgQ (xs := [av.From, av.Label, av.To]) (ys := [aw.From, aw.Label, aw.To]) QnI Z Z Z Z Z Z Z ⟨Z, ?_⟩)
   refine QG (Zb (V ?_))
   rcases Qf b with ⟨u, b⟩ | ⟨u, b⟩
   ·refine Qr Z u (Zc (Zd (O Z Z (Zm (v := a) Z m (O Z Z (Zm (v := U j) Z n ?_))))))
    obtain ⟨cf, ai, b⟩ := Zg b
    refine O Z Z (Yf (l) S35 Z Z Z ai ?_)
    intro k ac
    refine O Z Z (Zo (v := k) Z Z (Zb (V (Zc (Zc (Zd (O Z Z (Zo (v := U 1) Z Z (Zb (V ?_))))))))))
    obtain ⟨a0, ba, cd, bl, bj⟩ := QN b
    refine QK (M := fun f' w' => ∃ s', (a0 = .next s' ∨ a0 = .brk s') ∧ (un3 fun (ad : Int) (aG : Int) (aI : (List Edge)) => ∃ (aS : PHeap) , PHeap.le ab aS ∧ St w0 aS (Res.arr encEdge 85 a aI :: H) w' ∧ f' 0 = a ∧ f' 3 = U ad ∧ f' 4 = k ∧ f' 5 = U aG) s') ?_ ?_
    ·refine Qo (YG (fun s' f' w' => (un3 fun (aa : Int) (i : Int) (aJ : (List Edge)) => ∃ (aT : PHeap) , PHeap.le ab aT ∧ St w0 aT (Res.arr encEdge 85 a aJ :: H) w' ∧ f' 0 = a ∧ f' 3 = U aa ∧ f' 4 = k ∧ f' 5 = U i) s') ba ?_ ?_)
     ·exact ⟨ab, (Zv _), l, m, n, Z, Z⟩
     intro b9 a1 bT cs bc c bo
     obtain ⟨aa, i, aJ⟩ := b9
     replace c := Qbt c
     obtain ⟨am, aK, a8, ae, af, o, p⟩ := bc
     refine Zc (Zc (Zd (O Z Z (Zm (v := U i) Z p (O Z Z (Zm (v := k) Z o (O Z Z (Qa5 S35 ac Z Z (O Z Z (Zq Z Z Z (Zb (V ?_))))))))))))
     rcases Qf c with ⟨x, c⟩ | ⟨x, c⟩
     ·refine Qr Z x (Qq (V (Zc (Qo (Zc (KT (n0 := 10) (qs 0 10 .done) Yc (by kernel_rfl) (by kernel_rfl) ?_))))))
      have g := a8.drew
      refine Qm Z Z (Zm (v := k) Z o ⟨Z, ?_⟩)
      refine Qm Z Z (Zm (v := U i) Z p ⟨Z, ?_⟩)
      obtain ⟨ax, aj, c⟩ := Zg c
      obtain ⟨bZ, bE, a4⟩ := g.arr_at (QR aj).2.2
      refine Qm Z Z (Kb S35 (KU ai).1 ac a4 Z Z Z (QR aj).1 (QR aj).2.1 ⟨Z, ?_⟩)
      refine Qm Z Z (Qt (F := encEdge) (g) a4 A85 Z Z Z (QR aj).2.2 (Sub.refl _) ?_)
      intro cn b1
      obtain rfl := JX.1 b1
      refine ⟨Z, ?_⟩
      refine Qm Z Z (Zm (v := k) Z o ⟨Z, ?_⟩)
      refine Qm Z Z (Zm (v := U i) Z p ⟨Z, ?_⟩)
      refine Qm Z Z (Exec.sub Z Z Z ⟨Z, ?_⟩)
      obtain ⟨ay, ak, c⟩ := Zg c
      obtain ⟨ca, bF, a5⟩ := g.arr_at (QR ak).2.2
      refine Qm Z Z (Kb S35 (KU ai).1 ac a5 Z Z Z (QR ak).1 (QR ak).2.1 ⟨Z, ?_⟩)
      refine Qm Z Z (Qt (F := encEdge) (g) a5 A85 Z Z Z (QR ak).2.2 (Sub.refl _) ?_)
      intro co b2
      obtain rfl := JX.1 b2
      refine ⟨Z, ?_⟩
      refine Qm Z Z (QgP (xs := [ax.From, ax.Label, ax.To]) (ys := [ay.From, ay.Label, ay.To]) QnI Z Z Z Z Z Z Z ⟨Z, ?_⟩)
      refine QG (Zb (V ?_))
      obtain ⟨ao, d, c⟩ := Zg c
      refine QK (M := fun f' w' => (J2 fun (aH : Int) (aL : (List Edge)) => ∃ (aU : PHeap) , PHeap.le am aU ∧ St w0 aU (Res.arr encEdge 85 a aL :: H) w' ∧ f' 0 = a ∧ f' 3 = U aH ∧ f' 4 = k ∧ f' 5 = U i) ao) ?_ ?_
      ·rcases Qf d with ⟨z, d⟩ | ⟨z, d⟩
       ·refine Qr Z z (Zc (Zd (O Z Z (Zm (v := a) Z ae (O Z Z (Zm (v := U aa) Z af (O Z Z (Zm (v := k) Z o (O Z Z (Zm (v := U i) Z p ?_))))))))))
        obtain ⟨cy, al, d⟩ := Zg d
        obtain ⟨cb, bG, a6⟩ := g.arr_at (QR al).2.2
        refine O Z Z (Kb S35 (KU ai).1 ac a6 Z Z Z (QR al).1 (QR al).2.1 (O Z Z (Qt (F := encEdge) (g) a6 A85 Z Z Z (QR al).2.2 (Sub.refl _) ?_)))
        intro cp b3
        obtain rfl := JX.1 b3
        obtain ⟨cz, au, d⟩ := Zg d
        obtain ⟨cc, bH, a7⟩ := g.arr_at au
        refine O Z Z (Qd S35 Z a7 Z (Qg au).1 (Qg au).2.1 ?_)
        obtain ⟨ce, b4, d⟩ := Zg d
        refine O Z Z (QQ g a7 A85 Z Z Z Z (JX.2 Z) b4 ?_)
        intro ct bg
        refine Zb (V (Zd (O Z Z (Zm (v := U aa) Z af (O Z Z (Exec.add Z Z Z (O Z Z (Zo (v := U (IntKind.i64.wrap (aa + 1))) Z Z (Zb (V ?_))))))))))
        have bJ := Zu d
        subst ao
        exact ⟨am, (Zv _), bg, ae, Z, o, p⟩
       refine Qs Z z ?_
       replace z := Zk z
       refine Qq (V ?_)
       have bK := Zu d
       subst ao
       exact ⟨am, (Zv _), g, ae, af, o, p⟩
      intro bU cu bd
      obtain ⟨aH, aL⟩ := ao
      replace c := Jp c
      obtain ⟨b6, bq, bh, bt, bu, bv, bw⟩ := bd
      refine (Qz (V (Zd (O Z Z (Zm (v := U i) Z bw (O Z Z (Exec.add Z Z Z (O Z Z (Zo (v := U (IntKind.i64.wrap (i + 1))) Z Z (Zb (V ?_)))))))))))
      have bL := Zu c
      subst a1
      refine ⟨_, Z, ?_⟩; exact ⟨b6, (Zt aK bq), bh, bt, bu, bv, Z⟩
     refine Qs Z x ?_
     replace x := Zk x
     refine QJ (Qn (Qn (Q9 (V ?_))))
     have bM := Zu c
     subst a1
     refine ⟨_, .inr (bo (by intro _ h; cases h)), ?_⟩; exact ⟨am, aK, a8, ae, af, o, p⟩
    rintro bV cv ⟨bA, aC, be⟩
    have b := aC.elim (bl _) (bj _)
    clear aC
    obtain ⟨ad, aG, aI⟩ := bA
    replace b := Qbt b
    obtain ⟨b7, br, a9, aM, aN, ci, cj⟩ := be
    refine (V (Zc (Zd (O Z Z (Zm (v := a) Z aM (O Z Z (Zm (v := U ad) Z aN ?_)))))))
    obtain ⟨cg, aO, b⟩ := Zg b
    refine O Z Z (Yf (a9) S35 Z Z Z aO ?_)
    intro cq aX
    refine O Z Z (Qa9 (E := encEdge) (y := (⟨0, 0, 0⟩ : Edge)) a9 aX (KU aO).2.2.2.2.2 S35 Z85 ⟨[U 0], [U 0, U 0], Z, Z, ⟨[U 0], [U 0], Z, Z, Z⟩⟩ Z Z ?_)
    intro cw aA
    refine Zb (V (Zc (Zd (O Z Z (Zm (v := a) Z aM (O Z Z (Zm (v := U ad) Z aN ?_)))))))
    obtain ⟨ch, b5, b⟩ := Zg b
    refine O Z Z (Qcc (aA) S35 Z Z Z b5 ?_)
    intro aW aY
    refine O Z Z (Zo (v := aW) Z Z (Zb (V (Q0 (QC (Qi (Qi (QC (Qi (Qi ?_))))))))))
    have bN := Zu b
    subst ap
    have bm := bn _ (aE (by intro _ h; cases h))
    have bO := Zu bm
    subst r
    refine ⟨_, QW Z, ?_⟩
    exact ⟨b7, aW, (Zt ar br), aA, Z, aY⟩
   refine Qs Z u ?_
   replace u := Zk u
   refine Qq (Qz (V (Zd (O Z Z (Zm (v := U j) Z n (O Z Z (Exec.add Z Z Z (O Z Z (Zo (v := U (IntKind.i64.wrap (j + 1))) Z Z (Zb (V ?_)))))))))))
   have bP := Zu b
   subst ap
   refine ⟨_, Z, ?_⟩; exact ⟨ab, ar, l, m, Z⟩
  refine Qs Z t ?_
  replace t := Zk t
  refine QJ (Qn (Qn (Q9 (V ?_))))
  have bQ := Zu b
  subst ap
  refine ⟨_, .inr (aE (by intro _ h; cases h)), ?_⟩; exact ⟨ab, ar, aq, m, n⟩
 rintro bW cx ⟨aF, aD, bf⟩
 have hm := aD.elim (bk _) (bi _)
 clear aD
 obtain ⟨b8, bs, aB, bx, ck⟩ := bf
 refine (V (Zc (Zd (O Z Z (Zm (v := a) Z bx (O Z Z (Zo (v := a) Z Z (Zb (V (Q0 ?_))))))))))
 have bR := Zu hm
 subst r
 refine ⟨_, QW Z, ?_⟩
 exact ⟨b8, a, bs, aB, Z, (Or.inl ⟨Z, Z, aB.arr_shape⟩)⟩
theorem Qeb {w0 w : World} {s : PHeap} {H : List Res} {b : (List Edge)} {a : Value} {r : (List Edge)} (hm : Yl b = some r) (hS : St w0 s (Res.arr encEdge 85 a b :: H) w) :
  Calls Tryz.prog 116 #[a] w fun e w' => ∃ v, e = .returned v ∧ ((fun (j : (List Edge)) => ∃ (c : PHeap) (d : Value), PHeap.le s c ∧ St w0 c (Res.arr encEdge 85 d j :: H) w' ∧ v = d) r) := by
 unfold Yl at hm
 refine Qw Tryz.func116 Z Z (Zc (Zd (O Z Z (Zo (v := Vn) Z Z (Zb (V (Zc (Zd (O Z Z (Zm (v := a) Z Z ?_))))))))))
 obtain ⟨x, m, hm⟩ := Zg hm
 refine O Z Z (Tc Z Z Z (Zi Z (Zi Z Qk)) (QgF m hS).r ?_)
 rintro _ ab ⟨z, k, g, rfl⟩
 refine Zb (V (Zc (Zd (O Z Z (Zm (v := a) Z Z ?_)))))
 obtain ⟨t, n, hm⟩ := Zg hm
 obtain ⟨ad, y⟩ := t
 replace hm := Jp hm
 refine O Z Z (Tc Z Z Z (Zi Z Qk) (Qfu n g).r ?_)
 rintro f ac ⟨q, _, l, h, rfl, p⟩
 obtain ⟨aa, o, hm⟩ := Zg hm
 have i := h.arr_head p (by simpa using Q7 o)
 refine O Z Z (Zo (v := f) Z Z (Zb (V (Q0 ?_))))
 have u := Zu hm
 subst r
 refine ⟨_, QW Z, ?_⟩
 exact ⟨q, f, (Zt k l), i, Z⟩
theorem QcW {w0 w : World} {s : PHeap} {H : List Res} {m : System} {aj : (List Int)} {am : Value} {ah : Value} {ad : Value} {g : Value} {r : (Option Int) × System} (hm : KF m aj = some r) (hS : St w0 s (Res.arr (Qa .i64) 3 g aj :: H) w) (a3 : SliceRep (Qa .i64) s am m.Costs) (aS : SliceRep encEdge s ah m.Edges) (aT : SliceRep encBool s ad m.Goals) :
  Calls Tryz.prog 85 #[Value.agg #[U (m.States), U (m.Init), am, ah, ad], g] w fun e w' => ∃ v, e = .returned v ∧ ((J2 fun (dE : (Option Int)) (aP : System) => ∃ (aH : PHeap) (cb : Value) (cc : Value) (cd : Value), PHeap.le s aH ∧ St w0 aH (Res.arr (Qa .i64) 3 g aj :: H) w' ∧ v = Value.tuple #[Value.agg #[U (aP.States), U (aP.Init), cb, cc, cd], QD 50 (dE)] ∧ SliceRep (Qa .i64) aH cb aP.Costs ∧ SliceRep encEdge aH cc aP.Edges ∧ SliceRep encBool aH cd aP.Goals) r) := by
 unfold KF at hm
 refine Qw Tryz.func85 Z Z (Zc (Zd (O Z Z (Exec.box (cs := [U (m.States), U (m.Init), am, ah, ad]) hS Z Z Z ?_))))
 intro ai eC cu
 refine O Z Z (Exec.alloc (cs := [U 0, U 0, Vn, Vn, Vn]) cu Z38 Z Z ?_)
 intro ab eD b3
 refine O Z Z (Zo (v := QD 50 (none)) Z Z (Zb (V (Zc (Zd (O Z Z (Zm (v := g) Z Z (O Z Z (Zp JV Z Z Z (O Z Z (Zn (b3.f1) A3 Z Z Z ?_)))))))))))
 obtain ⟨dA, df, hm⟩ := Zg hm
 obtain ⟨a, aQ⟩ := dA
 replace hm := Jp hm
 refine O Z Z (Tc Z Z Z (Zi Z (Zi Z Qk)) (Qdt df b3.f2).r ?_)
 rintro _ eE ⟨d0, n, b4, rfl⟩
 refine O Z Z (Zm (v := Value.tuple #[U a, Vb aQ]) Z Z (O Z Z (Exec.extract (v := U a) Z Z Z (O Z Z (Exec.extract (v := Vb aQ) Z Z Z (O Z Z (Zo (v := U a) Z Z (O Z Z (Zo (v := Vb aQ) Z Z (Zb (V (Zc (Zc ?_)))))))))))))
 obtain ⟨aR, ay, hm⟩ := Zg hm
 refine QK (M := fun f' w' => (fun (aR : Bool) => ∃ (bR : PHeap) , PHeap.le d0 bR ∧ St w0 bR (Res.arr (Qa .i64) 3 g aj :: Res.box ai 38 [U (m.States), U (m.Init), am, ah, ad] :: Res.box ab 38 [U 0, U 0, Vn, Vn, Vn] :: H) w' ∧ f' 1 = g ∧ f' 2 = Vq ai ∧ f' 4 = Vq ab ∧ f' 6 = U a ∧ f' 26 = Vb aR) aR) ?_ ?_
 ·refine Zd (O Z Z (Ql (ds := [U (m.States), U (m.Init), am, ah, ad]) (b4.f2) KS Z Z Z ?_))
  obtain ⟨dF, dg, ay⟩ := Zg ay
  refine O Z Z (Tc Z Z Z (Zi Z Qk) (KZ dg b4 (a3.mono n) (aS.mono n) (aT.mono n)).r ?_)
  rintro _ eF ⟨bS, bF, b5, rfl⟩
  refine O Z Z (Exec.not Z Z (O Z Z (Zm (v := Vb (!dF)) Z Z ?_)))
  rcases Qf ay with ⟨ax, ay⟩ | ⟨ax, ay⟩
  ·refine Qx 3 (by rw [ax]; rfl) ?_
   refine Zb (V ?_)
   have dS := Zu ay
   subst aR
   exact ⟨bS, bF, ((b5.f1).f2).f2, Z, Z, Z, Z, Z⟩
  replace ax := Zk ax
  refine Qj Z (Zf Z (Zx ax)) Z (Zm (v := Vb aQ) Z Z (Qj Z (Zf Z (Zx ax)) Z (Exec.not Z Z (O Z Z (Q8 (v := Vb (!aQ)) Z (Zx ax) Z (Zb (V ?_)))))))
  have dT := Zu ay
  subst aR
  exact ⟨bS, bF, ((b5.f1).f2).f2, Z, Z, Z, Z, Z⟩
 intro ea eG cq
 obtain ⟨bT, x, b6, j, i, ak, l, bK⟩ := cq
 refine (V ?_)
 rcases Qf hm with ⟨aC, hm⟩ | ⟨aC, hm⟩
 ·refine Qr bK aC (Zc (Zd (O Z Z (Exec.build Z Qu (v := Value.agg #[U 0, U 0, Vn, Vn, Vn]) (fun _ => by kernel_rfl) (O Z Z (Exec.makeInterface C50 Z Z (O Z Z (Qe (ds := [U 0, U 0, Vn, Vn, Vn]) (es := [U 0, U 0, Vn, Vn, Vn]) b6.f2 KS Z ak Z Z (Zj Z (Zj Z (Zj Z (Zj Z (Zj Z Q5))))) (Nat.le_of_ble_eq_true Z) Z ?_))))))))
  intro eH b7
  refine O Z Z (Zo (v := QD 50 (some 2)) Z Z (Zb (V (Q0 (Qi ?_)))))
  have dU := Zu hm
  subst r
  refine ⟨_, Qat Z ⟨_, _, ak, Kj (b7) KS⟩ Z, ?_⟩
  exact ⟨bT, Vn, Vn, Vn, (Zt n x), ((b7.drop).f1).drop, (Yp Z Z), (SliceRep.nil _ _), (SliceRep.nil _ _), (SliceRep.nil _ _)⟩
 refine Qs bK aC ?_
 replace aC := Zk aC
 refine Qq (V (Zc ?_))
 obtain ⟨d, b, hm⟩ := Zg hm
 obtain ⟨bf, aF, hm⟩ := Zg hm
 obtain ⟨cF, aG, hm⟩ := Zg hm
 refine QK (M := fun f' w' => ∃ (bU : PHeap) (ae : Nat) (o : Value) (p : Value), PHeap.le bT bU ∧ St w0 bU (Res.arr (Qa .i64) 3 g aj :: Res.box ai 38 [U (m.States), U (m.Init), am, ah, ad] :: Res.box ab 38 [U 0, U 0, Vn, Vn, Vn] :: Res.box ae 38 [U a, U d, o, Vn, p] :: Res.arr (Qa .i64) 3 o bf :: Res.arr encBool 4 p cF :: H) w' ∧ f' 1 = g ∧ f' 2 = Vq ai ∧ f' 4 = Vq ab ∧ f' 8 = Vq ae) ?_ ?_
 ·refine KT (n0 := 13) (qs 0 8 (.q 9 (.alt (.e 8 [0, 1, 2, 3, 4, 5, 9] (.alt (.e 10 [0, 1, 2, 3, 4, 5] (.q 11 (.e 12 [0, 1, 2, 3, 4, 5, 11] .done))) (.e 12 [0, 1, 2, 3, 4, 5, 9] (.e 10 [0, 1, 2, 3, 4, 5] (.q 11 .done))))) (.alt (.e 10 [0, 1, 2, 3, 4, 5, 6, 7] (.alt (.e 8 [0, 1, 2, 3, 4, 5] (.q 11 (.e 12 [0, 1, 2, 3, 4, 5, 11] .done))) (.e 12 [0, 1, 2, 3, 4, 5, 6, 7] (.e 8 [0, 1, 2, 3, 4, 5] (.q 11 .done))))) (.e 12 [0, 1, 2, 3, 4, 5, 6, 7, 9] (.alt (.e 8 [0, 1, 2, 3, 4, 5, 9] (.e 10 [0, 1, 2, 3, 4, 5] (.q 11 .done))) (.e 10 [0, 1, 2, 3, 4, 5, 6, 7] (.e 8 [0, 1, 2, 3, 4, 5] (.q 11 .done))))))))) Yc (by kernel_rfl) (by kernel_rfl) ?_
  have ao := b6.drew
  refine Qm Z Z (Zm (v := U a) Z l ⟨Z, ?_⟩)
  refine Qm Z Z (Zm (v := g) Z j ⟨Z, ?_⟩)
  refine Qm Z Z (Zp Yh Z i Z ⟨Z, ?_⟩)
  refine Qm Z Z (Zn (ao.f1) A3 Z Z Z ⟨Z, ?_⟩)
  obtain ⟨eh, dK, h⟩ := ao.arr_at b
  refine Qm Z Z (Qd JG Z h Z (Qg b).1 (Qg b).2.1 ⟨Z, ?_⟩)
  refine Qm Z Z (Qt (F := (Qa .i64)) (ao) h A3 Z Z Z b (Sub.refl _) ?_)
  intro e4 dh
  obtain rfl := Qv.1 dh
  refine ⟨Z, ?_⟩
  refine Qm Z Z (Zp QaZ Z i Z ⟨Z, ?_⟩)
  refine Qm Z Z (Zn (ao.f1) A22 Z Z Z ⟨Z, ?_⟩)
  refine Qm Z Z (Zm (v := U a) Z l ⟨Z, ?_⟩)
  refine QeJ ?_ ?_
  ·refine JQ Z Z (Tc Z Z Z (Zi Z Qk) (Ji aF ao (a3.mono (Zt n x))).r ?_)
   rintro z eI ⟨bV, _, bG, aU, rfl⟩
   refine ⟨(Qb (Q4 Z Z (Zm (v := U a) Z l ⟨Z, Z⟩)) (Qb (Q4 Z Z (Zm (v := g) Z j ⟨Z, Z⟩)) (Qb (Q4 Z Z (Zp Yh Z i Z ⟨Z, Z⟩)) (Qb (Q4 Z Z (Zn (aU.f2) A3 Z Z Z ⟨Z, Z⟩)) (Qb (Q4 Z Z (Qd JG Z h Z (Qg b).1 (Qg b).2.1 ⟨Z, Z⟩)) (Qb (Q4 Z Z (Qt (F := (Qa .i64)) (aU.f1) h A3 Z Z Z b (Sub.refl _) (fun _ q => ⟨Z, Qv.1 q⟩))) (Qb (Q4 Z Z (Zm (v := U a) Z l ⟨Z, Z⟩)) QV))))))), ?_⟩
   refine QeJ ?_ ?_
   ·refine JQ Z Z (Kr (E := encBool) aU S36 Z4 Z Z Z Z aG ?_)
    intro a0 eJ a7
    refine ⟨(Qb (Q4 Z Z (Zm (v := U a) Z l ⟨Z, Z⟩)) (Qb (Q4 Z Z (Zm (v := g) Z j ⟨Z, Z⟩)) (Qb (Q4 Z Z (Zp Yh Z i Z ⟨Z, Z⟩)) (Qb (Q4 Z Z (Zn (a7.f3) A3 Z Z Z ⟨Z, Z⟩)) (Qb (Q4 Z Z (Qd JG Z h Z (Qg b).1 (Qg b).2.1 ⟨Z, Z⟩)) (Qb (Q4 Z Z (Qt (F := (Qa .i64)) (a7.f2) h A3 Z Z Z b (Sub.refl _) (fun _ q => ⟨Z, Qv.1 q⟩))) QV)))))), ?_⟩
    refine Qm Z Z (Exec.build Z (Qc (c := [U a]) (Qh Z Z) (Qc (c := [U d]) (Qh Z Z) (Qc (c := [z]) (Qh Z (QX (a7.f1).arr_one)) (Qc (c := [a0]) (Qh Z (QX a7.arr_one)) Qu)))) (v := Value.agg #[U a, U d, z, Vn, a0]) (fun _ => by kernel_rfl) ⟨Z, ?_⟩)
    refine JQ Z Z (Exec.alloc (cs := [U 0, U 0, Vn, Vn, Vn]) a7 Z38 Z Z ?_)
    intro cg eK ap
    refine ⟨(Qb (Q4 Z Z (Zm (v := U a) Z l ⟨Z, Z⟩)) (Qb (Q4 Z Z (Zm (v := g) Z j ⟨Z, Z⟩)) (Qb (Q4 Z Z (Zp Yh Z i Z ⟨Z, Z⟩)) (Qb (Q4 Z Z (Zn (ap.f4) A3 Z Z Z ⟨Z, Z⟩)) (Qb (Q4 Z Z (Qd JG Z h Z (Qg b).1 (Qg b).2.1 ⟨Z, Z⟩)) (Qb (Q4 Z Z (Qt (F := (Qa .i64)) (ap.f3) h A3 Z Z Z b (Sub.refl _) (fun _ q => ⟨Z, Qv.1 q⟩))) (Qb (Q4 Z Z (Exec.build Z (Qc (c := [U a]) (Qh Z Z) (Qc (c := [U d]) (Qh Z Z) (Qc (c := [z]) (Qh Z (QX (ap.f2).arr_one)) (Qc (c := [a0]) (Qh Z (QX (ap.f1).arr_one)) Qu)))) (v := Value.agg #[U a, U d, z, Vn, a0]) (fun _ => by kernel_rfl) ⟨Z, Z⟩)) QV))))))), ?_⟩
    refine QG (O Z Z (Qe (ds := [U a, U d, z, Vn, a0]) (es := [U a, U d, z, Vn, a0]) ap KS Z Z Z Z (Zj Z (Zj Z (Zj (ap.f2).arr_one (Zj Z (Zj (ap.f1).arr_one Q5))))) (Nat.le_of_ble_eq_true Z) Z ?_))
    intro eL cv
    refine Zb (V ?_)
    exact ⟨bV, cg, z, a0, bG, (((((cv.f1).f2).f2).f5).f5).f5, j, i, ak, Z⟩
   refine JQ Z Z (Exec.alloc (cs := [U 0, U 0, Vn, Vn, Vn]) aU Z38 Z Z ?_)
   intro ch eM bg
   refine ⟨(Qb (Q4 Z Z (Zm (v := U a) Z l ⟨Z, Z⟩)) (Qb (Q4 Z Z (Zm (v := g) Z j ⟨Z, Z⟩)) (Qb (Q4 Z Z (Zp Yh Z i Z ⟨Z, Z⟩)) (Qb (Q4 Z Z (Zn (bg.f3) A3 Z Z Z ⟨Z, Z⟩)) (Qb (Q4 Z Z (Qd JG Z h Z (Qg b).1 (Qg b).2.1 ⟨Z, Z⟩)) (Qb (Q4 Z Z (Qt (F := (Qa .i64)) (bg.f2) h A3 Z Z Z b (Sub.refl _) (fun _ q => ⟨Z, Qv.1 q⟩))) (Qb (Q4 Z Z (Zm (v := U a) Z l ⟨Z, Z⟩)) QV))))))), ?_⟩
   refine JQ Z Z (Kr (E := encBool) bg S36 Z4 Z Z Z Z aG ?_)
   intro aI eN aq
   refine ⟨(Qb (Q4 Z Z (Zm (v := U a) Z l ⟨Z, Z⟩)) (Qb (Q4 Z Z (Zm (v := g) Z j ⟨Z, Z⟩)) (Qb (Q4 Z Z (Zp Yh Z i Z ⟨Z, Z⟩)) (Qb (Q4 Z Z (Zn (aq.f4) A3 Z Z Z ⟨Z, Z⟩)) (Qb (Q4 Z Z (Qd JG Z h Z (Qg b).1 (Qg b).2.1 ⟨Z, Z⟩)) (Qb (Q4 Z Z (Qt (F := (Qa .i64)) (aq.f3) h A3 Z Z Z b (Sub.refl _) (fun _ q => ⟨Z, Qv.1 q⟩))) QV)))))), ?_⟩
   refine Qm Z Z (Exec.build Z (Qc (c := [U a]) (Qh Z Z) (Qc (c := [U d]) (Qh Z Z) (Qc (c := [z]) (Qh Z (QX (aq.f2).arr_one)) (Qc (c := [aI]) (Qh Z (QX aq.arr_one)) Qu)))) (v := Value.agg #[U a, U d, z, Vn, aI]) (fun _ => by kernel_rfl) ⟨Z, ?_⟩)
   refine QG (O Z Z (Qe (ds := [U a, U d, z, Vn, aI]) (es := [U a, U d, z, Vn, aI]) aq.f1 KS Z Z Z Z (Zj Z (Zj Z (Zj ((aq.f1).f2).arr_one (Zj Z (Zj ((aq.f1).f1).arr_one Q5))))) (Nat.le_of_ble_eq_true Z) Z ?_))
   intro eO cw
   refine Zb (V ?_)
   exact ⟨bV, ch, z, aI, bG, (((((cw.f1).f2).f2).f5).f5).f5, j, i, ak, Z⟩
  refine QeJ ?_ ?_
  ·refine JQ Z Z (Kr (E := encBool) ao S36 Z4 Z Z Z Z aG ?_)
   intro aa eP a8
   refine ⟨(Qb (Q4 Z Z (Zm (v := U a) Z l ⟨Z, Z⟩)) (Qb (Q4 Z Z (Zm (v := g) Z j ⟨Z, Z⟩)) (Qb (Q4 Z Z (Zp Yh Z i Z ⟨Z, Z⟩)) (Qb (Q4 Z Z (Zn (a8.f2) A3 Z Z Z ⟨Z, Z⟩)) (Qb (Q4 Z Z (Qd JG Z h Z (Qg b).1 (Qg b).2.1 ⟨Z, Z⟩)) (Qb (Q4 Z Z (Qt (F := (Qa .i64)) (a8.f1) h A3 Z Z Z b (Sub.refl _) (fun _ q => ⟨Z, Qv.1 q⟩))) (Qb (Q4 Z Z (Zp QaZ Z i Z ⟨Z, Z⟩)) (Qb (Q4 Z Z (Zn (a8.f2) A22 Z Z Z ⟨Z, Z⟩)) QV)))))))), ?_⟩
   refine QeJ ?_ ?_
   ·refine JQ Z Z (Tc Z Z Z (Zi Z Qk) (Ji aF a8 (a3.mono (Zt n x))).r ?_)
    rintro a1 eQ ⟨d1, _, cG, a9, rfl⟩
    refine ⟨(Qb (Q4 Z Z (Zm (v := U a) Z l ⟨Z, Z⟩)) (Qb (Q4 Z Z (Zm (v := g) Z j ⟨Z, Z⟩)) (Qb (Q4 Z Z (Zp Yh Z i Z ⟨Z, Z⟩)) (Qb (Q4 Z Z (Zn (a9.f3) A3 Z Z Z ⟨Z, Z⟩)) (Qb (Q4 Z Z (Qd JG Z h Z (Qg b).1 (Qg b).2.1 ⟨Z, Z⟩)) (Qb (Q4 Z Z (Qt (F := (Qa .i64)) (a9.f2) h A3 Z Z Z b (Sub.refl _) (fun _ q => ⟨Z, Qv.1 q⟩))) QV)))))), ?_⟩
    refine Qm Z Z (Exec.build Z (Qc (c := [U a]) (Qh Z Z) (Qc (c := [U d]) (Qh Z Z) (Qc (c := [a1]) (Qh Z (QX a9.arr_one)) (Qc (c := [aa]) (Qh Z (QX (a9.f1).arr_one)) Qu)))) (v := Value.agg #[U a, U d, a1, Vn, aa]) (fun _ => by kernel_rfl) ⟨Z, ?_⟩)
    refine JQ Z Z (Exec.alloc (cs := [U 0, U 0, Vn, Vn, Vn]) a9 Z38 Z Z ?_)
    intro ci eR ar
    refine ⟨(Qb (Q4 Z Z (Zm (v := U a) Z l ⟨Z, Z⟩)) (Qb (Q4 Z Z (Zm (v := g) Z j ⟨Z, Z⟩)) (Qb (Q4 Z Z (Zp Yh Z i Z ⟨Z, Z⟩)) (Qb (Q4 Z Z (Zn (ar.f4) A3 Z Z Z ⟨Z, Z⟩)) (Qb (Q4 Z Z (Qd JG Z h Z (Qg b).1 (Qg b).2.1 ⟨Z, Z⟩)) (Qb (Q4 Z Z (Qt (F := (Qa .i64)) (ar.f3) h A3 Z Z Z b (Sub.refl _) (fun _ q => ⟨Z, Qv.1 q⟩))) (Qb (Q4 Z Z (Exec.build Z (Qc (c := [U a]) (Qh Z Z) (Qc (c := [U d]) (Qh Z Z) (Qc (c := [a1]) (Qh Z (QX (ar.f1).arr_one)) (Qc (c := [aa]) (Qh Z (QX (ar.f2).arr_one)) Qu)))) (v := Value.agg #[U a, U d, a1, Vn, aa]) (fun _ => by kernel_rfl) ⟨Z, Z⟩)) QV))))))), ?_⟩
    refine QG (O Z Z (Qe (ds := [U a, U d, a1, Vn, aa]) (es := [U a, U d, a1, Vn, aa]) ar KS Z Z Z Z (Zj Z (Zj Z (Zj (ar.f1).arr_one (Zj Z (Zj (ar.f2).arr_one Q5))))) (Nat.le_of_ble_eq_true Z) Z ?_))
    intro eS cx
    refine Zb (V ?_)
    exact ⟨d1, ci, a1, aa, cG, (((((cx.f2).f2).f2).f5).f5).f5, j, i, ak, Z⟩
   refine JQ Z Z (Exec.alloc (cs := [U 0, U 0, Vn, Vn, Vn]) a8 Z38 Z Z ?_)
   intro cj eT aV
   refine ⟨(Qb (Q4 Z Z (Zm (v := U a) Z l ⟨Z, Z⟩)) (Qb (Q4 Z Z (Zm (v := g) Z j ⟨Z, Z⟩)) (Qb (Q4 Z Z (Zp Yh Z i Z ⟨Z, Z⟩)) (Qb (Q4 Z Z (Zn (aV.f3) A3 Z Z Z ⟨Z, Z⟩)) (Qb (Q4 Z Z (Qd JG Z h Z (Qg b).1 (Qg b).2.1 ⟨Z, Z⟩)) (Qb (Q4 Z Z (Qt (F := (Qa .i64)) (aV.f2) h A3 Z Z Z b (Sub.refl _) (fun _ q => ⟨Z, Qv.1 q⟩))) (Qb (Q4 Z Z (Zp QaZ Z i Z ⟨Z, Z⟩)) (Qb (Q4 Z Z (Zn (aV.f3) A22 Z Z Z ⟨Z, Z⟩)) QV)))))))), ?_⟩
   refine JQ Z Z (Tc Z Z Z (Zi Z Qk) (Ji aF aV (a3.mono (Zt n x))).r ?_)
   rintro aJ eU ⟨d2, _, cH, au, rfl⟩
   refine ⟨(Qb (Q4 Z Z (Zm (v := U a) Z l ⟨Z, Z⟩)) (Qb (Q4 Z Z (Zm (v := g) Z j ⟨Z, Z⟩)) (Qb (Q4 Z Z (Zp Yh Z i Z ⟨Z, Z⟩)) (Qb (Q4 Z Z (Zn (au.f4) A3 Z Z Z ⟨Z, Z⟩)) (Qb (Q4 Z Z (Qd JG Z h Z (Qg b).1 (Qg b).2.1 ⟨Z, Z⟩)) (Qb (Q4 Z Z (Qt (F := (Qa .i64)) (au.f3) h A3 Z Z Z b (Sub.refl _) (fun _ q => ⟨Z, Qv.1 q⟩))) QV)))))), ?_⟩
   refine Qm Z Z (Exec.build Z (Qc (c := [U a]) (Qh Z Z) (Qc (c := [U d]) (Qh Z Z) (Qc (c := [aJ]) (Qh Z (QX au.arr_one)) (Qc (c := [aa]) (Qh Z (QX (au.f2).arr_one)) Qu)))) (v := Value.agg #[U a, U d, aJ, Vn, aa]) (fun _ => by kernel_rfl) ⟨Z, ?_⟩)
   refine QG (O Z Z (Qe (ds := [U a, U d, aJ, Vn, aa]) (es := [U a, U d, aJ, Vn, aa]) au.f1 KS Z Z Z Z (Zj Z (Zj Z (Zj ((au.f1).f1).arr_one (Zj Z (Zj ((au.f1).f2).arr_one Q5))))) (Nat.le_of_ble_eq_true Z) Z ?_))
   intro eV cy
   refine Zb (V ?_)
   exact ⟨d2, cj, aJ, aa, cH, (((((cy.f2).f2).f2).f5).f5).f5, j, i, ak, Z⟩
  refine JQ Z Z (Exec.alloc (cs := [U 0, U 0, Vn, Vn, Vn]) ao Z38 Z Z ?_)
  intro bu eW aA
  refine ⟨(Qb (Q4 Z Z (Zm (v := U a) Z l ⟨Z, Z⟩)) (Qb (Q4 Z Z (Zm (v := g) Z j ⟨Z, Z⟩)) (Qb (Q4 Z Z (Zp Yh Z i Z ⟨Z, Z⟩)) (Qb (Q4 Z Z (Zn (aA.f2) A3 Z Z Z ⟨Z, Z⟩)) (Qb (Q4 Z Z (Qd JG Z h Z (Qg b).1 (Qg b).2.1 ⟨Z, Z⟩)) (Qb (Q4 Z Z (Qt (F := (Qa .i64)) (aA.f1) h A3 Z Z Z b (Sub.refl _) (fun _ q => ⟨Z, Qv.1 q⟩))) (Qb (Q4 Z Z (Zp QaZ Z i Z ⟨Z, Z⟩)) (Qb (Q4 Z Z (Zn (aA.f2) A22 Z Z Z ⟨Z, Z⟩)) (Qb (Q4 Z Z (Zm (v := U a) Z l ⟨Z, Z⟩)) QV))))))))), ?_⟩
  refine QeJ ?_ ?_
  ·refine JQ Z Z (Tc Z Z Z (Zi Z Qk) (Ji aF aA (a3.mono (Zt n x))).r ?_)
   rintro aK eX ⟨d3, _, cI, bh, rfl⟩
   refine ⟨(Qb (Q4 Z Z (Zm (v := U a) Z l ⟨Z, Z⟩)) (Qb (Q4 Z Z (Zm (v := g) Z j ⟨Z, Z⟩)) (Qb (Q4 Z Z (Zp Yh Z i Z ⟨Z, Z⟩)) (Qb (Q4 Z Z (Zn (bh.f3) A3 Z Z Z ⟨Z, Z⟩)) (Qb (Q4 Z Z (Qd JG Z h Z (Qg b).1 (Qg b).2.1 ⟨Z, Z⟩)) (Qb (Q4 Z Z (Qt (F := (Qa .i64)) (bh.f2) h A3 Z Z Z b (Sub.refl _) (fun _ q => ⟨Z, Qv.1 q⟩))) (Qb (Q4 Z Z (Zm (v := U a) Z l ⟨Z, Z⟩)) QV))))))), ?_⟩
   refine JQ Z Z (Kr (E := encBool) bh S36 Z4 Z Z Z Z aG ?_)
   intro aL eY av
   refine ⟨(Qb (Q4 Z Z (Zm (v := U a) Z l ⟨Z, Z⟩)) (Qb (Q4 Z Z (Zm (v := g) Z j ⟨Z, Z⟩)) (Qb (Q4 Z Z (Zp Yh Z i Z ⟨Z, Z⟩)) (Qb (Q4 Z Z (Zn (av.f4) A3 Z Z Z ⟨Z, Z⟩)) (Qb (Q4 Z Z (Qd JG Z h Z (Qg b).1 (Qg b).2.1 ⟨Z, Z⟩)) (Qb (Q4 Z Z (Qt (F := (Qa .i64)) (av.f3) h A3 Z Z Z b (Sub.refl _) (fun _ q => ⟨Z, Qv.1 q⟩))) QV)))))), ?_⟩
   refine Qm Z Z (Exec.build Z (Qc (c := [U a]) (Qh Z Z) (Qc (c := [U d]) (Qh Z Z) (Qc (c := [aK]) (Qh Z (QX (av.f1).arr_one)) (Qc (c := [aL]) (Qh Z (QX av.arr_one)) Qu)))) (v := Value.agg #[U a, U d, aK, Vn, aL]) (fun _ => by kernel_rfl) ⟨Z, ?_⟩)
   refine QG (O Z Z (Qe (ds := [U a, U d, aK, Vn, aL]) (es := [U a, U d, aK, Vn, aL]) av.f2 KS Z Z Z Z (Zj Z (Zj Z (Zj ((av.f2).f2).arr_one (Zj Z (Zj ((av.f2).f1).arr_one Q5))))) (Nat.le_of_ble_eq_true Z) Z ?_))
   intro eZ cz
   refine Zb (V ?_)
   exact ⟨d3, bu, aK, aL, cI, (((((cz.f1).f2).f2).f5).f5).f5, j, i, ak, Z⟩
  refine JQ Z Z (Kr (E := encBool) aA S36 Z4 Z Z Z Z aG ?_)
  intro aM fa aW
  refine ⟨(Qb (Q4 Z Z (Zm (v := U a) Z l ⟨Z, Z⟩)) (Qb (Q4 Z Z (Zm (v := g) Z j ⟨Z, Z⟩)) (Qb (Q4 Z Z (Zp Yh Z i Z ⟨Z, Z⟩)) (Qb (Q4 Z Z (Zn (aW.f3) A3 Z Z Z ⟨Z, Z⟩)) (Qb (Q4 Z Z (Qd JG Z h Z (Qg b).1 (Qg b).2.1 ⟨Z, Z⟩)) (Qb (Q4 Z Z (Qt (F := (Qa .i64)) (aW.f2) h A3 Z Z Z b (Sub.refl _) (fun _ q => ⟨Z, Qv.1 q⟩))) (Qb (Q4 Z Z (Zp QaZ Z i Z ⟨Z, Z⟩)) (Qb (Q4 Z Z (Zn (aW.f3) A22 Z Z Z ⟨Z, Z⟩)) QV)))))))), ?_⟩
  refine JQ Z Z (Tc Z Z Z (Zi Z Qk) (Ji aF aW (a3.mono (Zt n x))).r ?_)
  rintro aN fb ⟨d4, _, cJ, aw, rfl⟩
  refine ⟨(Qb (Q4 Z Z (Zm (v := U a) Z l ⟨Z, Z⟩)) (Qb (Q4 Z Z (Zm (v := g) Z j ⟨Z, Z⟩)) (Qb (Q4 Z Z (Zp Yh Z i Z ⟨Z, Z⟩)) (Qb (Q4 Z Z (Zn (aw.f4) A3 Z Z Z ⟨Z, Z⟩)) (Qb (Q4 Z Z (Qd JG Z h Z (Qg b).1 (Qg b).2.1 ⟨Z, Z⟩)) (Qb (Q4 Z Z (Qt (F := (Qa .i64)) (aw.f3) h A3 Z Z Z b (Sub.refl _) (fun _ q => ⟨Z, Qv.1 q⟩))) QV)))))), ?_⟩
  refine Qm Z Z (Exec.build Z (Qc (c := [U a]) (Qh Z Z) (Qc (c := [U d]) (Qh Z Z) (Qc (c := [aN]) (Qh Z (QX aw.arr_one)) (Qc (c := [aM]) (Qh Z (QX (aw.f1).arr_one)) Qu)))) (v := Value.agg #[U a, U d, aN, Vn, aM]) (fun _ => by kernel_rfl) ⟨Z, ?_⟩)
  refine QG (O Z Z (Qe (ds := [U a, U d, aN, Vn, aM]) (es := [U a, U d, aN, Vn, aM]) aw.f2 KS Z Z Z Z (Zj Z (Zj Z (Zj ((aw.f2).f1).arr_one (Zj Z (Zj ((aw.f2).f2).arr_one Q5))))) (Nat.le_of_ble_eq_true Z) Z ?_))
  intro fc c0
  refine Zb (V ?_)
  exact ⟨d4, bu, aN, aM, cJ, (((((c0.f2).f2).f2).f5).f5).f5, j, i, ak, Z⟩
 intro eb fd cr
 obtain ⟨bW, ae, o, p, az, b8, cO, bL, cP, cQ⟩ := cr
 refine (V (Zc (Zc (Zd (O Z Z (Zp Qby Z bL Z (O Z Z (Zn (b8.f1) A36 Z Z Z (O Z Z (Zr S36 Z Z (aT.mono (Zt (Zt n x) az)) (O Z Z (Zm (v := U 0) Z Z (Zb (V ?_))))))))))))))
 obtain ⟨aX, ck, hm⟩ := Zg hm
 refine Qo (JZ (fun k' s' f' w' => (fun (aX : (List Bool)) => ∃ (bX : PHeap) , PHeap.le bW bX ∧ St w0 bX (Res.arr (Qa .i64) 3 g aj :: Res.box ai 38 [U (m.States), U (m.Init), am, ah, ad] :: Res.box ab 38 [U 0, U 0, Vn, Vn, Vn] :: Res.box ae 38 [U a, U d, o, Vn, p] :: Res.arr (Qa .i64) 3 o bf :: Res.arr encBool 4 p aX :: H) w' ∧ f' 1 = g ∧ f' 2 = Vq ai ∧ f' 4 = Vq ab ∧ f' 8 = Vq ae ∧ f' 42 = ad ∧ f' 43 = U ((m.Goals.length : Int)) ∧ f' 44 = U (k' : Int)) s') ck ?_ ?_ ?_)
 ·have c1 := b8.f5
  exact ⟨bW, (Zv _), ((((c1.f5).f5).f5).f5).f5, cO, bL, cP, cQ, Z, Z, Z⟩
 ·intro a5 aX d5 ec fe cC cm aD
  obtain ⟨bp, bH, b9, aZ, bM, bN, ba, bl, bm, aO⟩ := cm
  refine Zc (Zd (O Z Z (Zq Z aO bm (Zb (V (Zc (QL (Zx (decide_eq_true (by omega))) (Qq (V (Zc (Qo (Zc (Zd (O Z Z (Zm (v := U ((a5 : Int))) Z aO ?_)))))))))))))))
  obtain ⟨br, di, aD⟩ := Zg aD
  refine O Z Z (Qy S36 Z bl aO (aT.mono (Zt (Zt (Zt n x) az) bH)) di ?_)
  intro dG ev ce
  refine O Z Z (Zw (E := encBool) b9 A4 Z Z Z ce ?_)
  intro e5 dj
  obtain rfl := J0.1 dj
  refine O Z Z (Zo (v := U ((a5 : Int))) Z Z (O Z Z (Zo (v := Vb br) Z Z (Zb (V ?_)))))
  obtain ⟨aE, u, aD⟩ := Zg aD
  refine QK (M := fun f' w' => (fun (aE : (List Bool)) => ∃ (bY : PHeap) , PHeap.le bp bY ∧ St w0 bY (Res.arr (Qa .i64) 3 g aj :: Res.box ai 38 [U (m.States), U (m.Init), am, ah, ad] :: Res.box ab 38 [U 0, U 0, Vn, Vn, Vn] :: Res.box ae 38 [U a, U d, o, Vn, p] :: Res.arr (Qa .i64) 3 o bf :: Res.arr encBool 4 p aE :: H) w' ∧ f' 1 = g ∧ f' 2 = Vq ai ∧ f' 4 = Vq ab ∧ f' 8 = Vq ae ∧ f' 42 = ad ∧ f' 43 = U ((m.Goals.length : Int)) ∧ f' 44 = U ((a5 : Int))) aE) ?_ ?_
  ·refine KT (n0 := 17) (qs 0 17 .done) Yc (by kernel_rfl) (by kernel_rfl) ?_
   have y := b9.drew
   refine Qm Z Z (Zp Qby Z ba Z ⟨Z, ?_⟩)
   refine Qm Z Z (Zn (y.f3) A36 Z Z Z ⟨Z, ?_⟩)
   refine Qm Z Z (Zm (v := g) Z aZ ⟨Z, ?_⟩)
   refine Qm Z Z (Zm (v := U ((a5 : Int))) Z Z ⟨Z, ?_⟩)
   obtain ⟨ft, al, u⟩ := Zg u
   obtain ⟨ei, dL, bv⟩ := y.arr_at al
   refine Qm Z Z (Qd JG Z bv Z (Qg al).1 (Qg al).2.1 ⟨Z, ?_⟩)
   refine Qm Z Z (Qt (F := (Qa .i64)) (y) bv A3 Z Z Z al (Sub.refl _) ?_)
   intro e6 dk
   obtain rfl := Qv.1 dk
   refine ⟨Z, ?_⟩
   refine Qm Z Z (Zp Qby Z ba Z ⟨Z, ?_⟩)
   refine Qm Z Z (Zn (y.f3) A36 Z Z Z ⟨Z, ?_⟩)
   refine Qm Z Z (Zm (v := g) Z aZ ⟨Z, ?_⟩)
   refine Qm Z Z (Zm (v := U ((a5 : Int))) Z Z ⟨Z, ?_⟩)
   obtain ⟨ej, dM, bw⟩ := y.arr_at al
   refine Qm Z Z (Qd JG Z bw Z (Qg al).1 (Qg al).2.1 ⟨Z, ?_⟩)
   refine Qm Z Z (Qt (F := (Qa .i64)) (y) bw A3 Z Z Z al (Sub.refl _) ?_)
   intro e7 dl
   obtain rfl := Qv.1 dl
   refine ⟨Z, ?_⟩
   obtain ⟨dB, ac, u⟩ := Zg u
   obtain ⟨ek, dN, bx⟩ := (y.f5).arr_at ac
   refine Qm Z Z (Qd S36 Z bx Z (Qg ac).1 (Qg ac).2.1 ⟨Z, ?_⟩)
   refine Qm Z Z (Qt (F := encBool) (y.f5) bx A4 Z Z Z ac (Sub.refl _) ?_)
   intro e8 dm
   obtain rfl := J0.1 dm
   refine ⟨Z, ?_⟩
   refine Qm Z Z (Zm (v := Vb dB) Z Z ⟨Z, ?_⟩)
   rcases Qf u with ⟨a4, u⟩ | ⟨a4, u⟩
   ·refine Jh 2 (by rw [a4]; rfl) ?_
    refine QG ?_
    obtain ⟨el, dO, bz⟩ := (y.f5).arr_at ac
    refine O Z Z (Qd S36 Z bz Z (Qg ac).1 (Qg ac).2.1 ?_)
    obtain ⟨ep, dn, u⟩ := Zg u
    refine O Z Z (QQ y.f5 bz A4 Z Z Z Z (J0.2 Z) dn ?_)
    intro ff c2
    refine Zb (V ?_)
    have dV := Zu u
    subst aE
    exact ⟨bp, (Zv _), ((((c2.f5).f5).f5).f5).f5, aZ, bM, bN, ba, bl, bm, aO⟩
   replace a4 := Zk a4
   refine QE Z Z (Zf Z (Zx a4)) (Zm (v := Vb br) Z Z ⟨Z, ?_⟩)
   refine Qm Z Z (Q8 (v := Vb br) Z (Zx a4) Z ⟨Z, ?_⟩)
   refine QG ?_
   obtain ⟨em, dP, b0⟩ := (y.f5).arr_at ac
   refine O Z Z (Qd S36 Z b0 Z (Qg ac).1 (Qg ac).2.1 ?_)
   obtain ⟨er, dp, u⟩ := Zg u
   refine O Z Z (QQ y.f5 b0 A4 Z Z Z Z (J0.2 Z) dp ?_)
   intro fg c3
   refine Zb (V ?_)
   have dW := Zu u
   subst aE
   exact ⟨bp, (Zv _), ((((c3.f5).f5).f5).f5).f5, aZ, bM, bN, ba, bl, bm, aO⟩
  intro ed fh ct
  obtain ⟨d6, cK, c4, cR, cS, cT, cU, cV, cW, cX⟩ := ct
  refine (Qz (V (Zd (O Z Z (Exec.add Z cX Z (O Z Z (Zm (v := U (IntKind.i64.wrap ((a5 : Int) + 1))) Z Z (Zb (V ?_)))))))))
  have dX := Zu aD
  subst d5
  exact ⟨d6, (Zt bH cK), (((((c4.f5).f5).f5).f5).f5).f5, cR, cS, cT, cU, cV, cW, (Eq.trans Z (QF cC (SliceRep.le (aT.mono (Zt (Zt n x) az)))))⟩
 intro ee fi cn
 obtain ⟨bZ, aY, bA, cY, cZ, da, db, ex, dc, dC⟩ := cn
 refine Zc (Zd (O Z Z (Zq Z dC dc (Zb (V (Zc (QB (Zx (decide_eq_false (by omega))) (QJ (Qn (Qn (Q9 (V (Zc (Zc (Zd (O Z Z (Zp QaN Z cZ Z (O Z Z (Zn (bA.f1) A35 Z Z Z (O Z Z (Zr S35 Z Z (aS.mono (Zt (Zt (Zt n x) az) aY)) (O Z Z (Zm (v := U 0) Z Z (Zb (V ?_)))))))))))))))))))))))))
 obtain ⟨bt, cl, hm⟩ := Zg hm
 refine Qo (JZ (fun k' s' f' w' => (fun (bt : (List Edge)) => ∃ (ca : PHeap) (be : Value), PHeap.le bZ ca ∧ St w0 ca (Res.arr (Qa .i64) 3 g aj :: Res.box ab 38 [U 0, U 0, Vn, Vn, Vn] :: Res.box ae 38 [U a, U d, o, be, p] :: Res.arr (Qa .i64) 3 o bf :: Res.arr encEdge 85 be bt :: Res.arr encBool 4 p aX :: H) w' ∧ f' 1 = g ∧ f' 4 = Vq ab ∧ f' 8 = Vq ae ∧ f' 69 = ah ∧ f' 70 = U ((m.Edges.length : Int)) ∧ f' 71 = U (k' : Int)) s') cl ?_ ?_ ?_)
 ·have c5 := bA.nilArr encEdge 85
  exact ⟨bZ, Vn, (Zv _), (((((((c5.f2).drop).f5).f1).f5).f5).f5).f5, cY, da, db, Z, Z, Z⟩
 ·intro cE bt d7 ef fj cD co ag
  obtain ⟨d8, be, bI, bB, bn, dd, bb, bO, bP, bs⟩ := co
  refine Zc (Zd (O Z Z (Zq Z bs bP (Zb (V (Zc (QL (Zx (decide_eq_true (by omega))) (Qq (V (Zc (Qo (Zc (Zd ?_)))))))))))))
  obtain ⟨t, dq, ag⟩ := Zg ag
  refine O Z Z (Qy S35 Z bO bs (aS.mono (Zt (Zt (Zt (Zt n x) az) aY) bI)) dq ?_)
  intro dH ew cf
  refine O Z Z (Zw (E := encEdge) bB A85 Z Z Z cf ?_)
  intro e9 dr
  obtain rfl := JX.1 dr
  refine O Z Z (Exec.alloc (cs := [U 0, U 0, U 0]) bB Z85 Z Z ?_)
  intro dI fk c6
  refine O Z Z (Qe (ds := [U (t.From), U (t.Label), U (t.To)]) (es := [U (t.From), U (t.Label), U (t.To)]) c6 A85 Z Z Z Z (Zj Z (Zj Z (Zj Z Q5))) (Nat.le_of_ble_eq_true Z) Z ?_)
  intro fl c7
  refine Zb (V (KT (n0 := 17) (qs 0 15 (.e 15 [0, 1] (.e 16 [] .done))) Yc (by kernel_rfl) (by kernel_rfl) ?_))
  have af := c7.drew
  refine Qm Z Z (Zp QaN Z bb Z ⟨Z, ?_⟩)
  refine Qm Z Z (Zn (af.f3) A35 Z Z Z ⟨Z, ?_⟩)
  refine Qm Z Z (Zm (v := g) Z bn ⟨Z, ?_⟩)
  refine Qm Z Z (Zp Qbx Z Z Z ⟨Z, ?_⟩)
  refine Qm Z Z (Zn (af) A3 Z Z Z ⟨Z, ?_⟩)
  obtain ⟨a2, bc, ag⟩ := Zg ag
  obtain ⟨en, dQ, b1⟩ := (af.f1).arr_at bc
  refine Qm Z Z (Qd JG Z b1 Z (Qg bc).1 (Qg bc).2.1 ⟨Z, ?_⟩)
  refine Qm Z Z (Qt (F := (Qa .i64)) (af.f1) b1 A3 Z Z Z bc (Sub.refl _) ?_)
  intro eA dt
  obtain rfl := Qv.1 dt
  refine ⟨Z, ?_⟩
  refine Qm Z Z (Zp Qaw Z Z Z ⟨Z, ?_⟩)
  refine Qm Z Z (Zn (af) A3 Z Z Z ⟨Z, ?_⟩)
  refine Qm Z Z (Zm (v := g) Z bn ⟨Z, ?_⟩)
  refine Qm Z Z (Zp Qan Z Z Z ⟨Z, ?_⟩)
  refine Qm Z Z (Zn (af) A3 Z Z Z ⟨Z, ?_⟩)
  obtain ⟨an, bd, ag⟩ := Zg ag
  obtain ⟨eo, dR, b2⟩ := (af.f1).arr_at bd
  refine Qm Z Z (Qd JG Z b2 Z (Qg bd).1 (Qg bd).2.1 ⟨Z, ?_⟩)
  refine Qm Z Z (Qt (F := (Qa .i64)) (af.f1) b2 A3 Z Z Z bd (Sub.refl _) ?_)
  intro eB du
  obtain rfl := Qv.1 du
  refine ⟨Z, ?_⟩
  refine Qm Z Z (Exec.build Z (Qc (c := [U a2]) (Qh Z Z) (Qc (c := [U (t.Label)]) (Qh Z Z) (Qc (c := [U an]) (Qh Z Z) Qu))) (v := Value.agg #[U a2, U (t.Label), U an]) (fun _ => by kernel_rfl) ⟨Z, ?_⟩)
  refine JQ Z Z (Exec.buildSlice (Te := 85) (cs := [U a2, U (t.Label), U an]) af Z (Qc (c := [U a2, U (t.Label), U an]) (Qh Z Z) Qu) (fun _ => by kernel_rfl) ?_)
  intro dJ fm bC
  refine ⟨(Qb (Q4 Z Z (Zp QaN Z bb Z ⟨Z, Z⟩)) (Qb (Q4 Z Z (Zn (bC.f4) A35 Z Z Z ⟨Z, Z⟩)) QV)), ?_⟩
  obtain ⟨et, dv, ag⟩ := Zg ag
  refine JQ Z Z (QZ (E := encEdge) (ys := [(⟨a2, t.Label, an⟩ : Edge)]) bC.f6 S35 Z85 Z (by decide) Z Z Z Z ⟨[U a2, U (t.Label), U an], [], Z, ⟨[U a2], [U (t.Label), U an], Z, Z, ⟨[U (t.Label)], [U an], Z, Z, Z⟩⟩, Z⟩ Z dv ?_)
  intro bq fn bi
  refine ⟨QV, ?_⟩
  refine QG (O Z Z (Zp QaN Z bb Z (O Z Z (Qe (ds := [bq]) (es := [U a, U d, o, bq, p]) bi.f4 A35 Z Z Z (QX ((bi.f4).f1).arr_one) (Zj ((bi.f4).f1).arr_one Q5) (Nat.le_of_ble_eq_true Z) Z ?_))))
  intro fo c8
  refine Zb (Qz (V (Zd (O Z Z (Exec.add Z bs Z (O Z Z (Zm (v := U (IntKind.i64.wrap ((cE : Int) + 1))) Z Z (Zb (V ?_)))))))))
  have dY := Zu ag
  subst d7
  exact ⟨d8, bq, bI, (((((((c8.f2).drop).f5).f2).f5).f3).f5).f5, bn, dd, bb, bO, bP, (Eq.trans Z (QF cD (SliceRep.le (aS.mono (Zt (Zt (Zt n x) az) aY)))))⟩
 intro eg fp cp
 obtain ⟨e0, be, cL, bD, ey, bQ, bo, ez, de, dD⟩ := cp
 refine Zc (Zd (O Z Z (Zq Z dD de (Zb (V (Zc (QB (Zx (decide_eq_false (by omega))) (QJ (Qn (Qn (Q9 (V (Zc (Zd (O Z Z (Zp QaN Z bo Z (O Z Z (Zn (bD.f2) A35 Z Z Z ?_))))))))))))))))))
 obtain ⟨eu, dw, hm⟩ := Zg hm
 refine O Z Z (Tc Z Z Z (Zi Z Qk) (Qeb dw bD.f4).r ?_)
 rintro a6 fq ⟨e1, _, cM, bj, rfl⟩
 refine O Z Z (Zp QaN Z bo Z (O Z Z (Qe (ds := [a6]) (es := [U a, U d, o, a6, p]) bj.f3 A35 Z Z Z (QX ((bj.f3).f1).arr_one) (Zj ((bj.f3).f1).arr_one Q5) (Nat.le_of_ble_eq_true Z) Z ?_)))
 intro fr aB
 refine Zb (V (Zc (Zd (O Z Z (Ql (ds := [U a, U d, o, a6, p]) (aB) KS Z bo Z (O Z Z (Qe (ds := [U a, U d, o, a6, p]) (es := [U a, U d, o, a6, p]) aB.f3 KS Z bQ Z Z (Zj Z (Zj Z (Zj ((aB.f3).f4).arr_one (Zj ((aB.f3).f2).arr_one (Zj ((aB.f3).f5).arr_one Q5))))) (Nat.le_of_ble_eq_true Z) Z ?_)))))))
 intro fs bE
 refine O Z Z (Zo (v := QD 50 (none)) Z Z (Zb (V (Q0 ?_))))
 have dZ := Zu hm
 subst r
 refine ⟨_, Qat Z ⟨_, _, bQ, Kj (bE) KS⟩ Z, ?_⟩
 obtain ⟨e2, cN, c9, dx⟩ := bE.f4.freezeArr
 obtain ⟨e3, bJ, cA, dy⟩ := c9.f2.freezeArr
 obtain ⟨d9, bk, cB, dz⟩ := cA.f3.freezeArr
 exact ⟨d9, o, a6, p, (Zt (Zt (Zt (Zt (Zt (Zt (Zt (Zt n x) az) aY) cL) cM) cN) bJ) bk), (cB.drop).drop, (Yp Z Z), (dx.mono (Zt bJ bk)), (dy.mono bk), dz⟩
theorem Kk {w0 w : World} {s : PHeap} {H : List Res} {aq : mergeshrink_Abstraction} {a : System} {ao : Int} {p : Nat} {af : Value} {ag : Value} {ah : Value} {c : Value} {d : Value} {g : Value} {r : (List Int) × (Option Int) × System × Bool} (hm : Jk aq a ao = some r) (hS : St w0 s (Res.box p 74 [af, ag, ah, Value.bool (aq.exact)] :: H) w) (y : SliceRep (Qa .i64) s c a.Costs) (z : SliceRep encEdge s d a.Edges) (aa : SliceRep encBool s g a.Goals) :
  Calls Tryz.prog 58 #[Value.pointer (some ⟨p, 0, none⟩), Value.agg #[U (a.States), U (a.Init), c, d, g], U ao] w fun e w' => ∃ v, e = .returned v ∧ ((un4 fun (bj : (List Int)) (bk : (Option Int)) (ai : System) (bm : Bool) => ∃ (t : PHeap) (aC : Value) (aD : Value) (aE : Value) (aF : Value), PHeap.le s t ∧ St w0 t (Res.box p 74 [af, ag, ah, Value.bool (bm)] :: H) w' ∧ v = Value.tuple #[Value.agg #[U (ai.States), U (ai.Init), aD, aE, aF], aC, QD 50 (bk)] ∧ SliceRep (Qa .i64) t aC bj ∧ SliceRep (Qa .i64) t aD ai.Costs ∧ SliceRep encEdge t aE ai.Edges ∧ SliceRep encBool t aF ai.Goals) r) := by
 unfold Jk at hm
 refine Qw Tryz.func58 Z Z (Zc (Zd (O Z Z (Exec.box (cs := [U (a.States), U (a.Init), c, d, g]) hS Z Z Z ?_))))
 intro a0 bz aI
 refine O Z Z (Exec.alloc (cs := [U 0, U 0, Vn, Vn, Vn]) aI Z38 Z Z ?_)
 intro a1 b0 q
 refine O Z Z (Zo (v := Vn) Z Z (O Z Z (Zo (v := QD 50 (none)) Z Z (Zb (V (Zc (Zc (Zd (O Z Z (Zp JV Z Z Z (O Z Z (Zn (q.f1) A3 Z Z Z (O Z Z (Zm (v := U ao) Z Z (O Z Z (Exec.leq Z Z Z (Zb (V ?_))))))))))))))))))
 rcases Qf hm with ⟨ab, hm⟩ | ⟨ab, hm⟩
 ·refine Qr Z ab (Zc (KT (n0 := 5) (qs 0 3 (.e 3 [0] (.e 4 [] .done))) Yc (by kernel_rfl) (by kernel_rfl) (Qm Z Z (Ql (ds := [U (a.States), U (a.Init), c, d, g]) ((q.drew).f1) KS Z Z Z ⟨Z, ?_⟩))))
  refine Qm Z Z (Zp JV Z Z Z ⟨Z, ?_⟩)
  refine Qm Z Z (Zn ((q.drew).f1) A3 Z Z Z ⟨Z, ?_⟩)
  obtain ⟨bG, aU, hm⟩ := Zg hm
  refine JQ Z Z (Tc Z Z Z (Zi Z Qk) (Qbl aU q.drew).r ?_)
  rintro aG b1 ⟨bc, _, o, a2, rfl, ba⟩
  refine ⟨(Qb (Q4 Z Z (Ql (ds := [U (a.States), U (a.Init), c, d, g]) (a2.f1) KS Z Z Z ⟨Z, Z⟩)) QV), ?_⟩
  refine JQ Z Z (Qe (ds := [U (a.States), U (a.Init), c, d, g]) (es := [U (a.States), U (a.Init), c, d, g]) a2 KS Z Z Z Z (Zj Z (Zj Z (Zj ((y.mono o)).one (Zj ((z.mono o)).one (Zj ((aa.mono o)).one Q5))))) (Nat.le_of_ble_eq_true Z) Z ?_)
  intro b2 a3
  refine ⟨QV, ?_⟩
  refine QG (O Z Z (Zo (v := aG) Z Z (O Z Z (Zo (v := QD 50 (none)) Z Z (Zb (V (Q0 (Qi ?_))))))))
  have bo := Zu hm
  subst r
  refine ⟨_, QjH Z ⟨_, _, Z, Kj (a3) KS⟩ Z Z, ?_⟩
  exact ⟨bc, aG, c, d, g, o, (a3.drop).drop, (Qmp Z Z Z), ba, (y.mono o), (z.mono o), (aa.mono o)⟩
 refine Qs Z ab ?_
 replace ab := Zk ab
 refine Qq (V (Zc (Zd (O Z Z (Ql (ds := [U (a.States), U (a.Init), c, d, g]) (q.f1) KS Z Z Z (O Z Z (Zm (v := U ao) Z Z ?_)))))))
 obtain ⟨bg, aV, hm⟩ := Zg hm
 obtain ⟨bl, u⟩ := bg
 replace hm := Jp hm
 refine O Z Z (Tc Z Z Z (Zi Z (Zi Z Qk)) (QeW aV q y z aa).r ?_)
 rintro _ b3 ⟨bd, i, k, ar, rfl⟩
 refine O Z Z (Zm (v := Value.tuple #[i, QD 50 (u)]) Z Z (O Z Z (Exec.extract (v := i) Z Z Z (O Z Z (Exec.extract (v := QD 50 (u)) Z Z Z (O Z Z (Zo (v := i) Z Z (O Z Z (Zo (v := QD 50 (u)) Z Z (Zb (V (Zc (Zc (Zd (O Z Z (Zm (v := QD 50 (u)) Z Z (O Z Z (Jj (T := 50) Tryz.underlying32 Z Z Z (Zb (V ?_))))))))))))))))))))
 rcases Qf hm with ⟨ac, hm⟩ | ⟨ac, hm⟩
 ·refine Qr Z ac (Zc (Zd (O Z Z (Exec.build Z Qu (v := Value.agg #[U 0, U 0, Vn, Vn, Vn]) (fun _ => by kernel_rfl) (O Z Z (Zm (v := QD 50 (u)) Z Z (O Z Z (Qe (ds := [U 0, U 0, Vn, Vn, Vn]) (es := [U 0, U 0, Vn, Vn, Vn]) ar.f1 KS Z Z Z Z (Zj Z (Zj Z (Zj Z (Zj Z (Zj Z Q5))))) (Nat.le_of_ble_eq_true Z) Z ?_))))))))
  intro b4 a4
  refine O Z Z (Zo (v := Vn) Z Z (O Z Z (Zo (v := QD 50 (u)) Z Z (Zb (V (Q0 (Qi ?_)))))))
  have bp := Zu hm
  subst r
  refine ⟨_, QjH Z ⟨_, _, Z, Kj (a4) KS⟩ Z Z, ?_⟩
  exact ⟨bd, Vn, Vn, Vn, Vn, k, ((a4.drop).drop).drop, (Qmp Z Z Z), (SliceRep.nil _ _), (SliceRep.nil _ _), (SliceRep.nil _ _), (SliceRep.nil _ _)⟩
 refine Qs Z ac ?_
 replace ac := Zk ac
 refine Qq (V (Zc (Zd (O Z Z (Ql (ds := [U (a.States), U (a.Init), c, d, g]) (ar.f2) KS Z Z Z ?_)))))
 obtain ⟨bh, aW, hm⟩ := Zg hm
 obtain ⟨bH, x⟩ := bh
 replace hm := Jp hm
 refine O Z Z (Tc Z Z Z (Zi Z Qk) (Qar aW ar (y.mono k) (z.mono k) (aa.mono k)).r ?_)
 rintro _ b5 ⟨ax, ap, ae, al, rfl⟩
 refine O Z Z (Zm (v := Value.tuple #[ap, QD 50 (x)]) Z Z (O Z Z (Exec.extract (v := ap) Z Z Z (O Z Z (Exec.extract (v := QD 50 (x)) Z Z Z (O Z Z (Zo (v := ap) Z Z (O Z Z (Zo (v := QD 50 (x)) Z Z (Zb (V (Zc (Zc (Zd (O Z Z (Zm (v := QD 50 (x)) Z Z (O Z Z (Jj (T := 50) Tryz.underlying32 Z Z Z (Zb (V ?_))))))))))))))))))))
 rcases Qf hm with ⟨ad, hm⟩ | ⟨ad, hm⟩
 ·refine Qr Z ad (Zc (Zd (O Z Z (Exec.build Z Qu (v := Value.agg #[U 0, U 0, Vn, Vn, Vn]) (fun _ => by kernel_rfl) (O Z Z (Zm (v := QD 50 (x)) Z Z (O Z Z (Qe (ds := [U 0, U 0, Vn, Vn, Vn]) (es := [U 0, U 0, Vn, Vn, Vn]) al.f2 KS Z Z Z Z (Zj Z (Zj Z (Zj Z (Zj Z (Zj Z Q5))))) (Nat.le_of_ble_eq_true Z) Z ?_))))))))
  intro b6 a5
  refine O Z Z (Zo (v := Vn) Z Z (O Z Z (Zo (v := QD 50 (x)) Z Z (Zb (V (Q0 (Qi ?_)))))))
  have bq := Zu hm
  subst r
  refine ⟨_, QjH Z ⟨_, _, Z, Kj (a5) KS⟩ Z Z, ?_⟩
  exact ⟨ax, Vn, Vn, Vn, Vn, (Zt k ae), (((a5.drop).drop).drop).drop, (Qmp Z Z Z), (SliceRep.nil _ _), (SliceRep.nil _ _), (SliceRep.nil _ _), (SliceRep.nil _ _)⟩
 refine Qs Z ad ?_
 replace ad := Zk ad
 refine Qq (V (Zc ?_))
 obtain ⟨ak, j, hm⟩ := Zg hm
 refine QK (M := fun f' w' => (fun (ak : Bool) => ∃ (aB : PHeap) , PHeap.le ax aB ∧ St w0 aB (Res.box p 74 [af, ag, ah, Vb ak] :: Res.box a0 38 [U (a.States), U (a.Init), c, d, g] :: Res.box a1 38 [U 0, U 0, Vn, Vn, Vn] :: Res.arr (Qa .i64) 3 i bl :: H) w' ∧ f' 4 = Vq a0 ∧ f' 6 = Vq a1 ∧ f' 9 = i) ak) ?_ ?_
 ·refine Zd (O Z Z (Zm (v := Vq p) Z Z (O Z Z (Zm (v := Vq p) Z Z (O Z Z (QI Z Z (O Z Z (Zp QjN Z Z Z (O Z Z (Zn (al.f4) A4 Z Z Z (O Z Z (Zm (v := Vb (aq.exact)) Z Z ?_))))))))))))
  rcases Qf j with ⟨h, j⟩ | ⟨h, j⟩
  ·refine Qj Z (Zf Z (Zx h)) Z (Zm (v := i) Z Z ?_)
   obtain ⟨ay, aX, j⟩ := Zg j
   refine Qj Z (Zf Z (Zx h)) Z (Tc Z Z Z (Zi Z Qk) (Qas aX al.f1).r ?_)
   rintro _ b7 ⟨bv, aQ, aJ, rfl⟩
   refine Qj Z (Zf Z (Zx h)) Z (Zm (v := ap) Z Z ?_)
   obtain ⟨az, aY, j⟩ := Zg j
   refine Qj Z (Zf Z (Zx h)) Z (Tc Z Z Z (Zi Z Qk) (Qas aY aJ.f1).r ?_)
   rintro _ b8 ⟨be, aR, aK, rfl⟩
   refine Qj Z (Zf Z (Zx h)) Z (Exec.eql Z Z Z (O Z Z (Zs (v := Vb (decide (ay = az))) Z (Zx h) Z (O Z Z (QI Z Z (O Z Z (Zp QjN Z Z Z (O Z Z (Qe (ds := [Vb (decide (ay = az))]) (es := [af, ag, ah, Vb (decide (ay = az))]) aK.f4 A4 Z Z Z Z (Zj Z Q5) (Nat.le_of_ble_eq_true Z) Z ?_)))))))))
   intro b9 aL
   refine Zb (V ?_)
   have br := Zu j
   subst ak
   exact ⟨be, (Zt aQ aR), (((((aL.f1).drop).f1).f2).f3).f3, Z, Z, Z⟩
  replace h := Zk h
  refine Qx 6 (by rw [h]; rfl) ?_
  refine O Z Z (QI Z Z (O Z Z (Zp QjN Z Z Z (O Z Z (Qe (ds := [Vb false]) (es := [af, ag, ah, Vb false]) al.f4 A4 Z Z Z Z (Zj Z Q5) (Nat.le_of_ble_eq_true Z) Z ?_)))))
  intro bA aM
  refine Zb (V ?_)
  have bs := Zu j
  subst ak
  exact ⟨ax, (Zv _), (((((aM.f1).drop).f1).f2).f3).f3, Z, Z, Z⟩
 intro bu bB aH
 obtain ⟨bw, am, a6, aT, a9, aA⟩ := aH
 refine (V (Zc (Zd (O Z Z (Ql (ds := [U (a.States), U (a.Init), c, d, g]) (a6.f1) KS Z aT Z (O Z Z (Zm (v := i) Z aA ?_)))))))
 obtain ⟨bi, aZ, hm⟩ := Zg hm
 obtain ⟨aj, b⟩ := bi
 replace hm := Jp hm
 refine O Z Z (Tc Z Z Z (Zi Z (Zi Z Qk)) (QcW aZ a6.f3 (y.mono (Zt (Zt k ae) am)) (z.mono (Zt (Zt k ae) am)) (aa.mono (Zt (Zt k ae) am))).r ?_)
 rintro _ bC ⟨bx, l, m, n, aS, aN, rfl, au, av, aw⟩
 refine O Z Z (Zm (v := Value.tuple #[Value.agg #[U (b.States), U (b.Init), l, m, n], QD 50 (aj)]) Z Z (O Z Z (Exec.extract (v := Value.agg #[U (b.States), U (b.Init), l, m, n]) Z Z Z (O Z Z (Exec.extract (v := QD 50 (aj)) Z Z Z (O Z Z (Exec.alloc (cs := [U 0, U 0, Vn, Vn, Vn]) aN Z38 Z Z ?_)))))))
 intro bn bD aO
 refine O Z Z (Qe (ds := [U (b.States), U (b.Init), l, m, n]) (es := [U (b.States), U (b.Init), l, m, n]) aO KS Z Z Z Z (Zj Z (Zj Z (Zj au.one (Zj av.one (Zj aw.one Q5))))) (Nat.le_of_ble_eq_true Z) Z ?_)
 intro bE a7
 refine O Z Z (Zo (v := QD 50 (aj)) Z Z (Zb (V (Zc (Zd (O Z Z (Ql (ds := [U (b.States), U (b.Init), l, m, n]) (a7) KS Z Z Z (O Z Z (Zm (v := i) Z aA (O Z Z (Zm (v := QD 50 (aj)) Z Z (O Z Z (Qe (ds := [U (b.States), U (b.Init), l, m, n]) (es := [U (b.States), U (b.Init), l, m, n]) a7.f4 KS Z a9 Z Z (Zj Z (Zj Z (Zj au.one (Zj av.one (Zj aw.one Q5))))) (Nat.le_of_ble_eq_true Z) Z ?_)))))))))))))
 intro bF a8
 refine O Z Z (Zo (v := i) Z Z (O Z Z (Zo (v := QD 50 (aj)) Z Z (Zb (V (Q0 ?_))))))
 have bt := Zu hm
 subst r
 refine ⟨_, QjH Z ⟨_, _, a9, Kj (a8) KS⟩ Z Z, ?_⟩
 obtain ⟨bf, an, aP, bb⟩ := a8.f2.freezeArr
 exact ⟨bf, i, l, m, n, (Zt (Zt (Zt (Zt k ae) am) aS) an), (((aP.drop).drop).f1).drop, (Qmp Z Z Z), bb, (au.mono an), (av.mono an), (aw.mono an)⟩
theorem Qll : Jt Tryz.prog 87 1 = some 1 := by kernel_rfl
theorem Qlk : Jt Tryz.prog 87 3 = some 3 := by kernel_rfl
theorem QfE : Jt Tryz.prog 74 1 = some 1 := by kernel_rfl
theorem A72 : JU Tryz.prog 72 = some (false, 1) := by kernel_rfl
theorem S72 : Je Tryz.prog 72 = some (87, 4, 64) := by kernel_rfl
theorem Qnj : Jt Tryz.prog 87 2 = some 2 := by kernel_rfl
theorem QgD : Je Tryz.prog 131 = some (35, 1, 24) := by kernel_rfl
theorem Z35 : JL Tryz.prog 35 = some (Value.slice none 0 0) := by kernel_rfl
theorem Qbk {w0 w : World} {s : PHeap} {H : List Res} {h : System} {x : Value} {o : Value} {y : Value} {r : (List (List Edge))} (hm : Kx h = some r) (hS : St w0 s (H) w) (am : SliceRep (Qa .i64) s x h.Costs) (p : SliceRep encEdge s o h.Edges) (aK : SliceRep encBool s y h.Goals) :
  Calls Tryz.prog 86 #[Value.agg #[U (h.States), U (h.Init), x, o, y]] w fun e w' => ∃ v, e = .returned v ∧ ((fun (aJ : (List (List Edge))) => ∃ (u : PHeap) (al : Value), PHeap.le s u ∧ St w0 u (H) w' ∧ v = al ∧ SliceRep (QM encEdge) u al aJ) r) := by
 unfold Kx at hm
 refine Qw Tryz.func86 Z Z (Zc (Zd (O Z Z (Exec.box (cs := [U (h.States), U (h.Init), x, o, y]) hS Z Z Z ?_))))
 intro aL bf ab
 refine O Z Z (Zo (v := Vn) Z Z (Zb (V (Zc (Zd (O Z Z (Zp QaZ Z Z Z (O Z Z (Zn (ab) A22 Z Z Z (O Z Z (Zr JG Z Z am ?_)))))))))))
 obtain ⟨aW, a8, hm⟩ := Zg hm
 refine O Z Z (QbL (F := encEdge) (T2 := 85) ab QgD Z35 Z Z Z a8 ?_)
 intro b a1 bg ac
 refine O Z Z (Zo (v := b) Z Z (Zb (V (Zc (Zc (Zd (O Z Z (Zp QaN Z Z Z (O Z Z (Zn (ac.f2) A35 Z Z Z (O Z Z (Zr S35 Z Z p (O Z Z (Zm (v := U 0) Z Z (Zb (V ?_))))))))))))))))
 obtain ⟨t, ao, hm⟩ := Zg hm
 refine Qo (JZ (fun k' s' f' w' => (fun (t : (List (List Edge))) => ∃ (ak : PHeap) (n : List Value), PHeap.le s ak ∧ St w0 ak (Res.arr encRaw 35 b n :: Res.rows encEdge 85 n t :: H) w' ∧ f' 3 = b ∧ f' 11 = o ∧ f' 12 = U ((h.Edges.length : Int)) ∧ f' 13 = U (k' : Int)) s') ao ?_ ?_ ?_)
 ·have ar := (ac.f2).drop
  exact ⟨s, a1, (Zv _), ar, Z, Z, Z, Z⟩
 ·intro a3 t aE aS bh a0 ap g
  obtain ⟨aF, n, af, ad, l, ag, ah, z⟩ := ap
  refine Zc (Zd (O Z Z (Zq Z z ah (Zb (V (Zc (QL (Zx (decide_eq_true (by omega))) (Qq (V (Zc (Qo (Zc (Zd ?_)))))))))))))
  obtain ⟨a, a9, g⟩ := Zg g
  refine O Z Z (Qy S35 Z ag z (p.mono af) a9 ?_)
  intro aM aZ an
  refine O Z Z (Zw (E := encEdge) ad A85 Z Z Z an ?_)
  intro bd aA
  obtain rfl := JX.1 aA
  refine O Z Z (Exec.alloc (cs := [U 0, U 0, U 0]) ad Z85 Z Z ?_)
  intro aN bi au
  refine O Z Z (Qe (ds := [U (a.From), U (a.Label), U (a.To)]) (es := [U (a.From), U (a.Label), U (a.To)]) au A85 Z Z Z Z (Zj Z (Zj Z (Zj Z Q5))) (Nat.le_of_ble_eq_true Z) Z ?_)
  intro bj av
  refine Zb (V (KT (n0 := 11) (qs 0 9 (.e 9 [0, 1, 2, 3, 4, 5, 6, 7] (.e 10 [0, 1, 2] .done))) Yc (by kernel_rfl) (by kernel_rfl) ?_))
  have i := av.drew
  refine Qm Z Z (Zm (v := b) Z l ⟨Z, ?_⟩)
  refine Qm Z Z (Zp Qaw Z Z Z ⟨Z, ?_⟩)
  refine Qm Z Z (Zn (i) A3 Z Z Z ⟨Z, ?_⟩)
  refine Qm Z Z (Zm (v := b) Z l ⟨Z, ?_⟩)
  refine Qm Z Z (Zp Qaw Z Z Z ⟨Z, ?_⟩)
  refine Qm Z Z (Zn (i) A3 Z Z Z ⟨Z, ?_⟩)
  obtain ⟨bb, ai, g⟩ := Zg g
  obtain ⟨aV, d, aa, _⟩ := (((i.f2).f2).f1).rows_at ai
  obtain ⟨aU, aP, j⟩ := ((i.f2).f2).arr_at d
  refine Qm Z Z (Qd QgD Z j Z (Qg d).1 (Qg d).2.1 ⟨Z, ?_⟩)
  refine Qm Z Z (Qt (F := encRaw) ((i.f2).f2) j A35 Z Z Z d (Sub.refl _) ?_)
  intro aH aj
  replace aj := (Yr.1 aj).1
  subst aH
  refine ⟨Z, ?_⟩
  refine Qm Z Z (Ql (ds := [U (a.From), U (a.Label), U (a.To)]) (i) A85 Z Z Z ⟨Z, ?_⟩)
  refine JQ Z Z (Exec.buildSlice (Te := 85) (cs := [U (a.From), U (a.Label), U (a.To)]) i Z (Qc (c := [U (a.From), U (a.Label), U (a.To)]) (Qh Z Z) Qu) (fun _ => by kernel_rfl) ?_)
  intro aO bk m
  refine ⟨(Qb (Q4 Z Z (Zm (v := b) Z l ⟨Z, Z⟩)) (Qb (Q4 Z Z (Zp Qaw Z Z Z ⟨Z, Z⟩)) (Qb (Q4 Z Z (Zn (m.f1) A3 Z Z Z ⟨Z, Z⟩)) (Qb (Q4 Z Z (Zm (v := b) Z l ⟨Z, Z⟩)) (Qb (Q4 Z Z (Zp Qaw Z Z Z ⟨Z, Z⟩)) (Qb (Q4 Z Z (Zn (m.f1) A3 Z Z Z ⟨Z, Z⟩)) (Qb (Q4 Z Z (Qd QgD Z j Z (Qg d).1 (Qg d).2.1 ⟨Z, Z⟩)) (Qb (Q4 Z Z (Qt (F := encRaw) ((m.f3).f3) j A35 Z Z Z d (Sub.refl _) (fun _ q => ⟨Z, (Yr.1 q).1⟩))) QV)))))))), ?_⟩
  have aw := (((m.f3).f3).f1).rows_split aa (Qg ai).2.2
  obtain ⟨aX, aB, g⟩ := Zg g
  refine JQ Z Z (QZ (E := encEdge) (ys := [a]) (aw.f3).f1 S35 Z85 Z (by decide) Z Z Z Z ⟨[U (a.From), U (a.Label), U (a.To)], [], Z, ⟨[U (a.From)], [U (a.Label), U (a.To)], Z, Z, ⟨[U (a.Label)], [U (a.To)], Z, Z, Z⟩⟩, Z⟩ Z aB ?_)
  intro be bl ae
  refine ⟨(Qb (Q4 Z Z (Zm (v := b) Z l ⟨Z, Z⟩)) (Qb (Q4 Z Z (Zp Qaw Z Z Z ⟨Z, Z⟩)) (Qb (Q4 Z Z (Zn (ae.f3) A3 Z Z Z ⟨Z, Z⟩)) QV))), ?_⟩
  refine QG (O Z Z (Qd QgD Z j Z (Qg d).1 (Qg d).2.1 ?_))
  obtain ⟨aY, aC, g⟩ := Zg g
  refine O Z Z (QbK ((ae.f2).f2).f2 aa j A35 Z Z Z Z aC ?_)
  intro a2 bm ax
  refine Zb (Qz (V (Zd (O Z Z (Exec.add Z z Z (O Z Z (Zm (v := U (IntKind.i64.wrap ((a3 : Int) + 1))) Z Z (Zb (V ?_)))))))))
  have aQ := Zu g
  subst aE
  exact ⟨aF, a2, af, (ax.f2).drop, l, ag, ah, (Eq.trans Z (QF a0 (SliceRep.le p)))⟩
 intro aT bn aq
 obtain ⟨bc, n, a4, ay, a6, ba, a7, aI⟩ := aq
 refine Zc (Zd (O Z Z (Zq Z aI a7 (Zb (V (Zc (QB (Zx (decide_eq_false (by omega))) (QJ (Qn (Qn (Q9 (V (Zc (Zd (O Z Z (Zm (v := b) Z a6 (O Z Z (Zo (v := b) Z Z (Zb (V (Q0 ?_)))))))))))))))))))))
 have aR := Zu hm
 subst r
 refine ⟨_, QW Z, ?_⟩
 obtain ⟨aG, a5, az, aD⟩ := ay.freezeGrid
 exact ⟨aG, b, (Zt a4 a5), az, Z, aD⟩
end Go.Pw
