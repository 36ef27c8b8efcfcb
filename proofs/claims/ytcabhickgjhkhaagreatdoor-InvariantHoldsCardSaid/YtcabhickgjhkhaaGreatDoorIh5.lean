/-
  The walks (printed by my generator).
-/
import Derived.Test.YtcabhickgjhkhaaGreatDoorL29
import Derived.Test.YtcabhickgjhkhaaGreatDoorL27
import Derived.Test.YtcabhickgjhkhaaGreatDoorIh4
set_option maxRecDepth 100000
set_option maxHeartbeats 4000000
set_option linter.unusedVariables false
namespace Go.Pw
open Go.Proofs
theorem invariant_keeps_sim {w0 w : World} {s : PHeap} {H : List Res} {a : GOp} {ax : (List Int)} {q : Value} {t : Value} {u : Value} {l : Value} {x : Value} {m : Value} {r : Bool} (hm : invariant_keeps_p a ax = some r) (hS : St w0 s (H) w) (bo : SliceRep (encInt .i64) s q a.Pre.Pos) (bp : SliceRep (encInt .i64) s t a.Pre.Neg) (bq : SliceRep encGTest s u a.Pre.Tests) (aw : SliceRep encGChange s l a.Changes) (br : SliceRep encGAssign s x a.Assigns) (au : SliceRep (encInt .i64) s m ax) :
  Calls Tryz.prog 45 #[Value.agg #[Value.string (a.Name), Vi (a.Cost), q, t, u, l, x], m] w fun e w' => ∃ v, e = .returned v ∧ ((fun (fc : Bool) => ∃ (cb : PHeap) , PHeap.le s cb ∧ St w0 cb (H) w' ∧ v = Value.bool (fc)) r) := by
 unfold invariant_keeps_p at hm
 refine calls_of_W Tryz.func45 rfl rfl (Zc (Zd (Za rfl rfl (Exec.box (cs := [Value.string (a.Name), Vi (a.Cost), q, t, u, l, x]) hS rfl rfl rfl ?_))))
 intro i gz b0
 refine Za rfl rfl (Zo (v := Value.bool (false)) rfl rfl (Zb (Ze (Zc (Zd (Za rfl rfl (Zo (v := Value.slice none 0 0) rfl rfl (Zb (Ze (Zc (Zc (Zd (Za rfl rfl (Zp F63_3 rfl rfl rfl (Za rfl rfl (Zn (b0) A60 rfl rfl rfl (Za rfl rfl (Zr S60 rfl rfl aw (Za rfl rfl (Zm (v := Vi (0)) rfl rfl (Zb (Ze ?_))))))))))))))))))))))
 obtain ⟨ad, cz, hm⟩ := Zg hm
 refine W_block (W_forS (fun k' s' f' w' => (fun (ad : (List GChange)) => ∃ (cc : PHeap) (af : Value), PHeap.le s cc ∧ St w0 cc (Res.box i 63 [Value.string (a.Name), Vi (a.Cost), q, t, u, l, x] :: Res.arr encGChange 81 af ad :: H) w' ∧ f' 1 = m ∧ f' 2 = Value.pointer (some ⟨i, 0, none⟩) ∧ f' 5 = af ∧ f' 23 = l ∧ f' 24 = Vi ((a.Changes.length : Int)) ∧ f' 25 = Vi (k' : Int)) s') cz ?_ ?_ ?_)
 ·have cH := b0.nilArr encGChange 81
  exact ⟨s, (Value.slice none 0 0), (Zv _), (cH).f1, rfl, rfl, rfl, rfl, rfl, rfl⟩
 ·intro aU ad eJ fz g0 di c3 al
  obtain ⟨gl, af, aW, b1, aY, bB, bC, aZ, ba, aK⟩ := c3
  refine Zc (Zd (Za rfl rfl (Zq rfl aK ba (Zb (Ze (Zc (W_true (Zx (decide_eq_true (by omega))) (W_skip (Ze (Zc (W_block (Zc (Zd ?_)))))))))))))
  obtain ⟨g, e2, al⟩ := Zg al
  refine Za rfl rfl (Exec.index_rep S60 rfl aZ aK (aw.mono aW) e2 ?_)
  intro fe fO cv
  refine Za rfl rfl (Zw (E := encGChange) b1 A81 rfl rfl rfl cv ?_)
  intro gv e3
  obtain ⟨an, aj, ak, rfl, bT, bU, bV⟩ := encGChange_val.1 e3
  refine Za rfl rfl (Exec.alloc (cs := [Value.slice none 0 0, Value.slice none 0 0, Value.slice none 0 0, Vi (0), Value.bool (false)]) b1 Z81 rfl rfl ?_)
  intro bt g1 cI
  refine Za rfl rfl (Exec.store_box (ds := [an, aj, ak, Vi (g.Atom), Value.bool (g.Add)]) (es := [an, aj, ak, Vi (g.Atom), Value.bool (g.Add)]) cI A81 rfl rfl rfl rfl (Zj (bT).one (Zj (bU).one (Zj (bV).one (Zj rfl (Zj rfl one_nil))))) (Nat.le_of_ble_eq_true rfl) rfl ?_)
  intro g2 b2
  refine Zb (Ze (Zc (Zd (Za rfl rfl (Zm (v := m) rfl aY (Za rfl rfl (Zp F81_1 rfl rfl rfl (Za rfl rfl (Zn (b2) A3 rfl rfl rfl ?_)))))))))
  obtain ⟨eT, e4, al⟩ := Zg al
  obtain ⟨bl, a7⟩ := eT
  replace al := un2_eq al
  refine Za rfl rfl (Tc rfl rfl rfl (Zi rfl (Zi rfl args_nil)) (slices_BinarySearch_int_sim e4 b2 (au.mono aW)).r ?_)
  rintro _ g3 ⟨bf, aC, aQ, rfl⟩
  refine Za rfl rfl (Zm (v := Value.tuple #[Vi (bl), Value.bool (a7)]) rfl rfl (Za rfl rfl (Exec.extract (v := Vi (bl)) rfl rfl rfl (Za rfl rfl (Exec.extract (v := Value.bool (a7)) rfl rfl rfl (Za rfl rfl (Zo (v := Vi (bl)) rfl rfl (Za rfl rfl (Zo (v := Value.bool (a7)) rfl rfl (Zb (Ze (Zc (W_mid (M := fun f' w' => ∃ (cd : PHeap) , PHeap.le bf cd ∧ St w0 cd (Res.box i 63 [Value.string (a.Name), Vi (a.Cost), q, t, u, l, x] :: Res.arr encGChange 81 af ad :: Res.box bt 81 [an, aj, ak, Vi (g.Atom), Value.bool (g.Add)] :: H) w' ∧ f' 1 = m ∧ f' 2 = Value.pointer (some ⟨i, 0, none⟩) ∧ f' 5 = af ∧ f' 7 = Value.pointer (some ⟨bt, 0, none⟩) ∧ f' 23 = l ∧ f' 24 = Vi ((a.Changes.length : Int)) ∧ f' 25 = Vi ((aU : Int)) ∧ f' 40 = Value.bool ((a7 && g.Add))) ?_ ?_)))))))))))))
  ·refine Zd (WL_passes 2 rfl ?_)
   by_cases ao : a7 = true
   ·refine WL_run rfl (Zf rfl (Zx ao)) rfl (Zp F81_2 rfl rfl rfl (WL_run rfl (Zf rfl (Zx ao)) rfl (Zn (aQ) A4 rfl rfl rfl (Za rfl rfl (Zs (v := Value.bool (g.Add)) rfl (Zx ao) rfl (Zb (Ze ?_)))))))
    exact ⟨bf, (Zv _), ((aQ).f2).f2, aY, bB, bC, rfl, aZ, ba, aK, (Zx (and_t ao)).symm⟩
   replace ao := Zk ao
   refine WL_passes 3 (by rw [ao]; rfl) ?_
   refine Zb (Ze ?_)
   exact ⟨bf, (Zv _), ((aQ).f2).f2, aY, bB, bC, rfl, aZ, ba, aK, (Zx (and_f ao)).symm⟩
  intro f0 g4 cB
  obtain ⟨bg, aD, aR, bD, bE, bF, d6, bG, bH, bI, bJ⟩ := cB
  refine (Ze ?_)
  obtain ⟨a1, ap, al⟩ := Zg al
  refine W_mid (M := fun f' w' => (fun (a1 : (List GChange)) => ∃ (ce : PHeap) (aJ : Value), PHeap.le bg ce ∧ St w0 ce (Res.box i 63 [Value.string (a.Name), Vi (a.Cost), q, t, u, l, x] :: Res.arr encGChange 81 aJ a1 :: H) w' ∧ f' 1 = m ∧ f' 2 = Value.pointer (some ⟨i, 0, none⟩) ∧ f' 5 = aJ ∧ f' 23 = l ∧ f' 24 = Vi ((a.Changes.length : Int)) ∧ f' 25 = Vi ((aU : Int))) a1) ?_ ?_
  ·rcases ite_some ap with ⟨ay, ap⟩ | ⟨ay, ap⟩
   ·refine W_cond_t bJ ay (Zd (Za rfl rfl (Zm (v := af) rfl bF (Za rfl rfl (Exec.load_box_agg (ds := [an, aj, ak, Vi (g.Atom), Value.bool (g.Add)]) ((aR).f2) A81 rfl d6 rfl (Za rfl rfl (Exec.buildSlice (Te := 81) (cs := [an, aj, ak, Vi (g.Atom), Value.bool (g.Add)]) aR rfl (parts_cons (c := [an, aj, ak, Vi (g.Atom), Value.bool (g.Add)]) (cells_of rfl rfl) parts_nil) (fun _ => by kernel_rfl) ?_)))))))
    intro ff g5 cJ
    obtain ⟨fN, e5, ap⟩ := Zg ap
    refine Za rfl rfl (Exec.append_box (E := encGChange) (ys := [g]) (cJ).f2 S60 Z81 rfl (by decide) rfl rfl rfl rfl ⟨[an, aj, ak, Vi (g.Atom), Value.bool (g.Add)], [], rfl, ⟨[an, aj, ak], [Vi (g.Atom), Value.bool (g.Add)], rfl, ⟨[an], [aj, ak], rfl, ⟨_, rfl, (bT.mono (Zt aC aD))⟩, ⟨[aj], [ak], rfl, ⟨_, rfl, (bU.mono (Zt aC aD))⟩, ⟨_, rfl, (bV.mono (Zt aC aD))⟩⟩⟩, ⟨[Vi (g.Atom)], [Value.bool (g.Add)], rfl, rfl, rfl⟩⟩, rfl⟩ rfl e5 ?_)
    intro cq g6 cK
    refine Za rfl rfl (Zo (v := cq) rfl rfl (Zb (Ze ?_)))
    have fn := Zu ap
    subst a1
    exact ⟨bg, cq, (Zv _), (((cK).f2).drop).f1, bD, bE, rfl, bG, bH, bI⟩
   refine W_cond_f bJ ay ?_
   replace ay := Zk ay
   refine W_skip (Ze ?_)
   have fo := Zu ap
   subst a1
   exact ⟨bg, af, (Zv _), ((((aR).f2).drop).f1).f1, bD, bE, bF, bG, bH, bI⟩
  intro f4 g7 cC
  obtain ⟨eK, aJ, dy, cL, d7, d8, d9, dA, dB, dC⟩ := cC
  refine (ib_normal (Ze (Zd (Za rfl rfl (Exec.add rfl dC rfl (Za rfl rfl (Zm (v := Vi (IntKind.i64.wrap ((aU : Int) + 1))) rfl rfl (Zb (Ze ?_)))))))))
  have fp := Zu al
  subst eJ
  exact ⟨eK, aJ, (Zt (Zt (Zt aW aC) aD) dy), ((cL).f1).f1, d7, d8, d9, dA, dB, (Eq.trans rfl (wrap_up di (SliceRep.le aw)))⟩
 intro f5 g8 c4
 obtain ⟨cf, af, o, aS, dD, dE, bK, fS, dF, eY⟩ := c4
 refine Zc (Zd (Za rfl rfl (Zq rfl eY dF (Zb (Ze (Zc (W_false (Zx (decide_eq_false (by omega))) (W_exit (at_exit (at_exit (ib_here (Ze (Zc (Zc (Zd (Za rfl rfl (Zm (v := af) rfl bK (Za rfl rfl (Exec.len_arr ((aS).f1) S60 rfl rfl (Za rfl rfl (Zm (v := Vi (0)) rfl rfl (Zb (Ze ?_)))))))))))))))))))))))
 obtain ⟨bu, c0, dq, dk, df⟩ := ctl_some hm
 refine W_mid (M := fun f' w' => ∃ s', (bu = .next s' ∨ bu = .brk s') ∧ (un2 fun (bs : (List GChange)) (cu : (List GChange)) => ∃ (aH : PHeap) (bj : Value) (bk : Value), PHeap.le cf aH ∧ St w0 aH (Res.box i 63 [Value.string (a.Name), Vi (a.Cost), q, t, u, l, x] :: H) w' ∧ f' 1 = m ∧ f' 2 = Value.pointer (some ⟨i, 0, none⟩) ∧ f' 5 = bj ∧ f' 46 = bk ∧ f' 47 = Vi ((ad.length : Int)) ∧ SliceRep encGChange aH bj bs ∧ SliceRep encGChange aH bk cu) s') ?_ ?_
 ·refine W_block (W_forC (fun k' s' f' w' => (un2 fun (aO : (List GChange)) (bn : (List GChange)) => ∃ (aI : PHeap) (ac : Value) (ag : Value), PHeap.le cf aI ∧ St w0 aI (Res.box i 63 [Value.string (a.Name), Vi (a.Cost), q, t, u, l, x] :: H) w' ∧ f' 1 = m ∧ f' 2 = Value.pointer (some ⟨i, 0, none⟩) ∧ f' 5 = ac ∧ f' 46 = ag ∧ f' 47 = Vi ((ad.length : Int)) ∧ f' 48 = Vi (k' : Int) ∧ SliceRep encGChange aI ac aO ∧ SliceRep encGChange aI ag bn) s') c0 ?_ ?_ ?_)
  ·have cM := (aS).f1
   obtain ⟨eL, dz, cN, bW⟩ := cM.freezeArr
   exact ⟨eL, af, af, dz, cN, dD, dE, bK, rfl, rfl, rfl, bW, bW⟩
  ·intro am eU bv f6 g9 dj c5 ae dt
   obtain ⟨aO, bn⟩ := eU
   replace ae := un2_eq ae
   obtain ⟨bh, ac, ag, p, b3, dG, dH, bL, bM, bN, aL, aA, aB⟩ := c5
   refine Zc (Zd (Za rfl rfl (Zq rfl aL bN (Zb (Ze (Zc (W_true (Zx (decide_eq_true (by omega))) (W_skip (Ze (Zc (W_block (Zc (Zd (Za rfl rfl (Zm (v := Vi ((am : Int))) rfl aL ?_)))))))))))))))
   obtain ⟨b, e6, ae⟩ := Zg ae
   refine Za rfl rfl (Exec.index_rep S60 rfl bM aL aB e6 ?_)
   intro fg fP cw
   refine Za rfl rfl (Zw (E := encGChange) b3 A81 rfl rfl rfl cw ?_)
   intro gw e7
   obtain ⟨ab, y, z, rfl, bX, bY, bZ⟩ := encGChange_val.1 e7
   refine Za rfl rfl (Exec.alloc (cs := [Value.slice none 0 0, Value.slice none 0 0, Value.slice none 0 0, Vi (0), Value.bool (false)]) b3 Z81 rfl rfl ?_)
   intro ah gA cO
   refine Za rfl rfl (Zo (v := Vi ((am : Int))) rfl rfl (Za rfl rfl (Exec.store_box (ds := [ab, y, z, Vi (b.Atom), Value.bool (b.Add)]) (es := [ab, y, z, Vi (b.Atom), Value.bool (b.Add)]) cO A81 rfl rfl rfl rfl (Zj (bX).one (Zj (bY).one (Zj (bZ).one (Zj rfl (Zj rfl one_nil))))) (Nat.le_of_ble_eq_true rfl) rfl ?_)))
   intro gB cP
   refine Zb (Ze (Zc (Zc (Zd (Za rfl rfl (Zm (v := ac) rfl bL (Za rfl rfl (Zm (v := Vi ((am : Int))) rfl rfl ?_))))))))
   obtain ⟨bw, e8, ae⟩ := Zg ae
   refine Za rfl rfl (Exec.slice_to S60 rfl rfl rfl aA e8 ?_)
   intro cr ca
   refine Za rfl rfl (Zr S60 rfl rfl ca (Za rfl rfl (Zm (v := Vi (0)) rfl rfl (Zb (Ze ?_)))))
   obtain ⟨bx, c1, fI, dl, dg⟩ := ctl_some ae
   refine W_mid (M := fun f' w' => ∃ s', (bx = .next s' ∨ bx = .brk s') ∧ (fun (_ : Unit) => ∃ (cg : PHeap) , PHeap.le bh cg ∧ St w0 cg (Res.box i 63 [Value.string (a.Name), Vi (a.Cost), q, t, u, l, x] :: Res.box ah 81 [ab, y, z, Vi (b.Atom), Value.bool (b.Add)] :: H) w' ∧ f' 1 = m ∧ f' 2 = Value.pointer (some ⟨i, 0, none⟩) ∧ f' 5 = ac ∧ f' 11 = Value.pointer (some ⟨ah, 0, none⟩) ∧ f' 46 = ag ∧ f' 47 = Vi ((ad.length : Int)) ∧ f' 48 = Vi ((am : Int)) ∧ f' 55 = cr ∧ f' 56 = Vi ((bw.length : Int))) s') ?_ ?_
   ·refine W_block (W_forC (fun k' s' f' w' => (fun (_ : Unit) => ∃ (ch : PHeap) , PHeap.le bh ch ∧ St w0 ch (Res.box i 63 [Value.string (a.Name), Vi (a.Cost), q, t, u, l, x] :: Res.box ah 81 [ab, y, z, Vi (b.Atom), Value.bool (b.Add)] :: H) w' ∧ f' 1 = m ∧ f' 2 = Value.pointer (some ⟨i, 0, none⟩) ∧ f' 5 = ac ∧ f' 11 = Value.pointer (some ⟨ah, 0, none⟩) ∧ f' 46 = ag ∧ f' 47 = Vi ((ad.length : Int)) ∧ f' 48 = Vi ((am : Int)) ∧ f' 55 = cr ∧ f' 56 = Vi ((bw.length : Int)) ∧ f' 57 = Vi (k' : Int)) s') c1 ?_ ?_ ?_)
    ·have cQ := (cP).f1
     exact ⟨bh, (Zv _), cQ, dG, dH, bL, rfl, bM, bN, aL, rfl, rfl, rfl⟩
    ·intro fM go fm f7 gC fH c6 aT fL
     obtain ⟨gm, d0, b4, fT, fU, fV, fW, fX, fY, fZ, dI, dJ, ct⟩ := c6
     refine Zc (Zd (Za rfl rfl (Zq rfl ct dJ (Zb (Ze (Zc (W_true (Zx (decide_eq_true (by omega))) (W_skip (Ze (Zc (W_block (Zc (Zd ?_)))))))))))))
     obtain ⟨aM, e9, aT⟩ := Zg aT
     refine Za rfl rfl (Exec.index_rep S60 rfl dI ct (ca.mono d0) e9 ?_)
     intro fh fQ cx
     refine Za rfl rfl (Zw (E := encGChange) b4 A81 rfl rfl rfl cx ?_)
     intro gx eA
     obtain ⟨cn, co, cp, rfl, eF, eG, eH⟩ := encGChange_val.1 eA
     refine Za rfl rfl (Exec.alloc (cs := [Value.slice none 0 0, Value.slice none 0 0, Value.slice none 0 0, Vi (0), Value.bool (false)]) b4 Z81 rfl rfl ?_)
     intro fi gD cR
     refine Za rfl rfl (Exec.store_box (ds := [cn, co, cp, Vi (aM.Atom), Value.bool (aM.Add)]) (es := [cn, co, cp, Vi (aM.Atom), Value.bool (aM.Add)]) cR A81 rfl rfl rfl rfl (Zj (eF).one (Zj (eG).one (Zj (eH).one (Zj rfl (Zj rfl one_nil))))) (Nat.le_of_ble_eq_true rfl) rfl ?_)
     intro gE fG
     refine Zb (Ze (Zc (Zc ?_)))
     cases aT
    intro gp f8 gF c7 du
    obtain ⟨eM, d1, cS, dK, dL, dM, dN, dO, dP, dQ, dR, bO, eZ⟩ := c7
    refine Zc (Zd (Za rfl rfl (Zq rfl eZ bO (Zb (Ze (Zc (W_false (Zx (decide_eq_false (by omega))) (W_exit (at_exit (at_exit (ib_here (Ze ?_))))))))))))
    refine ⟨_, .inl du, ?_⟩; exact ⟨eM, d1, ((cS).f1).f1, dK, dL, dM, dN, dO, dP, dQ, dR, bO⟩
   rintro f9 gG ⟨gq, b6, cD⟩
   have ae := b6.elim (dl _) (dg _)
   clear b6
   obtain ⟨bi, d, cT, bP, dS, dT, dU, dV, dW, dX, ga, gb⟩ := cD
   refine (Ze (Zc (Zd (Za rfl rfl (Zm (v := m) rfl bP (Za rfl rfl (Zr S24 rfl rfl (au.mono (Zt (Zt o p) d)) (Za rfl rfl (Zm (v := Vi (0)) rfl rfl (Zb (Ze ?_)))))))))))
   obtain ⟨bz, c2, dr, dm, dh⟩ := ctl_some ae
   refine W_mid (M := fun f' w' => ∃ s', (bz = .next s' ∨ bz = .brk s') ∧ (fun (_ : Unit) => ∃ (ci : PHeap) , PHeap.le bi ci ∧ St w0 ci (Res.box i 63 [Value.string (a.Name), Vi (a.Cost), q, t, u, l, x] :: Res.box ah 81 [ab, y, z, Vi (b.Atom), Value.bool (b.Add)] :: H) w' ∧ f' 1 = m ∧ f' 2 = Value.pointer (some ⟨i, 0, none⟩) ∧ f' 5 = ac ∧ f' 11 = Value.pointer (some ⟨ah, 0, none⟩) ∧ f' 46 = ag ∧ f' 47 = Vi ((ad.length : Int)) ∧ f' 48 = Vi ((am : Int)) ∧ f' 87 = m ∧ f' 88 = Vi ((ax.length : Int))) s') ?_ ?_
   ·refine W_block (W_forC (fun k' s' f' w' => (fun (_ : Unit) => ∃ (cj : PHeap) , PHeap.le bi cj ∧ St w0 cj (Res.box i 63 [Value.string (a.Name), Vi (a.Cost), q, t, u, l, x] :: Res.box ah 81 [ab, y, z, Vi (b.Atom), Value.bool (b.Add)] :: H) w' ∧ f' 1 = m ∧ f' 2 = Value.pointer (some ⟨i, 0, none⟩) ∧ f' 5 = ac ∧ f' 11 = Value.pointer (some ⟨ah, 0, none⟩) ∧ f' 46 = ag ∧ f' 47 = Vi ((ad.length : Int)) ∧ f' 48 = Vi ((am : Int)) ∧ f' 87 = m ∧ f' 88 = Vi ((ax.length : Int)) ∧ f' 89 = Vi (k' : Int)) s') c2 ?_ ?_ ?_)
    ·have cU := (cT).f1
     exact ⟨bi, (Zv _), (cU).f1, bP, dS, dT, dU, dV, dW, dX, rfl, rfl, rfl⟩
    ·intro aV gr aP fA gH b9 c8 n dv
     obtain ⟨eN, j, av, aE, a2, bb, a3, bc, bd, be, aF, aG, a6⟩ := c8
     refine Zc (Zd (Za rfl rfl (Zq rfl a6 aG (Zb (Ze (Zc (W_true (Zx (decide_eq_true (by omega))) (W_skip (Ze (Zc (W_block (Zc (Zd ?_)))))))))))))
     obtain ⟨aN, eB, n⟩ := Zg n
     refine Za rfl rfl (Exec.index_rep S24 rfl aF a6 (au.mono (Zt (Zt (Zt o p) d) j)) eB ?_)
     intro fj fR cy
     refine Za rfl rfl (Zw (E := (encInt .i64)) av A3 rfl rfl rfl cy ?_)
     intro gy eC
     obtain rfl := encInt_val.1 eC
     refine Za rfl rfl (Zo (v := Vi (aN)) rfl rfl (Zb (Ze (Zc (Zc (Zd (Za rfl rfl (Zm (v := Vi (aN)) rfl rfl (Za rfl rfl (Zp F81_1 rfl a3 rfl (Za rfl rfl (Zn ((av).f1) A3 rfl rfl rfl (Za rfl rfl (Exec.eql rfl rfl rfl (Zb (Ze ?_))))))))))))))))
     rcases ite_some n with ⟨az, n⟩ | ⟨az, n⟩
     ·refine W_cond_t rfl az (W_exit (at_exit (ib_here (Ze (Zd (Za rfl rfl (Exec.add rfl a6 rfl (Za rfl rfl (Zm (v := Vi (IntKind.i64.wrap ((aV : Int) + 1))) rfl rfl (Zb (Ze ?_)))))))))))
      have fq := Zu n
      subst aP
      refine ⟨_, rfl, ?_⟩; exact ⟨eN, j, ((av).f1).f1, aE, a2, bb, a3, bc, bd, be, aF, aG, (Eq.trans rfl (wrap_up b9 (SliceRep.le (au.mono (Zt (Zt o p) d)))))⟩
     refine W_cond_f rfl az ?_
     replace az := Zk az
     refine W_skip (Ze (Zc (Zd (Za rfl rfl (Exec.load_box_agg (ds := [Value.string (a.Name), Vi (a.Cost), q, t, u, l, x]) (av) A63 rfl a2 rfl (Za rfl rfl (Exec.load_box_agg (ds := [ab, y, z, Vi (b.Atom), Value.bool (b.Add)]) ((av).f1) A81 rfl a3 rfl (Za rfl rfl (Exec.buildSlice (Te := 81) (cs := [ab, y, z, Vi (b.Atom), Value.bool (b.Add)]) av rfl (parts_cons (c := [ab, y, z, Vi (b.Atom), Value.bool (b.Add)]) (cells_of rfl rfl) parts_nil) (fun _ => by kernel_rfl) ?_)))))))))
     intro fk gI cV
     refine Za rfl rfl (Zm (v := Vi (aN)) rfl rfl (Za rfl rfl (Zm (v := m) rfl aE ?_)))
     have cW := St.boxArr (E := encGChange) (xs := [b]) cV ⟨[ab, y, z, Vi (b.Atom), Value.bool (b.Add)], [], rfl, ⟨[ab, y, z], [Vi (b.Atom), Value.bool (b.Add)], rfl, ⟨[ab], [y, z], rfl, ⟨_, rfl, (bX.mono (Zt d j))⟩, ⟨[y], [z], rfl, ⟨_, rfl, (bY.mono (Zt d j))⟩, ⟨_, rfl, (bZ.mono (Zt d j))⟩⟩⟩, ⟨[Vi (b.Atom)], [Value.bool (b.Add)], rfl, rfl, rfl⟩⟩, rfl⟩ (by simp [maxLen])
     obtain ⟨gn, aa, cX, eI⟩ := cW.freezeArr
     obtain ⟨eV, eD, n⟩ := Zg n
     obtain ⟨bm, gS⟩ := eV
     replace n := un2_eq n
     refine Za rfl rfl (Tc rfl rfl rfl (Zi rfl (Zi rfl (Zi rfl (Zi rfl args_nil)))) (invariant_situation_sim eD cX (bo.mono (Zt (Zt (Zt (Zt o p) d) j) aa)) (bp.mono (Zt (Zt (Zt (Zt o p) d) j) aa)) (bq.mono (Zt (Zt (Zt (Zt o p) d) j) aa)) (aw.mono (Zt (Zt (Zt (Zt o p) d) j) aa)) (br.mono (Zt (Zt (Zt (Zt o p) d) j) aa)) eI (au.mono (Zt (Zt (Zt (Zt o p) d) j) aa))).r ?_)
     rintro _ gJ ⟨ck, a4, a5, ar, cY, rfl⟩
     refine Za rfl rfl (Zm (v := Value.tuple #[Value.agg #[Value.map (some a4), Value.map (some a5)], Value.bool (bm)]) rfl rfl (Za rfl rfl (Exec.extract (v := Value.agg #[Value.map (some a4), Value.map (some a5)]) rfl rfl rfl (Za rfl rfl (Exec.extract (v := Value.bool (bm)) rfl rfl rfl (Za rfl rfl (Exec.alloc (cs := [Value.map none, Value.map none]) cY Z121 rfl rfl ?_)))))))
     intro fl gK cZ
     refine Za rfl rfl (Exec.store_box (ds := [Value.map (some a4), Value.map (some a5)]) (es := [Value.map (some a4), Value.map (some a5)]) cZ A121 rfl rfl rfl rfl (Zj rfl (Zj rfl one_nil)) (Nat.le_of_ble_eq_true rfl) rfl ?_)
     intro gL a9
     refine Za rfl rfl (Zo (v := Value.bool (bm)) rfl rfl (Zb (Ze (Zc ?_))))
     obtain ⟨a8, aq, n⟩ := Zg n
     refine W_mid (M := fun f' w' => (fun (a8 : Bool) => ∃ (cl : PHeap) , PHeap.le ck cl ∧ St w0 cl (Res.box i 63 [Value.string (a.Name), Vi (a.Cost), q, t, u, l, x] :: Res.box ah 81 [ab, y, z, Vi (b.Atom), Value.bool (b.Add)] :: H) w' ∧ f' 1 = m ∧ f' 2 = Value.pointer (some ⟨i, 0, none⟩) ∧ f' 5 = ac ∧ f' 11 = Value.pointer (some ⟨ah, 0, none⟩) ∧ f' 46 = ag ∧ f' 47 = Vi ((ad.length : Int)) ∧ f' 48 = Vi ((am : Int)) ∧ f' 87 = m ∧ f' 88 = Vi ((ax.length : Int)) ∧ f' 89 = Vi ((aV : Int)) ∧ f' 113 = Value.bool (a8)) a8) ?_ ?_
     ·refine Zd (WL_passes 2 rfl ?_)
      rcases ite_some aq with ⟨ai, aq⟩ | ⟨ai, aq⟩
      ·refine WL_run rfl (Zf rfl (Zx ai)) rfl (Exec.load_box_agg (ds := [Value.map (some a4), Value.map (some a5)]) (a9) A121 rfl rfl rfl (WL_run rfl (Zf rfl (Zx ai)) rfl (Exec.load_box_agg (ds := [Value.string (a.Name), Vi (a.Cost), q, t, u, l, x]) ((a9).f3) A63 rfl a2 rfl (WL_run rfl (Zf rfl (Zx ai)) rfl (Zm (v := Vi (aN)) rfl rfl ?_)))))
       obtain ⟨fd, eE, aq⟩ := Zg aq
       refine WL_run rfl (Zf rfl (Zx ai)) rfl (Tc rfl rfl rfl (Zi rfl (Zi rfl (Zi rfl args_nil))) (invariant_literals_deletes_o_sim eE ((a9).f2).f2 (bo.mono (Zt (Zt (Zt (Zt (Zt o p) d) j) aa) ar)) (bp.mono (Zt (Zt (Zt (Zt (Zt o p) d) j) aa) ar)) (bq.mono (Zt (Zt (Zt (Zt (Zt o p) d) j) aa) ar)) (aw.mono (Zt (Zt (Zt (Zt (Zt o p) d) j) aa) ar)) (br.mono (Zt (Zt (Zt (Zt (Zt o p) d) j) aa) ar))).r ?_)
       rintro _ gM ⟨eO, d2, da, rfl⟩
       refine WL_run rfl (Zf rfl (Zx ai)) rfl (Exec.not rfl rfl (Za rfl rfl (Zs (v := Value.bool (!fd)) rfl (Zx ai) rfl (Zb (Ze ?_)))))
       have fr := Zu aq
       subst a8
       exact ⟨eO, d2, (((((da).drop).drop).drop).f1).f1, aE, a2, bb, a3, bc, bd, be, aF, aG, a6, rfl⟩
      replace ai := Zk ai
      refine WL_passes 6 (by rw [ai]; rfl) ?_
      refine Zb (Ze ?_)
      have fs := Zu aq
      subst a8
      exact ⟨ck, (Zv _), (((((a9).drop).drop).drop).f1).f1, aE, a2, bb, a3, bc, bd, be, aF, aG, a6, rfl⟩
     intro fB gN cE
     obtain ⟨cm, bA, b5, dY, dZ, ea, eb, ec, ed, ee, ef, eg, eh, bQ⟩ := cE
     refine (Ze ?_)
     rcases ite_some n with ⟨a0, n⟩ | ⟨a0, n⟩
     ·refine W_cond_t bQ a0 (Zc (Zd (Za rfl rfl (Zo (v := Value.bool (false)) rfl rfl (Zb (Ze (W_ret (ib_ret (at_ret (at_ret (ib_ret (at_ret (ib_ret (at_ret (at_ret (ib_ret (at_ret (at_ret ?_))))))))))))))))))
      have ft := Zu n
      subst aP
      have dn := dr _ (dv (by intro _ h; cases h))
      have fu := Zu dn
      subst bv
      have dp := dq _ (dt (by intro _ h; cases h))
      have fv := Zu dp
      subst r
      refine ⟨_, ret1 rfl, ?_⟩
      exact ⟨cm, (Zt (Zt (Zt (Zt (Zt (Zt o p) d) j) aa) ar) bA), ((b5).drop).drop, rfl⟩
     refine W_cond_f bQ a0 ?_
     replace a0 := Zk a0
     refine W_skip (ib_normal (Ze (Zd (Za rfl rfl (Exec.add rfl eh rfl (Za rfl rfl (Zm (v := Vi (IntKind.i64.wrap ((aV : Int) + 1))) rfl rfl (Zb (Ze ?_)))))))))
     have fw := Zu n
     subst aP
     refine ⟨_, rfl, ?_⟩; exact ⟨cm, (Zt (Zt (Zt j aa) ar) bA), ((b5).f1).f1, dY, dZ, ea, eb, ec, ed, ee, ef, eg, (Eq.trans rfl (wrap_up b9 (SliceRep.le (au.mono (Zt (Zt o p) d)))))⟩
    intro gs fC gO c9 dw
    obtain ⟨eP, d3, db, ei, ej, ek, el, em, en, eo, ep, bR, fa⟩ := c9
    refine Zc (Zd (Za rfl rfl (Zq rfl fa bR (Zb (Ze (Zc (W_false (Zx (decide_eq_false (by omega))) (W_exit (at_exit (at_exit (ib_here (Ze ?_))))))))))))
    refine ⟨_, .inl dw, ?_⟩; exact ⟨eP, d3, ((db).f1).f1, ei, ej, ek, el, em, en, eo, ep, bR⟩
   rintro fD gP ⟨gu, b7, cF⟩
   have ae := b7.elim (dm _) (dh _)
   clear b7
   obtain ⟨eQ, aX, dc, er, et, eu, gc, ev, ew, ex, gd, gf⟩ := cF
   refine (ib_normal (Ze (Zd (Za rfl rfl (Exec.add rfl ex rfl (Za rfl rfl (Zm (v := Vi (IntKind.i64.wrap ((am : Int) + 1))) rfl rfl (Zb (Ze ?_)))))))))
   have fx := Zu ae
   subst bv
   refine ⟨_, rfl, ?_⟩; exact ⟨eQ, ac, ag, (Zt (Zt p d) aX), ((dc).f1).drop, er, et, eu, ev, ew, (Eq.trans rfl (wrap_up dj ((aS).f1).arr_le)), (aA.mono (Zt d aX)), (aB.mono (Zt d aX))⟩
  intro eW fE gQ cA dx
  obtain ⟨aO, bn⟩ := eW
  obtain ⟨eR, ac, ag, d4, dd, ey, ez, e0, e1, bS, fb, aA, aB⟩ := cA
  refine Zc (Zd (Za rfl rfl (Zq rfl fb bS (Zb (Ze (Zc (W_false (Zx (decide_eq_false (by omega))) (W_exit (at_exit (at_exit (ib_here (Ze ?_))))))))))))
  refine ⟨_, .inl dx, ?_⟩; exact ⟨eR, ac, ag, d4, dd, ey, ez, e0, e1, bS, aA, aB⟩
 rintro fF gR ⟨eX, b8, cG⟩
 have hm := b8.elim (dk _) (df _)
 clear b8
 obtain ⟨bs, cu⟩ := eX
 replace hm := un2_eq hm
 obtain ⟨eS, bj, bk, d5, de, gg, gh, gi, gj, gk, fJ, fK⟩ := cG
 refine (Ze (Zc (Zd (Za rfl rfl (Zo (v := Value.bool (true)) rfl rfl (Zb (Ze (W_ret ?_))))))))
 have fy := Zu hm
 subst r
 refine ⟨_, ret1 rfl, ?_⟩
 exact ⟨eS, (Zt o d5), (de).drop, rfl⟩
theorem invariant_balanced_sim {w0 w : World} {s : PHeap} {H : List Res} {n : Ground} {ag : (List Int)} {ac : Value} {ad : Value} {o : Value} {ae : Value} {p : Value} {b : Value} {r : Bool} (hm : invariant_balanced_p n ag = some r) (hS : St w0 s (H) w) (aY : SliceRep encAtom s ac n.Atoms) (bZ : SliceRep encGFluent s ad n.Fluents) (a2 : SliceRep (encInt .i64) s o n.Init) (ca : SliceRep encCond s ae n.Goal) (au : SliceRep encGOp s p n.Ops) (aa : SliceRep (encInt .i64) s b ag) :
  Calls Tryz.prog 23 #[Value.agg #[ac, ad, o, ae, p], b] w fun e w' => ∃ v, e = .returned v ∧ ((fun (bY : Bool) => ∃ (aQ : PHeap) , PHeap.le s aQ ∧ St w0 aQ (H) w' ∧ v = Value.bool (bY)) r) := by
 unfold invariant_balanced_p at hm
 refine calls_of_W Tryz.func23 rfl rfl (Zc (Zd (Za rfl rfl (Exec.box (cs := [ac, ad, o, ae, p]) hS rfl rfl rfl ?_))))
 intro ab cI bm
 refine Za rfl rfl (Zo (v := Value.bool (false)) rfl rfl (Zb (Ze (Zc (Zc (Zd (Za rfl rfl (Zm (v := b) rfl rfl (Za rfl rfl (Zr S24 rfl rfl aa (Za rfl rfl (Zm (v := Vi (0)) rfl rfl (Zb (Ze ?_))))))))))))))
 obtain ⟨a3, bd, cx, bx, bt⟩ := ctl_some hm
 refine W_mid (M := fun f' w' => ∃ s', (a3 = .next s' ∨ a3 = .brk s') ∧ (fun (_ : Unit) => ∃ (aR : PHeap) , PHeap.le s aR ∧ St w0 aR (Res.box ab 28 [ac, ad, o, ae, p] :: H) w' ∧ f' 1 = b ∧ f' 2 = Value.pointer (some ⟨ab, 0, none⟩) ∧ f' 9 = b ∧ f' 10 = Vi ((ag.length : Int))) s') ?_ ?_
 ·refine W_block (W_forC (fun k' s' f' w' => (fun (_ : Unit) => ∃ (aS : PHeap) , PHeap.le s aS ∧ St w0 aS (Res.box ab 28 [ac, ad, o, ae, p] :: H) w' ∧ f' 1 = b ∧ f' 2 = Value.pointer (some ⟨ab, 0, none⟩) ∧ f' 9 = b ∧ f' 10 = Vi ((ag.length : Int)) ∧ f' 11 = Vi (k' : Int)) s') bd ?_ ?_ ?_)
  ·exact ⟨s, (Zv _), bm, rfl, rfl, rfl, rfl, rfl⟩
  ·intro t c9 bc cp cJ bv bf l cy
   obtain ⟨ao, ap, q, ak, al, am, an, x⟩ := bf
   refine Zc (Zd (Za rfl rfl (Zq rfl x an (Zb (Ze (Zc (W_true (Zx (decide_eq_true (by omega))) (W_skip (Ze (Zc (W_block (Zc (Zd (Za rfl rfl (Zm (v := Vi ((t : Int))) rfl x ?_)))))))))))))))
   obtain ⟨y, bK, l⟩ := Zg l
   refine Za rfl rfl (Exec.index_rep S24 rfl am x (aa.mono ap) bK ?_)
   intro cb cz aZ
   refine Za rfl rfl (Zw (E := (encInt .i64)) q A3 rfl rfl rfl aZ ?_)
   intro cF bL
   obtain rfl := encInt_val.1 bL
   refine Za rfl rfl (Zo (v := Vi ((t : Int))) rfl rfl (Za rfl rfl (Zo (v := Vi (y)) rfl rfl (Zb (Ze (Zc ?_))))))
   obtain ⟨z, a, l⟩ := Zg l
   refine W_mid (M := fun f' w' => (fun (z : Bool) => ∃ (aT : PHeap) , PHeap.le ao aT ∧ St w0 aT (Res.box ab 28 [ac, ad, o, ae, p] :: H) w' ∧ f' 1 = b ∧ f' 2 = Value.pointer (some ⟨ab, 0, none⟩) ∧ f' 9 = b ∧ f' 10 = Vi ((ag.length : Int)) ∧ f' 11 = Vi ((t : Int)) ∧ f' 37 = Value.bool (z)) z) ?_ ?_
   ·refine Zd (Za rfl rfl (Zm (v := Vi (y)) rfl rfl (Za rfl rfl (Zq rfl rfl rfl (Za rfl rfl (Zm (v := Value.bool (decide (y < 0))) rfl rfl ?_))))))
    rcases ite_some a with ⟨i, a⟩ | ⟨i, a⟩
    ·refine WL_passes 19 (by rw [i]; rfl) ?_
     refine Zb (Ze ?_)
     have cf := Zu a
     subst z
     exact ⟨ao, (Zv _), q, ak, al, am, an, x, rfl⟩
    replace i := Zk i
    refine WL_run rfl (Zf rfl (Zx i)) rfl (Zm (v := Vi (y)) rfl rfl (WL_run rfl (Zf rfl (Zx i)) rfl (Zp F28_0 rfl al rfl (WL_run rfl (Zf rfl (Zx i)) rfl (Zn (q) A22 rfl rfl rfl (WL_run rfl (Zf rfl (Zx i)) rfl (Zr S22 rfl rfl (aY.mono ap) (WL_run rfl (Zf rfl (Zx i)) rfl (Exec.geq rfl rfl rfl ?_)))))))))
    refine WL_passes 2 (by rw [i]; rfl) ?_
    rcases ite_some a with ⟨g, a⟩ | ⟨g, a⟩
    ·refine WL_passes 12 (by rw [g]; rfl) ?_
     refine Zb (Ze ?_)
     have cg := Zu a
     subst z
     exact ⟨ao, (Zv _), q, ak, al, am, an, x, rfl⟩
    replace g := Zk g
    refine WL_run rfl (Zf rfl (Zx g)) rfl (Zm (v := Vi ((t : Int))) rfl rfl (WL_run rfl (Zf rfl (Zx g)) rfl (Exec.gtr rfl rfl rfl (WL_run rfl (Zf rfl (Zx g)) rfl (Zm (v := Value.bool (decide (0 < (t : Int)))) rfl rfl ?_)))))
    rcases ite_some a with ⟨d, a⟩ | ⟨d, a⟩
    ·refine WL_run rfl (Zf rfl (Zx d)) rfl (Zm (v := b) rfl ak (WL_run rfl (Zf rfl (Zx d)) rfl (Zm (v := Vi ((t : Int))) rfl rfl (WL_run rfl (Zf rfl (Zx d)) rfl (Exec.sub rfl rfl rfl ?_)))))
     obtain ⟨aX, bM, a⟩ := Zg a
     refine WL_run rfl (Zf rfl (Zx d)) rfl (Exec.index_rep S24 rfl rfl rfl (aa.mono ap) bM ?_)
     intro cc c0 ba
     refine WL_run rfl (Zf rfl (Zx d)) rfl (Zw (E := (encInt .i64)) q A3 rfl rfl rfl ba ?_)
     intro cG bN
     obtain rfl := encInt_val.1 bN
     refine WL_run rfl (Zf rfl (Zx d)) rfl (Zm (v := Vi (y)) rfl rfl (WL_run rfl (Zf rfl (Zx d)) rfl (Exec.geq rfl rfl rfl (WL_run rfl (Zf rfl (Zx g)) rfl (Zs (v := Value.bool (decide (y ≤ aX))) rfl (Zx d) rfl (Za rfl rfl (Exec.pick_f (v := Value.bool (decide (y ≤ aX))) rfl (Zx g) rfl (Zb (Ze ?_)))))))))
     have ch := Zu a
     subst z
     exact ⟨ao, (Zv _), q, ak, al, am, an, x, rfl⟩
    replace d := Zk d
    refine WL_passes 7 (by rw [d]; rfl) ?_
    refine WL_run rfl (Zf rfl (Zx g)) rfl (Exec.pick_f (v := Value.bool (false)) rfl rfl rfl (Za rfl rfl (Exec.pick_f (v := Value.bool (false)) rfl (Zx g) rfl (Zb (Ze ?_)))))
    have ci := Zu a
    subst z
    exact ⟨ao, (Zv _), q, ak, al, am, an, x, rfl⟩
   intro cq cK bj
   obtain ⟨bS, b6, bn, bA, bB, bC, bD, bE, aD⟩ := bj
   refine (Ze ?_)
   rcases ite_some l with ⟨ah, l⟩ | ⟨ah, l⟩
   ·refine W_cond_t aD ah (Zc ?_)
    cases l
   refine W_cond_f aD ah ?_
   replace ah := Zk ah
   refine W_skip (ib_normal (Ze (Zd (Za rfl rfl (Exec.add rfl bE rfl (Za rfl rfl (Zm (v := Vi (IntKind.i64.wrap ((t : Int) + 1))) rfl rfl (Zb (Ze ?_)))))))))
   have cj := Zu l
   subst bc
   refine ⟨_, rfl, ?_⟩; exact ⟨bS, (Zt ap b6), bn, bA, bB, bC, bD, (Eq.trans rfl (wrap_up bv (SliceRep.le aa)))⟩
  intro cA cr cL bg b2
  obtain ⟨bT, b7, bo, bF, bG, bH, aE, bW⟩ := bg
  refine Zc (Zd (Za rfl rfl (Zq rfl bW aE (Zb (Ze (Zc (W_false (Zx (decide_eq_false (by omega))) (W_exit (at_exit (at_exit (ib_here (Ze ?_))))))))))))
  refine ⟨_, .inl b2, ?_⟩; exact ⟨bT, b7, bo, bF, bG, bH, aE⟩
 rintro ct cM ⟨cB, aA, bk⟩
 have hm := aA.elim (bx _) (bt _)
 clear aA
 obtain ⟨c7, j, a6, aF, aG, c2, c3⟩ := bk
 refine (Ze (Zc (Zc (Zd (Za rfl rfl (Zp F28_2 rfl aG rfl (Za rfl rfl (Zn (a6) A24 rfl rfl rfl (Za rfl rfl (Exec.build rfl (parts_cons (c := [o]) (cells_of rfl (cells_one ((a2.mono j)).one)) parts_nil) (v := Value.agg #[o, Value.slice none 0 0]) (fun _ => by kernel_rfl) (Za rfl rfl (Zm (v := b) rfl aF ?_))))))))))))
 obtain ⟨cU, bO, hm⟩ := Zg hm
 refine Za rfl rfl (Tc rfl rfl rfl (Zi rfl (Zi rfl args_nil)) (invariant_Holds_sim bO a6 (a2.mono j) (SliceRep.nil _ _) (aa.mono j)).r ?_)
 rintro _ cN ⟨ar, u, av, rfl⟩
 refine Za rfl rfl (Exec.not rfl rfl (Zb (Ze ?_)))
 rcases ite_some hm with ⟨ai, hm⟩ | ⟨ai, hm⟩
 ·refine W_cond_t rfl ai (Zc (Zd (Za rfl rfl (Zo (v := Value.bool (false)) rfl rfl (Zb (Ze (W_ret (at_ret ?_))))))))
  have ck := Zu hm
  subst r
  refine ⟨_, ret1 rfl, ?_⟩
  exact ⟨ar, (Zt j u), (av).drop, rfl⟩
 refine W_cond_f rfl ai ?_
 replace ai := Zk ai
 refine W_skip (Ze (Zc (Zc (Zd (Za rfl rfl (Zp F28_4 rfl aG rfl (Za rfl rfl (Zn (av) A26 rfl rfl rfl (Za rfl rfl (Zr S26 rfl rfl (au.mono (Zt j u)) (Za rfl rfl (Zm (v := Vi (0)) rfl rfl (Zb (Ze ?_))))))))))))))
 obtain ⟨a4, be, b1, bz, bu⟩ := ctl_some hm
 refine W_mid (M := fun f' w' => ∃ s', (a4 = .next s' ∨ a4 = .brk s') ∧ (fun (_ : Unit) => ∃ (aU : PHeap) , PHeap.le ar aU ∧ St w0 aU (H) w' ∧ f' 1 = b ∧ f' 46 = p ∧ f' 47 = Vi ((n.Ops.length : Int))) s') ?_ ?_
 ·refine W_block (W_forC (fun k' s' f' w' => (fun (_ : Unit) => ∃ (aV : PHeap) , PHeap.le ar aV ∧ St w0 aV (H) w' ∧ f' 1 = b ∧ f' 46 = p ∧ f' 47 = Vi ((n.Ops.length : Int)) ∧ f' 48 = Vi (k' : Int)) s') be ?_ ?_ ?_)
  ·have bp := (av).drop
   exact ⟨ar, (Zv _), bp, aF, rfl, rfl, rfl⟩
  ·intro b5 cC a5 cu cO bw bh m b3
   obtain ⟨c8, aq, a7, aH, aI, aJ, a1⟩ := bh
   refine Zc (Zd (Za rfl rfl (Zq rfl a1 aJ (Zb (Ze (Zc (W_true (Zx (decide_eq_true (by omega))) (W_skip (Ze (Zc (W_block (Zc (Zd ?_)))))))))))))
   obtain ⟨af, bP, m⟩ := Zg m
   refine Za rfl rfl (Exec.index_rep S26 rfl aI a1 (au.mono (Zt (Zt j u) aq)) bP ?_)
   intro cd c1 bb
   refine Za rfl rfl (Zw (E := encGOp) a7 A63 rfl rfl rfl bb ?_)
   intro cH bQ
   obtain ⟨aw, ax, ay, az, a0, rfl, aL, aM, aN, aO, aP⟩ := encGOp_val.1 bQ
   refine Za rfl rfl (Exec.alloc (cs := [Value.string (⟨#[]⟩), Vi (0), Value.slice none 0 0, Value.slice none 0 0, Value.slice none 0 0, Value.slice none 0 0, Value.slice none 0 0]) a7 Z63 rfl rfl ?_)
   intro ce cP bq
   refine Za rfl rfl (Exec.store_box (ds := [Value.string (af.Name), Vi (af.Cost), aw, ax, ay, az, a0]) (es := [Value.string (af.Name), Vi (af.Cost), aw, ax, ay, az, a0]) bq A63 rfl rfl rfl rfl (Zj rfl (Zj rfl (Zj (aL).one (Zj (aM).one (Zj (aN).one (Zj (aO).one (Zj (aP).one one_nil))))))) (Nat.le_of_ble_eq_true rfl) rfl ?_)
   intro cQ a8
   refine Zb (Ze (Zc (Zd (Za rfl rfl (Exec.load_box_agg (ds := [Value.string (af.Name), Vi (af.Cost), aw, ax, ay, az, a0]) (a8) A63 rfl rfl rfl (Za rfl rfl (Zm (v := b) rfl aH ?_)))))))
   obtain ⟨cV, bR, m⟩ := Zg m
   refine Za rfl rfl (Tc rfl rfl rfl (Zi rfl (Zi rfl args_nil)) (invariant_keeps_sim bR a8 aL aM aN aO aP (aa.mono (Zt (Zt j u) aq))).r ?_)
   rintro _ cR ⟨aW, aC, a9, rfl⟩
   refine Za rfl rfl (Exec.not rfl rfl (Zb (Ze ?_)))
   rcases ite_some m with ⟨aj, m⟩ | ⟨aj, m⟩
   ·refine W_cond_t rfl aj (Zc (Zd (Za rfl rfl (Zo (v := Value.bool (false)) rfl rfl (Zb (Ze (W_ret (ib_ret (at_ret (at_ret (ib_ret (at_ret (at_ret ?_)))))))))))))
    have cl := Zu m
    subst a5
    have b0 := b1 _ (b3 (by intro _ h; cases h))
    have cm := Zu b0
    subst r
    refine ⟨_, ret1 rfl, ?_⟩
    exact ⟨aW, (Zt (Zt (Zt j u) aq) aC), (a9).drop, rfl⟩
   refine W_cond_f rfl aj ?_
   replace aj := Zk aj
   refine W_skip (ib_normal (Ze (Zd (Za rfl rfl (Exec.add rfl a1 rfl (Za rfl rfl (Zm (v := Vi (IntKind.i64.wrap ((b5 : Int) + 1))) rfl rfl (Zb (Ze ?_)))))))))
   have cn := Zu m
   subst a5
   refine ⟨_, rfl, ?_⟩; exact ⟨aW, (Zt aq aC), (a9).drop, aH, aI, aJ, (Eq.trans rfl (wrap_up bw (SliceRep.le (au.mono (Zt j u)))))⟩
  intro cD cv cS bi b4
  obtain ⟨bU, b8, br, bI, bJ, aK, bX⟩ := bi
  refine Zc (Zd (Za rfl rfl (Zq rfl bX aK (Zb (Ze (Zc (W_false (Zx (decide_eq_false (by omega))) (W_exit (at_exit (at_exit (ib_here (Ze ?_))))))))))))
  refine ⟨_, .inl b4, ?_⟩; exact ⟨bU, b8, br, bI, bJ, aK⟩
 rintro cw cT ⟨cE, aB, bl⟩
 have hm := aB.elim (bz _) (bu _)
 clear aB
 obtain ⟨bV, b9, bs, c4, c5, c6⟩ := bl
 refine (Ze (Zc (Zd (Za rfl rfl (Zo (v := Value.bool (true)) rfl rfl (Zb (Ze (W_ret ?_))))))))
 have co := Zu hm
 subst r
 refine ⟨_, ret1 rfl, ?_⟩
 exact ⟨bV, (Zt (Zt j u) b9), bs, rfl⟩
theorem invariant_inside_sim {w0 w : World} {s : PHeap} {H : List Res} {i : (List Int)} {q : (List Int)} {b : Value} {c : Value} {r : Bool} (hm : invariant_inside_p i q = some r) (hS : St w0 s (H) w) (j : SliceRep (encInt .i64) s b i) (p : SliceRep (encInt .i64) s c q) :
  Calls Tryz.prog 28 #[b, c] w fun e w' => ∃ v, e = .returned v ∧ ((fun (aC : Bool) => ∃ (af : PHeap) , PHeap.le s af ∧ St w0 af (H) w' ∧ v = Value.bool (aC)) r) := by
 unfold invariant_inside_p at hm
 refine calls_of_W Tryz.func28 rfl rfl (Zc (Zd (Za rfl rfl (Zo (v := Value.bool (false)) rfl rfl (Zb (Ze (Zc (Zc (Zd (Za rfl rfl (Zm (v := b) rfl rfl (Za rfl rfl (Zr S24 rfl rfl j (Za rfl rfl (Zm (v := c) rfl rfl (Za rfl rfl (Zr S24 rfl rfl p (Za rfl rfl (Exec.gtr rfl rfl rfl (Zb (Ze ?_)))))))))))))))))))))
 rcases ite_some hm with ⟨d, hm⟩ | ⟨d, hm⟩
 ·refine W_cond_t rfl d (Zc (Zd (Za rfl rfl (Zo (v := Value.bool (false)) rfl rfl (Zb (Ze (W_ret (at_ret ?_))))))))
  have aE := Zu hm
  subst r
  refine ⟨_, ret1 rfl, ?_⟩
  exact ⟨s, (Zv _), hS, rfl⟩
 refine W_cond_f rfl d ?_
 replace d := Zk d
 refine W_skip (Ze (Zc (Zc (Zd (Za rfl rfl (Zm (v := b) rfl rfl (Za rfl rfl (Zr S24 rfl rfl j (Za rfl rfl (Zm (v := Vi (0)) rfl rfl (Zb (Ze ?_))))))))))))
 obtain ⟨t, al, ax, av, ar⟩ := ctl_some hm
 refine W_mid (M := fun f' w' => ∃ s', (t = .next s' ∨ t = .brk s') ∧ (fun (_ : Unit) => ∃ (ag : PHeap) , PHeap.le s ag ∧ St w0 ag (H) w' ∧ f' 1 = c ∧ f' 14 = b ∧ f' 15 = Vi ((i.length : Int))) s') ?_ ?_
 ·refine W_block (W_forC (fun k' s' f' w' => (fun (_ : Unit) => ∃ (ah : PHeap) , PHeap.le s ah ∧ St w0 ah (H) w' ∧ f' 1 = c ∧ f' 14 = b ∧ f' 15 = Vi ((i.length : Int)) ∧ f' 16 = Vi (k' : Int)) s') al ?_ ?_ ?_)
  ·exact ⟨s, (Zv _), hS, rfl, rfl, rfl, rfl⟩
  ·intro a0 aR u aJ aV au am a ay
   obtain ⟨aQ, l, x, ab, ac, ad, n⟩ := am
   refine Zc (Zd (Za rfl rfl (Zq rfl n ad (Zb (Ze (Zc (W_true (Zx (decide_eq_true (by omega))) (W_skip (Ze (Zc (W_block (Zc (Zd ?_)))))))))))))
   obtain ⟨aj, a5, a⟩ := Zg a
   refine Za rfl rfl (Exec.index_rep S24 rfl ac n (j.mono l) a5 ?_)
   intro aD aM ak
   refine Za rfl rfl (Zw (E := (encInt .i64)) x A3 rfl rfl rfl ak ?_)
   intro aU a6
   obtain rfl := encInt_val.1 a6
   refine Za rfl rfl (Zo (v := Vi (aj)) rfl rfl (Zb (Ze (Zc (Zd (Za rfl rfl (Zm (v := c) rfl ab (Za rfl rfl (Zm (v := Vi (aj)) rfl rfl ?_)))))))))
   obtain ⟨aA, a7, a⟩ := Zg a
   obtain ⟨o, m⟩ := aA
   replace a := un2_eq a
   refine Za rfl rfl (Tc rfl rfl rfl (Zi rfl (Zi rfl args_nil)) (slices_BinarySearch_int_sim a7 x (p.mono l)).r ?_)
   rintro _ aW ⟨ai, aa, y, rfl⟩
   refine Za rfl rfl (Zm (v := Value.tuple #[Vi (o), Value.bool (m)]) rfl rfl (Za rfl rfl (Exec.extract (v := Vi (o)) rfl rfl rfl (Za rfl rfl (Exec.extract (v := Value.bool (m)) rfl rfl rfl (Za rfl rfl (Zo (v := Vi (o)) rfl rfl (Za rfl rfl (Zo (v := Value.bool (m)) rfl rfl (Zb (Ze (Zc (Zd (Za rfl rfl (Zm (v := Value.bool (m)) rfl rfl (Za rfl rfl (Exec.not rfl rfl (Zb (Ze ?_)))))))))))))))))))
   rcases ite_some a with ⟨g, a⟩ | ⟨g, a⟩
   ·refine W_cond_t rfl g (Zc (Zd (Za rfl rfl (Zo (v := Value.bool (false)) rfl rfl (Zb (Ze (W_ret (ib_ret (at_ret (at_ret (ib_ret (at_ret (at_ret ?_)))))))))))))
    have aF := Zu a
    subst u
    have aw := ax _ (ay (by intro _ h; cases h))
    have aG := Zu aw
    subst r
    refine ⟨_, ret1 rfl, ?_⟩
    exact ⟨ai, (Zt l aa), y, rfl⟩
   refine W_cond_f rfl g ?_
   replace g := Zk g
   refine W_skip (ib_normal (Ze (Zd (Za rfl rfl (Exec.add rfl n rfl (Za rfl rfl (Zm (v := Vi (IntKind.i64.wrap ((a0 : Int) + 1))) rfl rfl (Zb (Ze ?_)))))))))
   have aH := Zu a
   subst u
   refine ⟨_, rfl, ?_⟩; exact ⟨ai, (Zt l aa), y, ab, ac, ad, (Eq.trans rfl (wrap_up au (SliceRep.le j)))⟩
  intro aS aK aX an az
  obtain ⟨a8, a1, ap, a3, a4, ae, aB⟩ := an
  refine Zc (Zd (Za rfl rfl (Zq rfl aB ae (Zb (Ze (Zc (W_false (Zx (decide_eq_false (by omega))) (W_exit (at_exit (at_exit (ib_here (Ze ?_))))))))))))
  refine ⟨_, .inl az, ?_⟩; exact ⟨a8, a1, ap, a3, a4, ae⟩
 rintro aL aY ⟨aT, z, ao⟩
 have hm := z.elim (av _) (ar _)
 clear z
 obtain ⟨a9, a2, aq, aN, aO, aP⟩ := ao
 refine (Ze (Zc (Zd (Za rfl rfl (Zo (v := Value.bool (true)) rfl rfl (Zb (Ze (W_ret ?_))))))))
 have aI := Zu hm
 subst r
 refine ⟨_, ret1 rfl, ?_⟩
 exact ⟨a9, a2, aq, rfl⟩
theorem invariant_Groups_sim {w0 w : World} {s : PHeap} {H : List Res} {ag : Ground} {m : Value} {n : Value} {o : Value} {p : Value} {q : Value} {r : (List (List Int)) × (Option Int)} (hm : invariant_Groups_p ag = some r) (hS : St w0 s (H) w) (a9 : SliceRep encAtom s m ag.Atoms) (aA : SliceRep encGFluent s n ag.Fluents) (aB : SliceRep (encInt .i64) s o ag.Init) (aC : SliceRep encCond s p ag.Goal) (aD : SliceRep encGOp s q ag.Ops) (ht : TabQ Tryz.prog s) :
  Calls Tryz.prog 14 #[Value.agg #[m, n, o, p, q]] w fun e w' => ∃ v, e = .returned v ∧ ((un2 fun (dw : (List (List Int))) (dx : (Option Int)) => ∃ (aQ : PHeap) (bA : Value), PHeap.le s aQ ∧ St w0 aQ (H) w' ∧ v = Value.tuple #[bA, errV 45 (dx)] ∧ SliceRep (encSlice (encInt .i64)) aQ bA dw) r) := by
 unfold invariant_Groups_p at hm
 refine calls_of_W Tryz.func14 rfl rfl (Zc (Zd (Za rfl rfl (Exec.box (cs := [m, n, o, p, q]) hS rfl rfl rfl ?_))))
 intro ad eh aZ
 refine Za rfl rfl (Zo (v := Value.slice none 0 0) rfl rfl (Za rfl rfl (Zo (v := errV 45 (none)) rfl rfl (Zb (Ze (Zc (Zc (Zd (Za rfl rfl (Exec.load_box_agg (ds := [m, n, o, p, q]) (aZ) A28 rfl rfl rfl ?_))))))))))
 obtain ⟨e2, cS, hm⟩ := Zg hm
 refine Za rfl rfl (Tc rfl rfl rfl (Zi rfl args_nil) (ground_Valid_sim cS aZ a9 aA aB aC aD).r ?_)
 rintro _ ei ⟨ee, h, ba, rfl⟩
 refine Za rfl rfl (Exec.not rfl rfl (Zb (Ze ?_)))
 rcases ite_some hm with ⟨am, hm⟩ | ⟨am, hm⟩
 ·refine W_cond_t rfl am (Zc ?_)
  cases hm
 refine W_cond_f rfl am ?_
 replace am := Zk am
 refine W_skip (Ze (Zc (Zd (Za rfl rfl (Zo (v := Value.slice none 0 0) rfl rfl (Zb (Ze (Zc (Zc (Zd (Za rfl rfl (Exec.load_box_agg (ds := [m, n, o, p, q]) (ba) A28 rfl rfl rfl ?_))))))))))))
 obtain ⟨aW, cT, hm⟩ := Zg hm
 refine Za rfl rfl (Tc rfl rfl rfl (Zi rfl args_nil) (invariant_candidates_sim cT ba (a9.mono h) (aA.mono h) (aB.mono h) (aC.mono h) (aD.mono h) (ht.mono h)).r ?_)
 rintro aT ej ⟨bx, _, ai, bS, rfl, aP⟩
 refine Za rfl rfl (Zr S36 rfl rfl aP (Za rfl rfl (Zm (v := Vi (0)) rfl rfl (Zb (Ze ?_)))))
 obtain ⟨b, bF, hm⟩ := Zg hm
 refine W_block (W_forS (fun k' s' f' w' => (fun (b : (List (List Int))) => ∃ (bz : PHeap) (a : Value), PHeap.le bx bz ∧ St w0 bz (Res.box ad 28 [m, n, o, p, q] :: Res.arr (encSlice (encInt .i64)) 24 a b :: H) w' ∧ f' 1 = Value.pointer (some ⟨ad, 0, none⟩) ∧ f' 4 = a ∧ f' 18 = aT ∧ f' 19 = Vi ((aW.length : Int)) ∧ f' 20 = Vi (k' : Int)) s') bF ?_ ?_ ?_)
 ·have bT := bS.nilArr (encSlice (encInt .i64)) 24
  exact ⟨bx, (Value.slice none 0 0), (Zv _), (bT).f1, rfl, rfl, rfl, rfl, rfl⟩
 ·intro aF b df dJ ek cj bI y
  obtain ⟨b0, a, ac, ax, aH, bf, aI, aJ, a7⟩ := bI
  refine Zc (Zd (Za rfl rfl (Zq rfl a7 aJ (Zb (Ze (Zc (W_true (Zx (decide_eq_true (by omega))) (W_skip (Ze (Zc (W_block (Zc (Zd ?_)))))))))))))
  obtain ⟨aV, cU, y⟩ := Zg y
  refine Za rfl rfl (Exec.index_rep S36 rfl aI a7 (aP.mono ac) cU ?_)
  intro d1 dX bE
  refine Za rfl rfl (Zw (E := (encSlice (encInt .i64))) ax A24 rfl rfl rfl bE ?_)
  intro x cV
  have a4 : SliceRep _ _ _ (aV) := encSlice_val.1 cV
  refine Za rfl rfl (Zo (v := x) rfl rfl (Zb (Ze (Zc ?_))))
  obtain ⟨aw, aa, y⟩ := Zg y
  refine W_mid (M := fun f' w' => (fun (aw : Bool) => ∃ (b1 : PHeap) , PHeap.le b0 b1 ∧ St w0 b1 (Res.box ad 28 [m, n, o, p, q] :: Res.arr (encSlice (encInt .i64)) 24 a b :: H) w' ∧ f' 1 = Value.pointer (some ⟨ad, 0, none⟩) ∧ f' 4 = a ∧ f' 6 = x ∧ f' 18 = aT ∧ f' 19 = Vi ((aW.length : Int)) ∧ f' 20 = Vi ((aF : Int)) ∧ f' 31 = Value.bool (aw)) aw) ?_ ?_
  ·refine Zd (Za rfl rfl (Zm (v := x) rfl rfl (Za rfl rfl (Zr S24 rfl rfl a4 (Za rfl rfl (Exec.geq rfl rfl rfl (Za rfl rfl (Zm (v := Value.bool (decide (2 ≤ (aV.length : Int)))) rfl rfl ?_))))))))
   rcases ite_some aa with ⟨t, aa⟩ | ⟨t, aa⟩
   ·refine WL_run rfl (Zf rfl (Zx t)) rfl (Exec.load_box_agg (ds := [m, n, o, p, q]) (ax) A28 rfl aH rfl (WL_run rfl (Zf rfl (Zx t)) rfl (Zm (v := x) rfl rfl ?_)))
    obtain ⟨dy, cW, aa⟩ := Zg aa
    refine WL_run rfl (Zf rfl (Zx t)) rfl (Tc rfl rfl rfl (Zi rfl (Zi rfl args_nil)) (invariant_balanced_sim cW ax (a9.mono (Zt (Zt h ai) ac)) (aA.mono (Zt (Zt h ai) ac)) (aB.mono (Zt (Zt h ai) ac)) (aC.mono (Zt (Zt h ai) ac)) (aD.mono (Zt (Zt h ai) ac)) a4).r ?_)
    rintro _ el ⟨dg, cm, bU, rfl⟩
    refine Za rfl rfl (Zs (v := Value.bool (dy)) rfl (Zx t) rfl (Zb (Ze ?_)))
    have d6 := Zu aa
    subst aw
    exact ⟨dg, cm, ((bU).f1).f1, aH, bf, rfl, aI, aJ, a7, rfl⟩
   replace t := Zk t
   refine WL_passes 4 (by rw [t]; rfl) ?_
   refine Zb (Ze ?_)
   have d7 := Zu aa
   subst aw
   exact ⟨b0, (Zv _), ((ax).f1).f1, aH, bf, rfl, aI, aJ, a7, rfl⟩
  intro dK em bO
  obtain ⟨aR, aG, bb, bg, bh, cy, bi, bj, bk, bl⟩ := bO
  refine (Ze ?_)
  obtain ⟨aq, ab, y⟩ := Zg y
  refine W_mid (M := fun f' w' => (fun (aq : (List (List Int))) => ∃ (b2 : PHeap) (a5 : Value), PHeap.le aR b2 ∧ St w0 b2 (Res.box ad 28 [m, n, o, p, q] :: Res.arr (encSlice (encInt .i64)) 24 a5 aq :: H) w' ∧ f' 1 = Value.pointer (some ⟨ad, 0, none⟩) ∧ f' 4 = a5 ∧ f' 18 = aT ∧ f' 19 = Vi ((aW.length : Int)) ∧ f' 20 = Vi ((aF : Int))) aq) ?_ ?_
  ·rcases ite_some ab with ⟨an, ab⟩ | ⟨an, ab⟩
   ·refine W_cond_t bl an (Zd (Za rfl rfl (Zm (v := a) rfl bh (Za rfl rfl (Zm (v := x) rfl cy (Za rfl rfl (Exec.buildSlice (Te := 24) (cs := [x]) bb rfl (parts_cons (c := [x]) (cells_of rfl (cells_one ((a4.mono aG)).one)) parts_nil) (fun _ => by kernel_rfl) ?_)))))))
    intro d2 en bV
    obtain ⟨dV, cX, ab⟩ := Zg ab
    refine Za rfl rfl (Exec.append_box (E := (encSlice (encInt .i64))) (ys := [aV]) (bV).f2 S36 Z24 rfl (by decide) rfl rfl rfl rfl ⟨[x], [], rfl, ⟨_, rfl, (a4.mono aG)⟩, rfl⟩ rfl cX ?_)
    intro bB eo bW
    refine Za rfl rfl (Zo (v := bB) rfl rfl (Zb (Ze ?_)))
    have d8 := Zu ab
    subst aq
    exact ⟨aR, bB, (Zv _), (bW).f1, bg, rfl, bi, bj, bk⟩
   refine W_cond_f bl an ?_
   replace an := Zk an
   refine W_skip (Ze ?_)
   have d9 := Zu ab
   subst aq
   exact ⟨aR, a, (Zv _), ((bb).f1).f1, bg, bh, bi, bj, bk⟩
  intro dL ep bP
  obtain ⟨dh, a5, cn, bX, cz, c0, c1, c2, c3⟩ := bP
  refine (ib_normal (Ze (Zd (Za rfl rfl (Exec.add rfl c3 rfl (Za rfl rfl (Zm (v := Vi (IntKind.i64.wrap ((aF : Int) + 1))) rfl rfl (Zb (Ze ?_)))))))))
  have dA := Zu y
  subst df
  exact ⟨dh, a5, (Zt (Zt ac aG) cn), ((bX).f1).f1, cz, c0, c1, c2, (Eq.trans rfl (wrap_up cj (SliceRep.le aP)))⟩
 intro dM er bJ
 obtain ⟨b3, a, co, aE, dY, bm, dZ, c4, dq⟩ := bJ
 refine Zc (Zd (Za rfl rfl (Zq rfl dq c4 (Zb (Ze (Zc (W_false (Zx (decide_eq_false (by omega))) (W_exit (at_exit (at_exit (ib_here (Ze (Zc (Zd (Za rfl rfl (Zo (v := Value.slice none 0 0) rfl rfl (Zb (Ze (Zc (Zc (Zd (Za rfl rfl (Zm (v := a) rfl bm (Za rfl rfl (Exec.len_arr ((aE).f1) S36 rfl rfl (Za rfl rfl (Zm (v := Vi (0)) rfl rfl (Zb (Ze ?_)))))))))))))))))))))))))))))
 obtain ⟨au, bG, hm⟩ := Zg hm
 refine W_block (W_forS (fun k' s' f' w' => (fun (au : (List (List Int))) => ∃ (b4 : PHeap) (d : Value), PHeap.le b3 b4 ∧ St w0 b4 (Res.arr (encSlice (encInt .i64)) 24 a b :: Res.arr (encSlice (encInt .i64)) 24 d au :: H) w' ∧ f' 4 = a ∧ f' 7 = d ∧ f' 37 = a ∧ f' 38 = Vi ((b.length : Int)) ∧ f' 39 = Vi (k' : Int)) s') bG ?_ ?_ ?_)
 ·have bY := aE.nilArr (encSlice (encInt .i64)) 24
  exact ⟨b3, (Value.slice none 0 0), (Zv _), (((bY).f1).drop).f1, bm, rfl, rfl, rfl, rfl⟩
 ·intro j au di dN es ck bK z
  obtain ⟨b5, d, cp, ak, bn, c5, bo, bp, a8⟩ := bK
  refine Zc (Zd (Za rfl rfl (Zq rfl a8 bp (Zb (Ze (Zc (W_true (Zx (decide_eq_true (by omega))) (W_skip (Ze (Zc (W_block (Zc (Zd (Za rfl rfl (Zm (v := Vi ((j : Int))) rfl a8 ?_)))))))))))))))
  obtain ⟨dr, a2, z⟩ := Zg z
  obtain ⟨dT, d4, aX⟩ := (ak).arr_at a2
  refine Za rfl rfl (Exec.index_slice S36 rfl (Eq.trans bo aX) a8 (idx_some a2).1 (idx_some a2).2.1 (Za rfl rfl (Exec.load_arr (F := (encSlice (encInt .i64))) (ak) aX A24 rfl rfl rfl a2 (Sub.refl _) ?_)))
  intro av cY
  have bv : SliceRep _ _ _ (dr) := encSlice_val.1 cY
  refine Za rfl rfl (Zo (v := Vi ((j : Int))) rfl rfl (Za rfl rfl (Zo (v := av) rfl rfl (Zb (Ze (Zc (Zd (Za rfl rfl (Zo (v := Value.bool (false)) rfl rfl (Zb (Ze (Zc (Zc (Zd (Za rfl rfl (Zm (v := a) rfl bn (Za rfl rfl (Exec.len_arr (ak) S36 rfl rfl (Za rfl rfl (Zm (v := Vi (0)) rfl rfl (Zb (Ze ?_))))))))))))))))))))))
  obtain ⟨ae, bH, z⟩ := Zg z
  refine W_block (W_forS (fun k' s' f' w' => (fun (ae : Bool) => ∃ (b6 : PHeap) , PHeap.le b5 b6 ∧ St w0 b6 (Res.arr (encSlice (encInt .i64)) 24 a b :: Res.arr (encSlice (encInt .i64)) 24 d au :: H) w' ∧ f' 4 = a ∧ f' 7 = d ∧ f' 8 = Vi ((j : Int)) ∧ f' 9 = av ∧ f' 10 = Value.bool (ae) ∧ f' 37 = a ∧ f' 38 = Vi ((b.length : Int)) ∧ f' 39 = Vi ((j : Int)) ∧ f' 44 = a ∧ f' 45 = Vi ((b.length : Int)) ∧ f' 46 = Vi (k' : Int)) s') bH ?_ ?_ ?_)
  ·have bZ := (ak).f1
   exact ⟨b5, (Zv _), (bZ).f1, bn, c5, rfl, rfl, rfl, bo, bp, a8, rfl, rfl, rfl⟩
  ·intro ah ae dj dO et cl bL ap
   obtain ⟨aS, bd, al, aK, aL, ay, az, c6, aM, aN, aO, a0, a1, aj⟩ := bL
   refine Zc (Zd (Za rfl rfl (Zq rfl aj a1 (Zb (Ze (Zc (W_true (Zx (decide_eq_true (by omega))) (W_skip (Ze (Zc (W_block (Zc (Zd (Za rfl rfl (Zm (v := Vi ((ah : Int))) rfl aj ?_)))))))))))))))
   obtain ⟨dt, a3, ap⟩ := Zg ap
   obtain ⟨dU, d5, aY⟩ := (al).arr_at a3
   refine Za rfl rfl (Exec.index_slice S36 rfl (Eq.trans a0 aY) aj (idx_some a3).1 (idx_some a3).2.1 (Za rfl rfl (Exec.load_arr (F := (encSlice (encInt .i64))) (al) aY A24 rfl rfl rfl a3 (Sub.refl _) ?_)))
   intro bC cZ
   have dd : SliceRep _ _ _ (dt) := encSlice_val.1 cZ
   refine Za rfl rfl (Zo (v := Vi ((ah : Int))) rfl rfl (Za rfl rfl (Zo (v := bC) rfl rfl (Zb (Ze ?_)))))
   obtain ⟨af, i, ap⟩ := Zg ap
   refine W_mid (M := fun f' w' => (fun (af : Bool) => ∃ (b7 : PHeap) , PHeap.le aS b7 ∧ St w0 b7 (Res.arr (encSlice (encInt .i64)) 24 a b :: Res.arr (encSlice (encInt .i64)) 24 d au :: H) w' ∧ f' 4 = a ∧ f' 7 = d ∧ f' 8 = Vi ((j : Int)) ∧ f' 9 = av ∧ f' 10 = Value.bool (af) ∧ f' 37 = a ∧ f' 38 = Vi ((b.length : Int)) ∧ f' 39 = Vi ((j : Int)) ∧ f' 44 = a ∧ f' 45 = Vi ((b.length : Int)) ∧ f' 46 = Vi ((ah : Int))) af) ?_ ?_
   ·refine Zd (Za rfl rfl (Zm (v := Value.bool (ae)) rfl c6 (Za rfl rfl (Zm (v := Value.bool (ae)) rfl rfl ?_))))
    rcases ite_some i with ⟨g, i⟩ | ⟨g, i⟩
    ·refine WL_passes 10 (by rw [g]; rfl) ?_
     refine Zb (Ze ?_)
     have dB := Zu i
     subst af
     exact ⟨aS, (Zv _), ((al).f1).f1, aK, aL, ay, az, rfl, aM, aN, aO, a0, a1, aj⟩
    replace g := Zk g
    refine WL_run rfl (Zf rfl (Zx g)) rfl (Zm (v := Vi ((j : Int))) rfl ay (WL_run rfl (Zf rfl (Zx g)) rfl (Zm (v := Vi ((ah : Int))) rfl rfl (WL_run rfl (Zf rfl (Zx g)) rfl (Exec.neq rfl rfl rfl (WL_run rfl (Zf rfl (Zx g)) rfl (Zm (v := Value.bool (!decide ((j : Int) = (ah : Int)))) rfl rfl ?_)))))))
    rcases ite_some i with ⟨u, i⟩ | ⟨u, i⟩
    ·refine WL_run rfl (Zf rfl (Zx u)) rfl (Zm (v := av) rfl az (WL_run rfl (Zf rfl (Zx u)) rfl (Zm (v := bC) rfl rfl ?_)))
     obtain ⟨dz, da, i⟩ := Zg i
     refine WL_run rfl (Zf rfl (Zx u)) rfl (Tc rfl rfl rfl (Zi rfl (Zi rfl args_nil)) (invariant_inside_sim da al (bv.mono bd) dd).r ?_)
     rintro _ eu ⟨dk, cq, ca, rfl⟩
     refine WL_run rfl (Zf rfl (Zx g)) rfl (Zs (v := Value.bool (dz)) rfl (Zx u) rfl ?_)
     refine WL_passes 2 (by rw [g]; rfl) ?_
     refine Zb (Ze ?_)
     have dC := Zu i
     subst af
     exact ⟨dk, cq, ((ca).f1).f1, aK, aL, ay, az, rfl, aM, aN, aO, a0, a1, aj⟩
    replace u := Zk u
    refine WL_passes 3 (by rw [u]; rfl) ?_
    refine WL_run rfl (Zf rfl (Zx g)) rfl (Exec.pick_f (v := Value.bool (false)) rfl rfl rfl ?_)
    refine WL_passes 2 (by rw [g]; rfl) ?_
    refine Zb (Ze ?_)
    have dD := Zu i
    subst af
    exact ⟨aS, (Zv _), ((al).f1).f1, aK, aL, ay, az, rfl, aM, aN, aO, a0, a1, aj⟩
   intro dP ev bQ
   obtain ⟨dl, cr, cb, c7, c8, c9, cA, cB, cC, cD, cE, cF, cG, cH⟩ := bQ
   refine (ib_normal (Ze (Zd (Za rfl rfl (Exec.add rfl cH rfl (Za rfl rfl (Zm (v := Vi (IntKind.i64.wrap ((ah : Int) + 1))) rfl rfl (Zb (Ze ?_)))))))))
   have dE := Zu ap
   subst dj
   exact ⟨dl, (Zt bd cr), ((cb).f1).f1, c7, c8, c9, cA, cB, cC, cD, cE, cF, cG, (Eq.trans rfl (wrap_up cl (ak).arr_le))⟩
  intro dQ ew bM
  obtain ⟨b8, be, bc, bq, br, ea, cI, cJ, bs, bt, bu, eb, cK, du⟩ := bM
  refine Zc (Zd (Za rfl rfl (Zq rfl du cK (Zb (Ze (Zc (W_false (Zx (decide_eq_false (by omega))) (W_exit (at_exit (at_exit (ib_here (Ze (Zc (Zd (Za rfl rfl (Zm (v := Value.bool (ae)) rfl cJ (Za rfl rfl (Exec.not rfl rfl (Zb (Ze ?_))))))))))))))))))))
  obtain ⟨ar, l, z⟩ := Zg z
  refine W_mid (M := fun f' w' => (fun (ar : (List (List Int))) => ∃ (b9 : PHeap) (a6 : Value), PHeap.le b8 b9 ∧ St w0 b9 (Res.arr (encSlice (encInt .i64)) 24 a b :: Res.arr (encSlice (encInt .i64)) 24 a6 ar :: H) w' ∧ f' 4 = a ∧ f' 7 = a6 ∧ f' 37 = a ∧ f' 38 = Vi ((b.length : Int)) ∧ f' 39 = Vi ((j : Int))) ar) ?_ ?_
  ·rcases ite_some l with ⟨ao, l⟩ | ⟨ao, l⟩
   ·refine W_cond_t rfl ao (Zd (Za rfl rfl (Zm (v := d) rfl br (Za rfl rfl (Zm (v := av) rfl cI ?_)))))
    obtain ⟨d0, db, l⟩ := Zg l
    refine Za rfl rfl (Tc rfl rfl rfl (Zi rfl args_nil) (slices_Clone_int_sim db bc (bv.mono be)).r ?_)
    rintro aU ex ⟨ef, _, ct, cc, rfl⟩
    obtain ⟨dm, cu, cd, bw⟩ := cc.freezeArr
    refine Za rfl rfl (Exec.buildSlice (Te := 24) (cs := [aU]) cd rfl (parts_cons (c := [aU]) (cells_of rfl (cells_one (bw).one)) parts_nil) (fun _ => by kernel_rfl) ?_)
    intro d3 ey ce
    obtain ⟨dW, dc, l⟩ := Zg l
    refine Za rfl rfl (Exec.append_box (E := (encSlice (encInt .i64))) (ys := [d0]) (ce).f2 S36 Z24 rfl (by decide) rfl rfl rfl rfl ⟨[aU], [], rfl, ⟨_, rfl, bw⟩, rfl⟩ rfl dc ?_)
    intro bD ez cf
    refine Za rfl rfl (Zo (v := bD) rfl rfl (Zb (Ze ?_)))
    have dF := Zu l
    subst ar
    exact ⟨dm, bD, (Zt ct cu), (cf).f1, bq, rfl, bs, bt, bu⟩
   refine W_cond_f rfl ao ?_
   replace ao := Zk ao
   refine W_skip (Ze ?_)
   have dG := Zu l
   subst ar
   exact ⟨b8, d, (Zv _), ((bc).f1).f1, bq, br, bs, bt, bu⟩
  intro dR e0 bR
  obtain ⟨dn, a6, cv, cg, cL, cM, cN, cO, cP⟩ := bR
  refine (ib_normal (Ze (Zd (Za rfl rfl (Exec.add rfl cP rfl (Za rfl rfl (Zm (v := Vi (IntKind.i64.wrap ((j : Int) + 1))) rfl rfl (Zb (Ze ?_)))))))))
  have dH := Zu z
  subst di
  exact ⟨dn, a6, (Zt (Zt cp be) cv), ((cg).f1).f1, cL, cM, cN, cO, (Eq.trans rfl (wrap_up ck ((aE).f1).arr_le))⟩
 intro dS e1 bN
 obtain ⟨eg, d, cw, ch, ec, cQ, ed, cR, dv⟩ := bN
 refine Zc (Zd (Za rfl rfl (Zq rfl dv cR (Zb (Ze (Zc (W_false (Zx (decide_eq_false (by omega))) (W_exit (at_exit (at_exit (ib_here (Ze (Zc (Zd (Za rfl rfl (Zm (v := d) rfl cQ (Za rfl rfl (Zo (v := d) rfl rfl (Za rfl rfl (Zo (v := errV 45 (none)) rfl rfl (Zb (Ze (W_ret ?_)))))))))))))))))))))))
 have dI := Zu hm
 subst r
 refine ⟨_, ret2 rfl, ?_⟩
 obtain ⟨dp, cx, ci, de⟩ := (ch).f1.freezeArr
 exact ⟨dp, d, (Zt (Zt (Zt (Zt h ai) co) cw) cx), (ci).drop, (tup2 rfl rfl), de⟩
theorem base_Ints_sim {w0 w : World} {s : PHeap} {H : List Res} {j : (List Int)} {q : (List Int)} {b : Value} {c : Value} {r : Bool} (hm : base_Ints_p j q = some r) (hS : St w0 s (H) w) (l : SliceRep (encInt .i64) s b j) (p : SliceRep (encInt .i64) s c q) :
  Calls Tryz.prog 22 #[b, c] w fun e w' => ∃ v, e = .returned v ∧ ((fun (a8 : Bool) => ∃ (ac : PHeap) , PHeap.le s ac ∧ St w0 ac (H) w' ∧ v = Value.bool (a8)) r) := by
 unfold base_Ints_p at hm
 refine calls_of_W Tryz.func22 rfl rfl (Zc (Zd (Za rfl rfl (Zo (v := Value.bool (false)) rfl rfl (Zb (Ze (Zc (Zc (Zd (Za rfl rfl (Zm (v := b) rfl rfl (Za rfl rfl (Zr S24 rfl rfl l (Za rfl rfl (Zm (v := c) rfl rfl (Za rfl rfl (Zr S24 rfl rfl p (Za rfl rfl (Exec.neq rfl rfl rfl (Zb (Ze ?_)))))))))))))))))))))
 rcases ite_some hm with ⟨d, hm⟩ | ⟨d, hm⟩
 ·refine W_cond_t rfl d (Zc (Zd (Za rfl rfl (Zo (v := Value.bool (false)) rfl rfl (Zb (Ze (W_ret (at_ret ?_))))))))
  have aB := Zu hm
  subst r
  refine ⟨_, ret1 rfl, ?_⟩
  exact ⟨s, (Zv _), hS, rfl⟩
 refine W_cond_f rfl d ?_
 replace d := Zk d
 refine W_skip (Ze (Zc (Zc (Zd (Za rfl rfl (Zm (v := b) rfl rfl (Za rfl rfl (Zr S24 rfl rfl l (Za rfl rfl (Zm (v := Vi (0)) rfl rfl (Zb (Ze ?_))))))))))))
 obtain ⟨t, ai, au, aq, ao⟩ := ctl_some hm
 refine W_mid (M := fun f' w' => ∃ s', (t = .next s' ∨ t = .brk s') ∧ (fun (_ : Unit) => ∃ (ad : PHeap) , PHeap.le s ad ∧ St w0 ad (H) w' ∧ f' 0 = b ∧ f' 1 = c ∧ f' 12 = Vi ((j.length : Int))) s') ?_ ?_
 ·refine W_block (W_forC (fun k' s' f' w' => (fun (_ : Unit) => ∃ (ae : PHeap) , PHeap.le s ae ∧ St w0 ae (H) w' ∧ f' 0 = b ∧ f' 1 = c ∧ f' 12 = Vi ((j.length : Int)) ∧ f' 13 = Vi (k' : Int)) s') ai ?_ ?_ ?_)
  ·exact ⟨s, (Zv _), hS, rfl, rfl, rfl, rfl⟩
  ·intro i aQ u aI aV ap aj a av
   obtain ⟨af, n, m, y, z, aa, o⟩ := aj
   refine Zc (Zd (Za rfl rfl (Zq rfl o aa (Zb (Ze (Zc (W_true (Zx (decide_eq_true (by omega))) (W_skip (Ze (Zc (W_block (Zc (Zd (Za rfl rfl (Zm (v := Vi ((i : Int))) rfl o (Za rfl rfl (Zo (v := Vi ((i : Int))) rfl rfl (Zb (Ze (Zc (W_dl (n0 := 9) (qs 0 9 .done) hmix (by kernel_rfl) (by kernel_rfl) (DL_q rfl rfl (Zm (v := b) rfl y ⟨rfl, ?_⟩)))))))))))))))))))))))
   refine DL_q rfl rfl (Zm (v := Vi ((i : Int))) rfl rfl ⟨rfl, ?_⟩)
   obtain ⟨aY, a1, a⟩ := Zg a
   refine DL_q rfl rfl (Exec.index_repE S24 rfl rfl rfl (l.mono n) a1 ?_)
   intro a9 aL ag aC
   refine ⟨rfl, ?_⟩
   refine DL_q rfl rfl (Zw (E := (encInt .i64)) m.drew A3 rfl rfl rfl ag ?_)
   intro aT a2
   obtain rfl := encInt_val.1 a2
   refine ⟨rfl, ?_⟩
   refine DL_q rfl rfl (Zm (v := c) rfl z ⟨rfl, ?_⟩)
   refine DL_q rfl rfl (Zm (v := Vi ((i : Int))) rfl rfl ⟨rfl, ?_⟩)
   obtain ⟨aZ, a3, a⟩ := Zg a
   refine DL_q rfl rfl (Exec.index_repE S24 rfl rfl rfl (p.mono n) a3 ?_)
   intro aA aM ah aD
   refine ⟨rfl, ?_⟩
   refine DL_q rfl rfl (Zw (E := (encInt .i64)) m.drew A3 rfl rfl rfl ah ?_)
   intro aU a4
   obtain rfl := encInt_val.1 a4
   refine ⟨rfl, ?_⟩
   refine DL_q rfl rfl (Exec.neq rfl rfl rfl ⟨rfl, ?_⟩)
   refine DL_done (Zb (Ze ?_))
   rcases ite_some a with ⟨g, a⟩ | ⟨g, a⟩
   ·refine W_cond_t rfl g (Zc (Zd (Za rfl rfl (Zo (v := Value.bool (false)) rfl rfl (Zb (Ze (W_ret (ib_ret (at_ret (at_ret (ib_ret (at_ret (at_ret ?_)))))))))))))
    have aE := Zu a
    subst u
    have ar := au _ (av (by intro _ h; cases h))
    have aF := Zu ar
    subst r
    refine ⟨_, ret1 rfl, ?_⟩
    exact ⟨af, n, m.drew, rfl⟩
   refine W_cond_f rfl g ?_
   replace g := Zk g
   refine W_skip (ib_normal (Ze (Zd (Za rfl rfl (Exec.add rfl o rfl (Za rfl rfl (Zm (v := Vi (IntKind.i64.wrap ((i : Int) + 1))) rfl rfl (Zb (Ze ?_)))))))))
   have aG := Zu a
   subst u
   refine ⟨_, rfl, ?_⟩; exact ⟨af, n, m.drew, y, z, aa, (Eq.trans rfl (wrap_up ap (SliceRep.le l)))⟩
  intro aR aJ aW ak aw
  obtain ⟨a5, ax, am, az, a0, ab, a7⟩ := ak
  refine Zc (Zd (Za rfl rfl (Zq rfl a7 ab (Zb (Ze (Zc (W_false (Zx (decide_eq_false (by omega))) (W_exit (at_exit (at_exit (ib_here (Ze ?_))))))))))))
  refine ⟨_, .inl aw, ?_⟩; exact ⟨a5, ax, am, az, a0, ab⟩
 rintro aK aX ⟨aS, x, al⟩
 have hm := x.elim (aq _) (ao _)
 clear x
 obtain ⟨a6, ay, an, aN, aO, aP⟩ := al
 refine (Ze (Zc (Zd (Za rfl rfl (Zo (v := Value.bool (true)) rfl rfl (Zb (Ze (W_ret ?_))))))))
 have aH := Zu hm
 subst r
 refine ⟨_, ret1 rfl, ?_⟩
 exact ⟨a6, ay, an, rfl⟩
theorem invariant_Balanced_sim {w0 w : World} {s : PHeap} {H : List Res} {d : Ground} {x : (List Int)} {g : Value} {h : Value} {i : Value} {j : Value} {k : Value} {n : Value} {r : Bool} (hm : invariant_Balanced_p d x = some r) (hS : St w0 s (H) w) (o : SliceRep encAtom s g d.Atoms) (p : SliceRep encGFluent s h d.Fluents) (q : SliceRep (encInt .i64) s i d.Init) (t : SliceRep encCond s j d.Goal) (u : SliceRep encGOp s k d.Ops) (ab : SliceRep (encInt .i64) s n x) :
  Calls Tryz.prog 11 #[Value.agg #[g, h, i, j, k], n] w fun e w' => ∃ v, e = .returned v ∧ ((fun (an : Bool) => ∃ (z : PHeap) , PHeap.le s z ∧ St w0 z (H) w' ∧ v = Value.bool (an)) r) := by
 unfold invariant_Balanced_p at hm
 refine calls_of_W Tryz.func11 rfl rfl (Zc (Zd (Za rfl rfl (Exec.box (cs := [g, h, i, j, k]) hS rfl rfl rfl ?_))))
 intro ap aw y
 refine Za rfl rfl (Zo (v := Value.bool (false)) rfl rfl (Zb (Ze (Zc ?_))))
 obtain ⟨l, a, hm⟩ := Zg hm
 refine W_mid (M := fun f' w' => (fun (l : Bool) => ∃ (aa : PHeap) , PHeap.le s aa ∧ St w0 aa (H) w' ∧ f' 4 = Value.bool (l)) l) ?_ ?_
 ·refine Zd (Za rfl rfl (Exec.load_box_agg (ds := [g, h, i, j, k]) (y) A28 rfl rfl rfl ?_))
  obtain ⟨ao, ai, a⟩ := Zg a
  refine Za rfl rfl (Tc rfl rfl rfl (Zi rfl args_nil) (ground_Valid_sim ai y o p q t u).r ?_)
  rintro _ ax ⟨ak, c, m, rfl⟩
  refine Za rfl rfl (Zm (v := Value.bool (ao)) rfl rfl ?_)
  rcases ite_some a with ⟨b, a⟩ | ⟨b, a⟩
  ·refine WL_run rfl (Zf rfl (Zx b)) rfl (Exec.load_box_agg (ds := [g, h, i, j, k]) (m) A28 rfl rfl rfl (WL_run rfl (Zf rfl (Zx b)) rfl (Zm (v := n) rfl rfl ?_)))
   obtain ⟨a0, aj, a⟩ := Zg a
   refine WL_run rfl (Zf rfl (Zx b)) rfl (Tc rfl rfl rfl (Zi rfl (Zi rfl args_nil)) (invariant_balanced_sim aj m (o.mono c) (p.mono c) (q.mono c) (t.mono c) (u.mono c) (ab.mono c)).r ?_)
   rintro _ ay ⟨al, af, ad, rfl⟩
   refine WL_passes 2 (by rw [b]; rfl) ?_
   refine Zb (Ze ?_)
   have aq := Zu a
   subst l
   exact ⟨al, (Zt c af), (ad).drop, rfl⟩
  replace b := Zk b
  refine WL_passes 5 (by rw [b]; rfl) ?_
  refine Zb (Ze ?_)
  have ar := Zu a
  subst l
  exact ⟨ak, c, (m).drop, rfl⟩
 intro av az ac
 obtain ⟨am, ag, ae, ah⟩ := ac
 refine (Ze (W_ret ?_))
 have au := Zu hm
 subst r
 refine ⟨_, ret1 rfl, ?_⟩
 exact ⟨am, ag, ae, ah⟩
theorem law20_awake_sim {w0 w : World} {s : PHeap} {H : List Res}   {r : Bool} (hm : law20_awake_p  = some r) (hS : St w0 s (H) w)  (ht : TabQ Tryz.prog s) :
  Calls Tryz.prog 9 #[] w fun e w' => ∃ v, e = .returned v ∧ ((fun (y18 : Bool) => ∃ (aa : PHeap) , PHeap.le s aa ∧ St w0 aa (H) w' ∧ v = Value.bool (y18)) r) := by
 unfold law20_awake_p at hm
 refine calls_of_W Tryz.func9 rfl rfl (Zc (Zd (Za rfl rfl (Zo (v := Value.bool (false)) rfl rfl (Zb (Ze (Zc (Zd ?_))))))))
 obtain ⟨bB, az, hm⟩ := Zg hm
 refine Za rfl rfl (Tc rfl rfl rfl args_nil (law20_example_sim az hS ).r ?_)
 rintro _ b1 ⟨bj, bo, bp, bq, br, bs, y, af, rfl, a9, aA, aB, aC, aD⟩
 obtain ⟨aS, a0, hm⟩ := Zg hm
 obtain ⟨bC, m⟩ := aS
 replace hm := un2_eq hm
 refine Za rfl rfl (Tc rfl rfl rfl (Zi rfl args_nil) (invariant_Groups_sim a0 af a9 aA aB aC aD (ht.mono y)).r ?_)
 rintro _ b2 ⟨u, k, au, n, rfl, t⟩
 refine Za rfl rfl (Zm (v := Value.tuple #[k, errV 45 (m)]) rfl rfl (Za rfl rfl (Exec.extract (v := k) rfl rfl rfl (Za rfl rfl (Exec.extract (v := errV 45 (m)) rfl rfl rfl (Za rfl rfl (Zo (v := k) rfl rfl (Za rfl rfl (Zo (v := errV 45 (m)) rfl rfl (Zb (Ze (Zc ?_))))))))))))
 obtain ⟨i, a, hm⟩ := Zg hm
 refine W_mid (M := fun f' w' => (fun (i : Bool) => ∃ (ab : PHeap) , PHeap.le u ab ∧ St w0 ab (H) w' ∧ f' 0 = Value.bool (i)) i) ?_ ?_
 ·refine Zd (Za rfl rfl (Zm (v := errV 45 (m)) rfl rfl (Za rfl rfl (Exec.err_eql_nil (T := 45) Tryz.underlying38 rfl rfl rfl (Za rfl rfl (Zm (v := Value.bool (m.isNone)) rfl rfl ?_))))))
  rcases ite_some a with ⟨h, a⟩ | ⟨h, a⟩
  ·refine WL_run rfl (Zf rfl (Zx h)) rfl (Zm (v := k) rfl rfl (WL_run rfl (Zf rfl (Zx h)) rfl (Zr S36 rfl rfl t (WL_run rfl (Zf rfl (Zx h)) rfl (Exec.eql rfl rfl rfl ?_)))))
   refine WL_passes 2 (by rw [h]; rfl) ?_
   rcases ite_some a with ⟨b, a⟩ | ⟨b, a⟩
   ·refine WL_run rfl (Zf rfl (Zx b)) rfl (Zm (v := k) rfl rfl ?_)
    obtain ⟨aT, a1, a⟩ := Zg a
    refine WL_run rfl (Zf rfl (Zx b)) rfl (Exec.index_rep S36 rfl rfl rfl t a1 ?_)
    intro aV bh ac
    refine WL_run rfl (Zf rfl (Zx b)) rfl (Zw (E := (encSlice (encInt .i64))) n A24 rfl rfl rfl ac ?_)
    intro bt a2
    have aE : SliceRep _ _ _ (aT) := encSlice_val.1 a2
    refine WL_run rfl (Zf rfl (Zx b)) rfl (Exec.buildSlice (Te := 3) (cs := [Vi (0), Vi (1)]) n rfl (parts_cons (c := [Vi (0)]) (cells_of rfl rfl) (parts_cons (c := [Vi (1)]) (cells_of rfl rfl) parts_nil)) (fun _ => by kernel_rfl) ?_)
    intro aW b3 ag
    have ah := St.boxArr (E := (encInt .i64)) (xs := [0, 1]) ag ⟨[Vi (0)], [Vi (1)], rfl, rfl, ⟨[Vi (1)], [], rfl, rfl, rfl⟩⟩ (by simp [maxLen])
    obtain ⟨bk, l, ai, aF⟩ := ah.freezeArr
    obtain ⟨bD, a3, a⟩ := Zg a
    refine WL_run rfl (Zf rfl (Zx b)) rfl (Tc rfl rfl rfl (Zi rfl (Zi rfl args_nil)) (base_Ints_sim a3 ai (aE.mono l) aF).r ?_)
    rintro _ b4 ⟨aO, o, p, rfl⟩
    refine WL_passes 2 (by rw [b]; rfl) ?_
    rcases ite_some a with ⟨d, a⟩ | ⟨d, a⟩
    ·refine WL_run rfl (Zf rfl (Zx d)) rfl (Zm (v := k) rfl rfl ?_)
     obtain ⟨aU, a4, a⟩ := Zg a
     refine WL_run rfl (Zf rfl (Zx d)) rfl (Exec.index_rep S36 rfl rfl rfl (t.mono (Zt l o)) a4 ?_)
     intro aX bi ad
     refine WL_run rfl (Zf rfl (Zx d)) rfl (Zw (E := (encSlice (encInt .i64))) p A24 rfl rfl rfl ad ?_)
     intro bu a5
     have aG : SliceRep _ _ _ (aU) := encSlice_val.1 a5
     refine WL_run rfl (Zf rfl (Zx d)) rfl (Exec.buildSlice (Te := 3) (cs := [Vi (2), Vi (3)]) p rfl (parts_cons (c := [Vi (2)]) (cells_of rfl rfl) (parts_cons (c := [Vi (3)]) (cells_of rfl rfl) parts_nil)) (fun _ => by kernel_rfl) ?_)
     intro aY b5 aj
     have ak := St.boxArr (E := (encInt .i64)) (xs := [2, 3]) aj ⟨[Vi (2)], [Vi (3)], rfl, rfl, ⟨[Vi (3)], [], rfl, rfl, rfl⟩⟩ (by simp [maxLen])
     obtain ⟨bl, q, al, aH⟩ := ak.freezeArr
     obtain ⟨bE, a6, a⟩ := Zg a
     refine WL_run rfl (Zf rfl (Zx d)) rfl (Tc rfl rfl rfl (Zi rfl (Zi rfl args_nil)) (base_Ints_sim a6 al (aG.mono q) aH).r ?_)
     rintro _ b6 ⟨aP, z, x, rfl⟩
     refine WL_passes 2 (by rw [d]; rfl) ?_
     rcases ite_some a with ⟨g, a⟩ | ⟨g, a⟩
     ·obtain ⟨bF, a7, a⟩ := Zg a
      refine WL_run rfl (Zf rfl (Zx g)) rfl (Tc rfl rfl rfl args_nil (law20_example_sim a7 x ).r ?_)
      rintro _ b7 ⟨bm, bv, bw, bx, bz, b0, av, am, rfl, aI, aJ, aK, aL, aM⟩
      refine WL_run rfl (Zf rfl (Zx g)) rfl (Exec.buildSlice (Te := 3) (cs := [Vi (0), Vi (2)]) am rfl (parts_cons (c := [Vi (0)]) (cells_of rfl rfl) (parts_cons (c := [Vi (2)]) (cells_of rfl rfl) parts_nil)) (fun _ => by kernel_rfl) ?_)
      intro aZ b8 an
      have ao := St.boxArr (E := (encInt .i64)) (xs := [0, 2]) an ⟨[Vi (0)], [Vi (2)], rfl, rfl, ⟨[Vi (2)], [], rfl, rfl, rfl⟩⟩ (by simp [maxLen])
      obtain ⟨bn, j, ap, aN⟩ := ao.freezeArr
      obtain ⟨bG, a8, a⟩ := Zg a
      refine WL_run rfl (Zf rfl (Zx g)) rfl (Tc rfl rfl rfl (Zi rfl (Zi rfl args_nil)) (invariant_Balanced_sim a8 ap (aI.mono j) (aJ.mono j) (aK.mono j) (aL.mono j) (aM.mono j) aN).r ?_)
      rintro _ b9 ⟨aQ, aw, aq, rfl⟩
      refine WL_run rfl (Zf rfl (Zx g)) rfl (Exec.not rfl rfl ?_)
      refine WL_passes 2 (by rw [g]; rfl) ?_
      refine Zb (Ze ?_)
      have ba := Zu a
      subst i
      exact ⟨aQ, (Zt (Zt (Zt (Zt (Zt (Zt l o) q) z) av) j) aw), aq, rfl⟩
     replace g := Zk g
     refine WL_passes 6 (by rw [g]; rfl) ?_
     refine Zb (Ze ?_)
     have bb := Zu a
     subst i
     exact ⟨aP, (Zt (Zt (Zt l o) q) z), x, rfl⟩
    replace d := Zk d
    refine WL_passes 13 (by rw [d]; rfl) ?_
    refine Zb (Ze ?_)
    have bc := Zu a
    subst i
    exact ⟨aO, (Zt l o), p, rfl⟩
   replace b := Zk b
   refine WL_passes 20 (by rw [b]; rfl) ?_
   refine Zb (Ze ?_)
   have bd := Zu a
   subst i
   exact ⟨u, (Zv _), n, rfl⟩
  replace h := Zk h
  refine WL_passes 25 (by rw [h]; rfl) ?_
  refine Zb (Ze ?_)
  have be := Zu a
  subst i
  exact ⟨u, (Zv _), n, rfl⟩
 intro bg bA ae
 obtain ⟨aR, ax, ar, ay⟩ := ae
 refine (Ze (W_ret ?_))
 have bf := Zu hm
 subst r
 refine ⟨_, ret1 rfl, ?_⟩
 exact ⟨aR, (Zt (Zt y au) ax), ar, ay⟩
theorem A33 : tyAgg Tryz.prog 33 = some (true, 2) := by kernel_rfl
theorem law20_InvariantHolds_sim {w0 w : World} {s : PHeap} {H : List Res} {s_1 : GState} {group6 : (List Int)} {v2 : Value} {v4 : Value} {v7 : Value} {r : Bool} (hm : law20_InvariantHolds_p s_1 group6 = some r) (hS : St w0 s (H) w) (a3 : SliceRep (encInt .i64) s v2 s_1.True) (a5 : SliceRep (encInt .i64) s v4 s_1.Values) (a8 : SliceRep (encInt .i64) s v7 group6) (ht : TabQ Tryz.prog s) :
  Calls Tryz.prog 4 #[Value.agg #[v2, v4], v7] w fun e w' => ∃ v, e = .returned v ∧ ((fun (y10 : Bool) => ∃ (aY : PHeap) , PHeap.le s aY ∧ St w0 aY (H) w' ∧ v = Value.bool (y10)) r) := by
 unfold law20_InvariantHolds_p at hm
 refine calls_of_W Tryz.func4 rfl rfl (Zc (Zd (Za rfl rfl (Exec.box (cs := [v2, v4]) hS rfl rfl rfl ?_))))
 intro c cX bt
 refine Za rfl rfl (Zo (v := Value.bool (false)) rfl rfl (Zb (Ze (Zc (Zc ?_)))))
 obtain ⟨t, g, hm⟩ := Zg hm
 refine W_mid (M := fun f' w' => (fun (t : Bool) => ∃ (aZ : PHeap) , PHeap.le s aZ ∧ St w0 aZ (Res.box c 33 [v2, v4] :: H) w' ∧ f' 1 = v7 ∧ f' 2 = Value.pointer (some ⟨c, 0, none⟩) ∧ f' 24 = Value.bool (t)) t) ?_ ?_
 ·refine Zd ?_
  obtain ⟨c0, cf, g⟩ := Zg g
  refine Za rfl rfl (Tc rfl rfl rfl args_nil (law20_awake_sim cf bt  ht).r ?_)
  rintro _ cY ⟨aq, aa, ae, rfl⟩
  refine Za rfl rfl (Exec.not rfl rfl (Za rfl rfl (Zm (v := Value.bool (!c0)) rfl rfl ?_)))
  rcases ite_some g with ⟨i, g⟩ | ⟨i, g⟩
  ·refine WL_passes 10 (by rw [i]; rfl) ?_
   refine Zb (Ze ?_)
   have c5 := Zu g
   subst t
   exact ⟨aq, aa, ae, rfl, rfl, rfl⟩
  replace i := Zk i
  refine WL_run rfl (Zf rfl (Zx i)) rfl (Zp F33_0 rfl rfl rfl (WL_run rfl (Zf rfl (Zx i)) rfl (Zn (ae) A24 rfl rfl rfl (WL_run rfl (Zf rfl (Zx i)) rfl (Zr S24 rfl rfl (a3.mono aa) (WL_run rfl (Zf rfl (Zx i)) rfl (Exec.gtr rfl rfl rfl ?_)))))))
  refine WL_passes 2 (by rw [i]; rfl) ?_
  rcases ite_some g with ⟨o, g⟩ | ⟨o, g⟩
  ·refine WL_passes 4 (by rw [o]; rfl) ?_
   refine Zb (Ze ?_)
   have c6 := Zu g
   subst t
   exact ⟨aq, aa, ae, rfl, rfl, rfl⟩
  replace o := Zk o
  refine WL_run rfl (Zf rfl (Zx o)) rfl (Zm (v := v7) rfl rfl (WL_run rfl (Zf rfl (Zx o)) rfl (Zr S24 rfl rfl (a8.mono aa) (WL_run rfl (Zf rfl (Zx o)) rfl (Exec.gtr rfl rfl rfl (Za rfl rfl (Exec.pick_f (v := Value.bool (decide (50 < (group6.length : Int)))) rfl (Zx o) rfl (Zb (Ze ?_)))))))))
  have c7 := Zu g
  subst t
  exact ⟨aq, aa, ae, rfl, rfl, rfl⟩
 intro cG cZ bp
 obtain ⟨ba, d, ay, a4, bB, a6⟩ := bp
 refine (Ze ?_)
 rcases ite_some hm with ⟨u, hm⟩ | ⟨u, hm⟩
 ·refine W_cond_t a6 u (Zc (Zd ?_))
  obtain ⟨c1, cg, hm⟩ := Zg hm
  refine Za rfl rfl (Tc rfl rfl rfl args_nil (law20_awake_sim cg ay  (ht.mono d)).r ?_)
  rintro _ da ⟨cp, b5, bu, rfl⟩
  refine Za rfl rfl (Zo (v := Value.bool (c1)) rfl rfl (Zb (Ze (W_ret (at_ret ?_)))))
  have c8 := Zu hm
  subst r
  refine ⟨_, ret1 rfl, ?_⟩
  exact ⟨cp, (Zt d b5), (bu).drop, rfl⟩
 refine W_cond_f a6 u ?_
 replace u := Zk u
 refine W_skip (Ze (Zc (Zd (Za rfl rfl (Exec.make_bmap (k := 3) (e := 4) ay rfl ?_)))))
 intro a db bv
 refine Za rfl rfl (Zo (v := Value.map (some a)) rfl rfl (Zb (Ze (Zc (Zd (Za rfl rfl (Zo (v := Vi (0)) rfl rfl (Zb (Ze (Zc (Zc (Zd (Za rfl rfl (Zm (v := v7) rfl a4 (Za rfl rfl (Zr S24 rfl rfl (a8.mono d) (Za rfl rfl (Zm (v := Vi (0)) rfl rfl (Zb (Ze ?_))))))))))))))))))))
 obtain ⟨cw, bj, hm⟩ := Zg hm
 refine W_block (W_forS (fun k' s' f' w' => (un2 fun (h : Int) (q : BMap) => ∃ (bb : PHeap) , PHeap.le ba bb ∧ St w0 bb (Res.box c 33 [v2, v4] :: Res.bmap Tryz.prog 3 4 a q :: H) w' ∧ f' 1 = v7 ∧ f' 2 = Value.pointer (some ⟨c, 0, none⟩) ∧ f' 5 = Value.map (some a) ∧ f' 6 = Vi (h) ∧ f' 27 = v7 ∧ f' 28 = Vi ((group6.length : Int)) ∧ f' 29 = Vi (k' : Int)) s') bj ?_ ?_ ?_)
 ·have bw := (bv).f1
  exact ⟨ba, (Zv _), bw, a4, bB, rfl, rfl, rfl, rfl, rfl⟩
 ·intro z cx cq cH dc b3 bl b
  obtain ⟨h, q⟩ := cx
  replace b := un2_eq b
  obtain ⟨bc, ab, ah, bC, a7, bD, bE, a9, aA, aw⟩ := bl
  refine Zc (Zd (Za rfl rfl (Zq rfl aw aA (Zb (Ze (Zc (W_true (Zx (decide_eq_true (by omega))) (W_skip (Ze (Zc (W_block (Zc (Zd ?_)))))))))))))
  obtain ⟨n, ch, b⟩ := Zg b
  refine Za rfl rfl (Exec.index_rep S24 rfl a9 aw (a8.mono (Zt d ab)) ch ?_)
  intro c3 cP bh
  refine Za rfl rfl (Zw (E := (encInt .i64)) ah A3 rfl rfl rfl bh ?_)
  intro cV ci
  obtain rfl := encInt_val.1 ci
  refine Za rfl rfl (Zo (v := Vi (n)) rfl rfl (Zb (Ze (Zc (Zd (Za rfl rfl (Zo (v := Value.bool (false)) rfl rfl (Zb (Ze (Zc (Zc (Zd (Za rfl rfl (Zp F33_0 rfl a7 rfl (Za rfl rfl (Zn (ah) A24 rfl rfl rfl (Za rfl rfl (Zr S24 rfl rfl (a3.mono (Zt d ab)) (Za rfl rfl (Zm (v := Vi (0)) rfl rfl (Zb (Ze ?_))))))))))))))))))))))
  obtain ⟨m, bk, b⟩ := Zg b
  refine W_block (W_forS (fun k' s' f' w' => (fun (m : Bool) => ∃ (bd : PHeap) , PHeap.le bc bd ∧ St w0 bd (Res.box c 33 [v2, v4] :: Res.bmap Tryz.prog 3 4 a q :: H) w' ∧ f' 1 = v7 ∧ f' 2 = Value.pointer (some ⟨c, 0, none⟩) ∧ f' 5 = Value.map (some a) ∧ f' 6 = Vi (h) ∧ f' 8 = Vi (n) ∧ f' 9 = Value.bool (m) ∧ f' 27 = v7 ∧ f' 28 = Vi ((group6.length : Int)) ∧ f' 29 = Vi ((z : Int)) ∧ f' 34 = v2 ∧ f' 35 = Vi ((s_1.True.length : Int)) ∧ f' 36 = Vi (k' : Int)) s') bk ?_ ?_ ?_)
  ·have bx := (ah).f1
   exact ⟨bc, (Zv _), (bx).f1, bC, a7, bD, bE, rfl, rfl, a9, aA, aw, rfl, rfl, rfl⟩
  ·intro a1 m cr cI dd b4 bm ak
   obtain ⟨ar, a2, ai, aB, aC, aD, aE, al, bF, aF, aG, aH, am, an, ag⟩ := bm
   refine Zc (Zd (Za rfl rfl (Zq rfl ag an (Zb (Ze (Zc (W_true (Zx (decide_eq_true (by omega))) (W_skip (Ze (Zc (W_block (Zc (Zd ?_)))))))))))))
   obtain ⟨ax, cj, ak⟩ := Zg ak
   refine Za rfl rfl (Exec.index_rep S24 rfl am ag (a3.mono (Zt (Zt d ab) a2)) cj ?_)
   intro c4 cQ bi
   refine Za rfl rfl (Zw (E := (encInt .i64)) ai A3 rfl rfl rfl bi ?_)
   intro cW ck
   obtain rfl := encInt_val.1 ck
   refine Za rfl rfl (Zo (v := Vi (ax)) rfl rfl (Zb (Ze (W_mid (M := fun f' w' => ∃ (be : PHeap) , PHeap.le ar be ∧ St w0 be (Res.box c 33 [v2, v4] :: Res.bmap Tryz.prog 3 4 a q :: H) w' ∧ f' 1 = v7 ∧ f' 2 = Value.pointer (some ⟨c, 0, none⟩) ∧ f' 5 = Value.map (some a) ∧ f' 6 = Vi (h) ∧ f' 8 = Vi (n) ∧ f' 9 = Value.bool ((m || decide (ax = n))) ∧ f' 27 = v7 ∧ f' 28 = Vi ((group6.length : Int)) ∧ f' 29 = Vi ((z : Int)) ∧ f' 34 = v2 ∧ f' 35 = Vi ((s_1.True.length : Int)) ∧ f' 36 = Vi ((a1 : Int))) ?_ ?_))))
   ·refine Zd (Za rfl rfl (Zm (v := Value.bool (m)) rfl bF (Za rfl rfl (Zm (v := Value.bool (m)) rfl rfl ?_))))
    by_cases j : m = true
    ·refine WL_passes 5 (by rw [j]; rfl) ?_
     refine Zb (Ze ?_)
     exact ⟨ar, (Zv _), ((ai).f1).f1, aB, aC, aD, aE, al, (Zx (or_t j)).symm, aF, aG, aH, am, an, ag⟩
    replace j := Zk j
    refine WL_run rfl (Zf rfl (Zx j)) rfl (Zm (v := Vi (ax)) rfl rfl (WL_run rfl (Zf rfl (Zx j)) rfl (Zm (v := Vi (n)) rfl al (WL_run rfl (Zf rfl (Zx j)) rfl (Exec.eql rfl rfl rfl ?_)))))
    refine WL_passes 2 (by rw [j]; rfl) ?_
    refine Zb (Ze ?_)
    exact ⟨ar, (Zv _), ((ai).f1).f1, aB, aC, aD, aE, al, (Zx (or_f j)).symm, aF, aG, aH, am, an, ag⟩
   intro cJ de bq
   obtain ⟨ct, b6, bz, bG, bH, bI, bJ, bK, bL, bM, bN, bO, bP, bQ, bR⟩ := bq
   refine (ib_normal (Ze (Zd (Za rfl rfl (Exec.add rfl bR rfl (Za rfl rfl (Zm (v := Vi (IntKind.i64.wrap ((a1 : Int) + 1))) rfl rfl (Zb (Ze ?_)))))))))
   have c9 := Zu ak
   subst cr
   exact ⟨ct, (Zt a2 b6), ((bz).f1).f1, bG, bH, bI, bJ, bK, bL, bM, bN, bO, bP, bQ, (Eq.trans rfl (wrap_up b4 (SliceRep.le (a3.mono (Zt d ab)))))⟩
  intro cK df bn
  obtain ⟨au, b7, aj, aI, aJ, ao, aK, ap, bS, aL, aM, aN, cR, bT, cy⟩ := bn
  refine Zc (Zd (Za rfl rfl (Zq rfl cy bT (Zb (Ze (Zc (W_false (Zx (decide_eq_false (by omega))) (W_exit (at_exit (at_exit (ib_here (Ze (Zc (Zc ?_))))))))))))))
  obtain ⟨ad, p, b⟩ := Zg b
  refine W_mid (M := fun f' w' => (fun (ad : Bool) => ∃ (bf : PHeap) , PHeap.le au bf ∧ St w0 bf (Res.box c 33 [v2, v4] :: Res.bmap Tryz.prog 3 4 a q :: H) w' ∧ f' 1 = v7 ∧ f' 2 = Value.pointer (some ⟨c, 0, none⟩) ∧ f' 5 = Value.map (some a) ∧ f' 6 = Vi (h) ∧ f' 8 = Vi (n) ∧ f' 27 = v7 ∧ f' 28 = Vi ((group6.length : Int)) ∧ f' 29 = Vi ((z : Int)) ∧ f' 53 = Value.bool (ad)) ad) ?_ ?_
  ·refine Zd (Za rfl rfl (Zm (v := Value.bool (m)) rfl bS (Za rfl rfl (Zm (v := Value.bool (m)) rfl rfl ?_))))
   rcases ite_some p with ⟨l, p⟩ | ⟨l, p⟩
   ·refine WL_run rfl (Zf rfl (Zx l)) rfl (Zm (v := Value.map (some a)) rfl ao (WL_run rfl (Zf rfl (Zx l)) rfl (Zm (v := Vi (n)) rfl ap ?_)))
    obtain ⟨cl, cm, p⟩ := Zg p
    refine WL_run rfl (Zf rfl (Zx l)) rfl (Exec.bmap_get ((aj).f1) ⟨Tryz.underlying34, Tryz.underlying3, Tryz.underlying4⟩ Z4 rfl rfl rfl cm (WL_run rfl (Zf rfl (Zx l)) rfl (Exec.not rfl rfl (Za rfl rfl (Zs (v := Value.bool (!cl)) rfl (Zx l) rfl (Zb (Ze ?_)))))))
    have cA := Zu p
    subst ad
    exact ⟨au, (Zv _), ((aj).f1).f1, aI, aJ, ao, aK, ap, aL, aM, aN, rfl⟩
   replace l := Zk l
   refine WL_passes 5 (by rw [l]; rfl) ?_
   refine Zb (Ze ?_)
   have cB := Zu p
   subst ad
   exact ⟨au, (Zv _), ((aj).f1).f1, aI, aJ, ao, aK, ap, aL, aM, aN, rfl⟩
  intro cL dg br
  obtain ⟨av, b8, az, aO, aP, aQ, aR, aS, aT, aU, aV, aW⟩ := br
  refine (Ze ?_)
  obtain ⟨ac, y, b⟩ := Zg b
  refine W_mid (M := fun f' w' => (fun (ac : Int) => ∃ (bg : PHeap) , PHeap.le av bg ∧ St w0 bg (Res.box c 33 [v2, v4] :: Res.bmap Tryz.prog 3 4 a q :: H) w' ∧ f' 1 = v7 ∧ f' 2 = Value.pointer (some ⟨c, 0, none⟩) ∧ f' 5 = Value.map (some a) ∧ f' 6 = Vi (ac) ∧ f' 8 = Vi (n) ∧ f' 27 = v7 ∧ f' 28 = Vi ((group6.length : Int)) ∧ f' 29 = Vi ((z : Int))) ac) ?_ ?_
  ·rcases ite_some y with ⟨x, y⟩ | ⟨x, y⟩
   ·refine W_cond_t aW x (Zd (Za rfl rfl (Zm (v := Vi (h)) rfl aR (Za rfl rfl (Exec.add rfl rfl rfl (Za rfl rfl (Zo (v := Vi (IntKind.i64.wrap (h + 1))) rfl rfl (Zb (Ze ?_)))))))))
    have cC := Zu y
    subst ac
    exact ⟨av, (Zv _), ((az).f1).f1, aO, aP, aQ, rfl, aS, aT, aU, aV⟩
   refine W_cond_f aW x ?_
   replace x := Zk x
   refine W_skip (Ze ?_)
   have cD := Zu y
   subst ac
   exact ⟨av, (Zv _), ((az).f1).f1, aO, aP, aQ, aR, aS, aT, aU, aV⟩
  intro cM dh bs
  obtain ⟨cu, b9, b0, bU, bV, aX, bW, bX, bY, bZ, ca⟩ := bs
  refine (Ze (Zd (Za rfl rfl (Zm (v := Value.map (some a)) rfl aX (Za rfl rfl (Zm (v := Vi (n)) rfl bX ?_))))))
  obtain ⟨cO, cn, b⟩ := Zg b
  refine Za rfl rfl (Exec.bmap_put (b0).f1 ⟨Tryz.underlying34, Tryz.underlying3, Tryz.underlying4⟩ rfl rfl rfl rfl cn ?_)
  intro di b1
  refine Zb (ib_normal (Ze (Zd (Za rfl rfl (Exec.add rfl ca rfl (Za rfl rfl (Zm (v := Vi (IntKind.i64.wrap ((z : Int) + 1))) rfl rfl (Zb (Ze ?_)))))))))
  have cE := Zu b
  subst cq
  exact ⟨cu, (Zt (Zt (Zt ab b7) b8) b9), (b1).f1, bU, bV, aX, bW, bY, bZ, (Eq.trans rfl (wrap_up b3 (SliceRep.le (a8.mono d))))⟩
 intro cN dj bo
 obtain ⟨h, q⟩ := cw
 replace hm := un2_eq hm
 obtain ⟨cU, af, a0, cb, cc, cS, cd, cT, ce, cz⟩ := bo
 refine Zc (Zd (Za rfl rfl (Zq rfl cz ce (Zb (Ze (Zc (W_false (Zx (decide_eq_false (by omega))) (W_exit (at_exit (at_exit (ib_here (Ze (Zc (Zd (Za rfl rfl (Exec.load_box_agg (ds := [v2, v4]) (a0) A33 rfl cc rfl (Za rfl rfl (Zm (v := v7) rfl cb ?_))))))))))))))))))
 obtain ⟨c2, co, hm⟩ := Zg hm
 refine Za rfl rfl (Tc rfl rfl rfl (Zi rfl (Zi rfl args_nil)) (invariant_Holds_sim co a0 (a3.mono (Zt d af)) (a5.mono (Zt d af)) (a8.mono (Zt d af))).r ?_)
 rintro _ dk ⟨cv, bA, b2, rfl⟩
 refine Za rfl rfl (Zm (v := Vi (h)) rfl cd (Za rfl rfl (Exec.leq rfl rfl rfl (Za rfl rfl (Exec.bool_eql Tryz.underlying4 rfl rfl rfl (Za rfl rfl (Zo (v := Value.bool ((c2 == (decide (h ≤ 1))))) rfl rfl (Zb (Ze (W_ret ?_))))))))))
 have cF := Zu hm
 subst r
 refine ⟨_, ret1 rfl, ?_⟩
 exact ⟨cv, (Zt (Zt d af) bA), ((b2).drop).drop, rfl⟩
end Go.Pw
