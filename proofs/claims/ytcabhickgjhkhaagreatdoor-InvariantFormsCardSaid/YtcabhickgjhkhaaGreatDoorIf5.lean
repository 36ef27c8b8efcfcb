/-
  The walks (printed by my generator).
-/
import Derived.Test.YtcabhickgjhkhaaGreatDoorL29
import Derived.Test.YtcabhickgjhkhaaGreatDoorL27
import Derived.Test.YtcabhickgjhkhaaGreatDoorIf4
set_option maxRecDepth 100000
set_option maxHeartbeats 4000000
set_option linter.unusedVariables false
namespace Go.Pw
open Go.Proofs
theorem invariant_keeps_sim {w0 w : World} {s : PHeap} {H : List Res} {a : GOp} {ax : (List Int)} {q : Value} {t : Value} {u : Value} {l : Value} {x : Value} {m : Value} {r : Bool} (hm : invariant_keeps_p a ax = some r) (hS : St w0 s (H) w) (bo : SliceRep (encInt .i64) s q a.Pre.Pos) (bp : SliceRep (encInt .i64) s t a.Pre.Neg) (bq : SliceRep encGTest s u a.Pre.Tests) (aw : SliceRep encGChange s l a.Changes) (br : SliceRep encGAssign s x a.Assigns) (au : SliceRep (encInt .i64) s m ax) :
  Calls Tryz.prog 45 #[Value.agg #[Value.string (a.Name), Vi (a.Cost), q, t, u, l, x], m] w fun e w' => ∃ v, e = .returned v ∧ ((fun (fc : Bool) => ∃ (cb : PHeap) , PHeap.le s cb ∧ St w0 cb (H) w' ∧ v = Value.bool (fc)) r) := by
 unfold invariant_keeps_p at hm
 refine calls_of_W Tryz.func45 rfl rfl (Zc (Zd (Za rfl rfl (Exec.box (cs := [Value.string (a.Name), Vi (a.Cost), q, t, u, l, x]) hS rfl rfl rfl ?_))))
 intro i gz b0
 refine Za rfl rfl (Zo (v := Value.bool (false)) rfl rfl (Zb (Ze (Zc (Zd (Za rfl rfl (Zo (v := Value.slice none 0 0) rfl rfl (Zb (Ze (Zc (Zc (Zd (Za rfl rfl (Zp F63_3 rfl rfl rfl (Za rfl rfl (Zn (b0) A60 rfl rfl rfl (Za rfl rfl (Zr S60 rfl rfl aw (Za rfl rfl (Zm (v := Vi (0)) rfl rfl (Zb (Ze ?_))))))))))))))))))))))
 obtain ⟨ad, cz, hm⟩ := Zg hm
 refine W_block (W_forS (fun k' s' f' w' => (fun (ad : (List GChange)) => ∃ (cc : PHeap) (af : Value), PHeap.le s cc ∧ St w0 cc (Res.box i 63 [Value.string (a.Name), Vi (a.Cost), q, t, u, l, x] :: Res.arr encGChange 81 af ad :: H) w' ∧ f' 1 = m ∧ f' 2 = Value.pointer (some ⟨i, 0, none⟩) ∧ f' 5 = af ∧ f' 23 = l ∧ f' 24 = Vi ((a.Changes.length : Int)) ∧ f' 25 = Vi (k' : Int)) s') cz ?_ ?_ ?_)
 ·have cH := b0.nilArr encGChange 81
  exact ⟨s, (Value.slice none 0 0), (Zv _), (cH).f1, rfl, rfl, rfl, rfl, rfl, rfl⟩
 ·intro aU ad eJ fz g0 di c3 al
  obtain ⟨gl, af, aW, b1, aY, bB, bC, aZ, ba, aK⟩ := c3
  refine Zc (Zd (Za rfl rfl (Zq rfl aK ba (Zb (Ze (Zc (W_true (Zx (decide_eq_true (by omega))) (W_skip (Ze (Zc (W_block (Zc (Zd ?_)))))))))))))
  obtain ⟨g, e2, al⟩ := Zg al
  refine Za rfl rfl (Exec.index_rep S60 rfl aZ aK (aw.mono aW) e2 ?_)
  intro fe fO cv
  refine Za rfl rfl (Zw (E := encGChange) b1 A81 rfl rfl rfl cv ?_)
  intro gv e3
  obtain ⟨an, aj, ak, rfl, bT, bU, bV⟩ := encGChange_val.1 e3
  refine Za rfl rfl (Exec.alloc (cs := [Value.slice none 0 0, Value.slice none 0 0, Value.slice none 0 0, Vi (0), Value.bool (false)]) b1 Z81 rfl rfl ?_)
  intro bt g1 cI
  refine Za rfl rfl (Exec.store_box (ds := [an, aj, ak, Vi (g.Atom), Value.bool (g.Add)]) (es := [an, aj, ak, Vi (g.Atom), Value.bool (g.Add)]) cI A81 rfl rfl rfl rfl (Zj (bT).one (Zj (bU).one (Zj (bV).one (Zj rfl (Zj rfl one_nil))))) (Nat.le_of_ble_eq_true rfl) rfl ?_)
  intro g2 b2
  refine Zb (Ze (Zc (Zd (Za rfl rfl (Zm (v := m) rfl aY (Za rfl rfl (Zp F81_1 rfl rfl rfl (Za rfl rfl (Zn (b2) A3 rfl rfl rfl ?_)))))))))
  obtain ⟨eT, e4, al⟩ := Zg al
  obtain ⟨bl, a7⟩ := eT
  replace al := un2_eq al
  refine Za rfl rfl (Tc rfl rfl rfl (Zi rfl (Zi rfl args_nil)) (slices_BinarySearch_int_sim e4 b2 (au.mono aW)).r ?_)
  rintro _ g3 ⟨bf, aC, aQ, rfl⟩
  refine Za rfl rfl (Zm (v := Value.tuple #[Vi (bl), Value.bool (a7)]) rfl rfl (Za rfl rfl (Exec.extract (v := Vi (bl)) rfl rfl rfl (Za rfl rfl (Exec.extract (v := Value.bool (a7)) rfl rfl rfl (Za rfl rfl (Zo (v := Vi (bl)) rfl rfl (Za rfl rfl (Zo (v := Value.bool (a7)) rfl rfl (Zb (Ze (Zc (W_mid (M := fun f' w' => ∃ (cd : PHeap) , PHeap.le bf cd ∧ St w0 cd (Res.box i 63 [Value.string (a.Name), Vi (a.Cost), q, t, u, l, x] :: Res.arr encGChange 81 af ad :: Res.box bt 81 [an, aj, ak, Vi (g.Atom), Value.bool (g.Add)] :: H) w' ∧ f' 1 = m ∧ f' 2 = Value.pointer (some ⟨i, 0, none⟩) ∧ f' 5 = af ∧ f' 7 = Value.pointer (some ⟨bt, 0, none⟩) ∧ f' 23 = l ∧ f' 24 = Vi ((a.Changes.length : Int)) ∧ f' 25 = Vi ((aU : Int)) ∧ f' 40 = Value.bool ((a7 && g.Add))) ?_ ?_)))))))))))))
  ·refine Zd (WL_passes 2 rfl ?_)
   by_cases ao : a7 = true
   ·refine WL_run rfl (Zf rfl (Zx ao)) rfl (Zp F81_2 rfl rfl rfl (WL_run rfl (Zf rfl (Zx ao)) rfl (Zn (aQ) A4 rfl rfl rfl (Za rfl rfl (Zs (v := Value.bool (g.Add)) rfl (Zx ao) rfl (Zb (Ze ?_)))))))
    exact ⟨bf, (Zv _), ((aQ).f2).f2, aY, bB, bC, rfl, aZ, ba, aK, (Zx (and_t ao)).symm⟩
   replace ao := Zk ao
   refine WL_passes 3 (by rw [ao]; rfl) ?_
   refine Zb (Ze ?_)
   exact ⟨bf, (Zv _), ((aQ).f2).f2, aY, bB, bC, rfl, aZ, ba, aK, (Zx (and_f ao)).symm⟩
  intro f0 g4 cB
  obtain ⟨bg, aD, aR, bD, bE, bF, d6, bG, bH, bI, bJ⟩ := cB
  refine (Ze ?_)
  obtain ⟨a1, ap, al⟩ := Zg al
  refine W_mid (M := fun f' w' => (fun (a1 : (List GChange)) => ∃ (ce : PHeap) (aJ : Value), PHeap.le bg ce ∧ St w0 ce (Res.box i 63 [Value.string (a.Name), Vi (a.Cost), q, t, u, l, x] :: Res.arr encGChange 81 aJ a1 :: H) w' ∧ f' 1 = m ∧ f' 2 = Value.pointer (some ⟨i, 0, none⟩) ∧ f' 5 = aJ ∧ f' 23 = l ∧ f' 24 = Vi ((a.Changes.length : Int)) ∧ f' 25 = Vi ((aU : Int))) a1) ?_ ?_
  ·rcases ite_some ap with ⟨ay, ap⟩ | ⟨ay, ap⟩
   ·refine W_cond_t bJ ay (Zd (Za rfl rfl (Zm (v := af) rfl bF (Za rfl rfl (Exec.load_box_agg (ds := [an, aj, ak, Vi (g.Atom), Value.bool (g.Add)]) ((aR).f2) A81 rfl d6 rfl (Za rfl rfl (Exec.buildSlice (Te := 81) (cs := [an, aj, ak, Vi (g.Atom), Value.bool (g.Add)]) aR rfl (parts_cons (c := [an, aj, ak, Vi (g.Atom), Value.bool (g.Add)]) (cells_of rfl rfl) parts_nil) (fun _ => by kernel_rfl) ?_)))))))
    intro ff g5 cJ
    obtain ⟨fN, e5, ap⟩ := Zg ap
    refine Za rfl rfl (Exec.append_box (E := encGChange) (ys := [g]) (cJ).f2 S60 Z81 rfl (by decide) rfl rfl rfl rfl ⟨[an, aj, ak, Vi (g.Atom), Value.bool (g.Add)], [], rfl, ⟨[an, aj, ak], [Vi (g.Atom), Value.bool (g.Add)], rfl, ⟨[an], [aj, ak], rfl, ⟨_, rfl, (bT.mono (Zt aC aD))⟩, ⟨[aj], [ak], rfl, ⟨_, rfl, (bU.mono (Zt aC aD))⟩, ⟨_, rfl, (bV.mono (Zt aC aD))⟩⟩⟩, ⟨[Vi (g.Atom)], [Value.bool (g.Add)], rfl, rfl, rfl⟩⟩, rfl⟩ rfl e5 ?_)
    intro cq g6 cK
    refine Za rfl rfl (Zo (v := cq) rfl rfl (Zb (Ze ?_)))
    have fn := Zu ap
    subst a1
    exact ⟨bg, cq, (Zv _), (((cK).f2).drop).f1, bD, bE, rfl, bG, bH, bI⟩
   refine W_cond_f bJ ay ?_
   replace ay := Zk ay
   refine W_skip (Ze ?_)
   have fo := Zu ap
   subst a1
   exact ⟨bg, af, (Zv _), ((((aR).f2).drop).f1).f1, bD, bE, bF, bG, bH, bI⟩
  intro f4 g7 cC
  obtain ⟨eK, aJ, dy, cL, d7, d8, d9, dA, dB, dC⟩ := cC
  refine (ib_normal (Ze (Zd (Za rfl rfl (Exec.add rfl dC rfl (Za rfl rfl (Zm (v := Vi (IntKind.i64.wrap ((aU : Int) + 1))) rfl rfl (Zb (Ze ?_)))))))))
  have fp := Zu al
  subst eJ
  exact ⟨eK, aJ, (Zt (Zt (Zt aW aC) aD) dy), ((cL).f1).f1, d7, d8, d9, dA, dB, (Eq.trans rfl (wrap_up di (SliceRep.le aw)))⟩
 intro f5 g8 c4
 obtain ⟨cf, af, o, aS, dD, dE, bK, fS, dF, eY⟩ := c4
 refine Zc (Zd (Za rfl rfl (Zq rfl eY dF (Zb (Ze (Zc (W_false (Zx (decide_eq_false (by omega))) (W_exit (at_exit (at_exit (ib_here (Ze (Zc (Zc (Zd (Za rfl rfl (Zm (v := af) rfl bK (Za rfl rfl (Exec.len_arr ((aS).f1) S60 rfl rfl (Za rfl rfl (Zm (v := Vi (0)) rfl rfl (Zb (Ze ?_)))))))))))))))))))))))
 obtain ⟨bu, c0, dq, dk, df⟩ := ctl_some hm
 refine W_mid (M := fun f' w' => ∃ s', (bu = .next s' ∨ bu = .brk s') ∧ (un2 fun (bs : (List GChange)) (cu : (List GChange)) => ∃ (aH : PHeap) (bj : Value) (bk : Value), PHeap.le cf aH ∧ St w0 aH (Res.box i 63 [Value.string (a.Name), Vi (a.Cost), q, t, u, l, x] :: H) w' ∧ f' 1 = m ∧ f' 2 = Value.pointer (some ⟨i, 0, none⟩) ∧ f' 5 = bj ∧ f' 46 = bk ∧ f' 47 = Vi ((ad.length : Int)) ∧ SliceRep encGChange aH bj bs ∧ SliceRep encGChange aH bk cu) s') ?_ ?_
 ·refine W_block (W_forC (fun k' s' f' w' => (un2 fun (aO : (List GChange)) (bn : (List GChange)) => ∃ (aI : PHeap) (ac : Value) (ag : Value), PHeap.le cf aI ∧ St w0 aI (Res.box i 63 [Value.string (a.Name), Vi (a.Cost), q, t, u, l, x] :: H) w' ∧ f' 1 = m ∧ f' 2 = Value.pointer (some ⟨i, 0, none⟩) ∧ f' 5 = ac ∧ f' 46 = ag ∧ f' 47 = Vi ((ad.length : Int)) ∧ f' 48 = Vi (k' : Int) ∧ SliceRep encGChange aI ac aO ∧ SliceRep encGChange aI ag bn) s') c0 ?_ ?_ ?_)
  ·have cM := (aS).f1
   obtain ⟨eL, dz, cN, bW⟩ := cM.freezeArr
   exact ⟨eL, af, af, dz, cN, dD, dE, bK, rfl, rfl, rfl, bW, bW⟩
  ·intro am eU bv f6 g9 dj c5 ae dt
   obtain ⟨aO, bn⟩ := eU
   replace ae := un2_eq ae
   obtain ⟨bh, ac, ag, p, b3, dG, dH, bL, bM, bN, aL, aA, aB⟩ := c5
   refine Zc (Zd (Za rfl rfl (Zq rfl aL bN (Zb (Ze (Zc (W_true (Zx (decide_eq_true (by omega))) (W_skip (Ze (Zc (W_block (Zc (Zd (Za rfl rfl (Zm (v := Vi ((am : Int))) rfl aL ?_)))))))))))))))
   obtain ⟨b, e6, ae⟩ := Zg ae
   refine Za rfl rfl (Exec.index_rep S60 rfl bM aL aB e6 ?_)
   intro fg fP cw
   refine Za rfl rfl (Zw (E := encGChange) b3 A81 rfl rfl rfl cw ?_)
   intro gw e7
   obtain ⟨ab, y, z, rfl, bX, bY, bZ⟩ := encGChange_val.1 e7
   refine Za rfl rfl (Exec.alloc (cs := [Value.slice none 0 0, Value.slice none 0 0, Value.slice none 0 0, Vi (0), Value.bool (false)]) b3 Z81 rfl rfl ?_)
   intro ah gA cO
   refine Za rfl rfl (Zo (v := Vi ((am : Int))) rfl rfl (Za rfl rfl (Exec.store_box (ds := [ab, y, z, Vi (b.Atom), Value.bool (b.Add)]) (es := [ab, y, z, Vi (b.Atom), Value.bool (b.Add)]) cO A81 rfl rfl rfl rfl (Zj (bX).one (Zj (bY).one (Zj (bZ).one (Zj rfl (Zj rfl one_nil))))) (Nat.le_of_ble_eq_true rfl) rfl ?_)))
   intro gB cP
   refine Zb (Ze (Zc (Zc (Zd (Za rfl rfl (Zm (v := ac) rfl bL (Za rfl rfl (Zm (v := Vi ((am : Int))) rfl rfl ?_))))))))
   obtain ⟨bw, e8, ae⟩ := Zg ae
   refine Za rfl rfl (Exec.slice_to S60 rfl rfl rfl aA e8 ?_)
   intro cr ca
   refine Za rfl rfl (Zr S60 rfl rfl ca (Za rfl rfl (Zm (v := Vi (0)) rfl rfl (Zb (Ze ?_)))))
   obtain ⟨bx, c1, fI, dl, dg⟩ := ctl_some ae
   refine W_mid (M := fun f' w' => ∃ s', (bx = .next s' ∨ bx = .brk s') ∧ (fun (_ : Unit) => ∃ (cg : PHeap) , PHeap.le bh cg ∧ St w0 cg (Res.box i 63 [Value.string (a.Name), Vi (a.Cost), q, t, u, l, x] :: Res.box ah 81 [ab, y, z, Vi (b.Atom), Value.bool (b.Add)] :: H) w' ∧ f' 1 = m ∧ f' 2 = Value.pointer (some ⟨i, 0, none⟩) ∧ f' 5 = ac ∧ f' 11 = Value.pointer (some ⟨ah, 0, none⟩) ∧ f' 46 = ag ∧ f' 47 = Vi ((ad.length : Int)) ∧ f' 48 = Vi ((am : Int)) ∧ f' 55 = cr ∧ f' 56 = Vi ((bw.length : Int))) s') ?_ ?_
   ·refine W_block (W_forC (fun k' s' f' w' => (fun (_ : Unit) => ∃ (ch : PHeap) , PHeap.le bh ch ∧ St w0 ch (Res.box i 63 [Value.string (a.Name), Vi (a.Cost), q, t, u, l, x] :: Res.box ah 81 [ab, y, z, Vi (b.Atom), Value.bool (b.Add)] :: H) w' ∧ f' 1 = m ∧ f' 2 = Value.pointer (some ⟨i, 0, none⟩) ∧ f' 5 = ac ∧ f' 11 = Value.pointer (some ⟨ah, 0, none⟩) ∧ f' 46 = ag ∧ f' 47 = Vi ((ad.length : Int)) ∧ f' 48 = Vi ((am : Int)) ∧ f' 55 = cr ∧ f' 56 = Vi ((bw.length : Int)) ∧ f' 57 = Vi (k' : Int)) s') c1 ?_ ?_ ?_)
    ·have cQ := (cP).f1
     exact ⟨bh, (Zv _), cQ, dG, dH, bL, rfl, bM, bN, aL, rfl, rfl, rfl⟩
    ·intro fM go fm f7 gC fH c6 aT fL
     obtain ⟨gm, d0, b4, fT, fU, fV, fW, fX, fY, fZ, dI, dJ, ct⟩ := c6
     refine Zc (Zd (Za rfl rfl (Zq rfl ct dJ (Zb (Ze (Zc (W_true (Zx (decide_eq_true (by omega))) (W_skip (Ze (Zc (W_block (Zc (Zd ?_)))))))))))))
     obtain ⟨aM, e9, aT⟩ := Zg aT
     refine Za rfl rfl (Exec.index_rep S60 rfl dI ct (ca.mono d0) e9 ?_)
     intro fh fQ cx
     refine Za rfl rfl (Zw (E := encGChange) b4 A81 rfl rfl rfl cx ?_)
     intro gx eA
     obtain ⟨cn, co, cp, rfl, eF, eG, eH⟩ := encGChange_val.1 eA
     refine Za rfl rfl (Exec.alloc (cs := [Value.slice none 0 0, Value.slice none 0 0, Value.slice none 0 0, Vi (0), Value.bool (false)]) b4 Z81 rfl rfl ?_)
     intro fi gD cR
     refine Za rfl rfl (Exec.store_box (ds := [cn, co, cp, Vi (aM.Atom), Value.bool (aM.Add)]) (es := [cn, co, cp, Vi (aM.Atom), Value.bool (aM.Add)]) cR A81 rfl rfl rfl rfl (Zj (eF).one (Zj (eG).one (Zj (eH).one (Zj rfl (Zj rfl one_nil))))) (Nat.le_of_ble_eq_true rfl) rfl ?_)
     intro gE fG
     refine Zb (Ze (Zc (Zc ?_)))
     cases aT
    intro gp f8 gF c7 du
    obtain ⟨eM, d1, cS, dK, dL, dM, dN, dO, dP, dQ, dR, bO, eZ⟩ := c7
    refine Zc (Zd (Za rfl rfl (Zq rfl eZ bO (Zb (Ze (Zc (W_false (Zx (decide_eq_false (by omega))) (W_exit (at_exit (at_exit (ib_here (Ze ?_))))))))))))
    refine ⟨_, .inl du, ?_⟩; exact ⟨eM, d1, ((cS).f1).f1, dK, dL, dM, dN, dO, dP, dQ, dR, bO⟩
   rintro f9 gG ⟨gq, b6, cD⟩
   have ae := b6.elim (dl _) (dg _)
   clear b6
   obtain ⟨bi, d, cT, bP, dS, dT, dU, dV, dW, dX, ga, gb⟩ := cD
   refine (Ze (Zc (Zd (Za rfl rfl (Zm (v := m) rfl bP (Za rfl rfl (Zr S24 rfl rfl (au.mono (Zt (Zt o p) d)) (Za rfl rfl (Zm (v := Vi (0)) rfl rfl (Zb (Ze ?_)))))))))))
   obtain ⟨bz, c2, dr, dm, dh⟩ := ctl_some ae
   refine W_mid (M := fun f' w' => ∃ s', (bz = .next s' ∨ bz = .brk s') ∧ (fun (_ : Unit) => ∃ (ci : PHeap) , PHeap.le bi ci ∧ St w0 ci (Res.box i 63 [Value.string (a.Name), Vi (a.Cost), q, t, u, l, x] :: Res.box ah 81 [ab, y, z, Vi (b.Atom), Value.bool (b.Add)] :: H) w' ∧ f' 1 = m ∧ f' 2 = Value.pointer (some ⟨i, 0, none⟩) ∧ f' 5 = ac ∧ f' 11 = Value.pointer (some ⟨ah, 0, none⟩) ∧ f' 46 = ag ∧ f' 47 = Vi ((ad.length : Int)) ∧ f' 48 = Vi ((am : Int)) ∧ f' 87 = m ∧ f' 88 = Vi ((ax.length : Int))) s') ?_ ?_
   ·refine W_block (W_forC (fun k' s' f' w' => (fun (_ : Unit) => ∃ (cj : PHeap) , PHeap.le bi cj ∧ St w0 cj (Res.box i 63 [Value.string (a.Name), Vi (a.Cost), q, t, u, l, x] :: Res.box ah 81 [ab, y, z, Vi (b.Atom), Value.bool (b.Add)] :: H) w' ∧ f' 1 = m ∧ f' 2 = Value.pointer (some ⟨i, 0, none⟩) ∧ f' 5 = ac ∧ f' 11 = Value.pointer (some ⟨ah, 0, none⟩) ∧ f' 46 = ag ∧ f' 47 = Vi ((ad.length : Int)) ∧ f' 48 = Vi ((am : Int)) ∧ f' 87 = m ∧ f' 88 = Vi ((ax.length : Int)) ∧ f' 89 = Vi (k' : Int)) s') c2 ?_ ?_ ?_)
    ·have cU := (cT).f1
     exact ⟨bi, (Zv _), (cU).f1, bP, dS, dT, dU, dV, dW, dX, rfl, rfl, rfl⟩
    ·intro aV gr aP fA gH b9 c8 n dv
     obtain ⟨eN, j, av, aE, a2, bb, a3, bc, bd, be, aF, aG, a6⟩ := c8
     refine Zc (Zd (Za rfl rfl (Zq rfl a6 aG (Zb (Ze (Zc (W_true (Zx (decide_eq_true (by omega))) (W_skip (Ze (Zc (W_block (Zc (Zd ?_)))))))))))))
     obtain ⟨aN, eB, n⟩ := Zg n
     refine Za rfl rfl (Exec.index_rep S24 rfl aF a6 (au.mono (Zt (Zt (Zt o p) d) j)) eB ?_)
     intro fj fR cy
     refine Za rfl rfl (Zw (E := (encInt .i64)) av A3 rfl rfl rfl cy ?_)
     intro gy eC
     obtain rfl := encInt_val.1 eC
     refine Za rfl rfl (Zo (v := Vi (aN)) rfl rfl (Zb (Ze (Zc (Zc (Zd (Za rfl rfl (Zm (v := Vi (aN)) rfl rfl (Za rfl rfl (Zp F81_1 rfl a3 rfl (Za rfl rfl (Zn ((av).f1) A3 rfl rfl rfl (Za rfl rfl (Exec.eql rfl rfl rfl (Zb (Ze ?_))))))))))))))))
     rcases ite_some n with ⟨az, n⟩ | ⟨az, n⟩
     ·refine W_cond_t rfl az (W_exit (at_exit (ib_here (Ze (Zd (Za rfl rfl (Exec.add rfl a6 rfl (Za rfl rfl (Zm (v := Vi (IntKind.i64.wrap ((aV : Int) + 1))) rfl rfl (Zb (Ze ?_)))))))))))
      have fq := Zu n
      subst aP
      refine ⟨_, rfl, ?_⟩; exact ⟨eN, j, ((av).f1).f1, aE, a2, bb, a3, bc, bd, be, aF, aG, (Eq.trans rfl (wrap_up b9 (SliceRep.le (au.mono (Zt (Zt o p) d)))))⟩
     refine W_cond_f rfl az ?_
     replace az := Zk az
     refine W_skip (Ze (Zc (Zd (Za rfl rfl (Exec.load_box_agg (ds := [Value.string (a.Name), Vi (a.Cost), q, t, u, l, x]) (av) A63 rfl a2 rfl (Za rfl rfl (Exec.load_box_agg (ds := [ab, y, z, Vi (b.Atom), Value.bool (b.Add)]) ((av).f1) A81 rfl a3 rfl (Za rfl rfl (Exec.buildSlice (Te := 81) (cs := [ab, y, z, Vi (b.Atom), Value.bool (b.Add)]) av rfl (parts_cons (c := [ab, y, z, Vi (b.Atom), Value.bool (b.Add)]) (cells_of rfl rfl) parts_nil) (fun _ => by kernel_rfl) ?_)))))))))
     intro fk gI cV
     refine Za rfl rfl (Zm (v := Vi (aN)) rfl rfl (Za rfl rfl (Zm (v := m) rfl aE ?_)))
     have cW := St.boxArr (E := encGChange) (xs := [b]) cV ⟨[ab, y, z, Vi (b.Atom), Value.bool (b.Add)], [], rfl, ⟨[ab, y, z], [Vi (b.Atom), Value.bool (b.Add)], rfl, ⟨[ab], [y, z], rfl, ⟨_, rfl, (bX.mono (Zt d j))⟩, ⟨[y], [z], rfl, ⟨_, rfl, (bY.mono (Zt d j))⟩, ⟨_, rfl, (bZ.mono (Zt d j))⟩⟩⟩, ⟨[Vi (b.Atom)], [Value.bool (b.Add)], rfl, rfl, rfl⟩⟩, rfl⟩ (by simp [maxLen])
     obtain ⟨gn, aa, cX, eI⟩ := cW.freezeArr
     obtain ⟨eV, eD, n⟩ := Zg n
     obtain ⟨bm, gS⟩ := eV
     replace n := un2_eq n
     refine Za rfl rfl (Tc rfl rfl rfl (Zi rfl (Zi rfl (Zi rfl (Zi rfl args_nil)))) (invariant_situation_sim eD cX (bo.mono (Zt (Zt (Zt (Zt o p) d) j) aa)) (bp.mono (Zt (Zt (Zt (Zt o p) d) j) aa)) (bq.mono (Zt (Zt (Zt (Zt o p) d) j) aa)) (aw.mono (Zt (Zt (Zt (Zt o p) d) j) aa)) (br.mono (Zt (Zt (Zt (Zt o p) d) j) aa)) eI (au.mono (Zt (Zt (Zt (Zt o p) d) j) aa))).r ?_)
     rintro _ gJ ⟨ck, a4, a5, ar, cY, rfl⟩
     refine Za rfl rfl (Zm (v := Value.tuple #[Value.agg #[Value.map (some a4), Value.map (some a5)], Value.bool (bm)]) rfl rfl (Za rfl rfl (Exec.extract (v := Value.agg #[Value.map (some a4), Value.map (some a5)]) rfl rfl rfl (Za rfl rfl (Exec.extract (v := Value.bool (bm)) rfl rfl rfl (Za rfl rfl (Exec.alloc (cs := [Value.map none, Value.map none]) cY Z121 rfl rfl ?_)))))))
     intro fl gK cZ
     refine Za rfl rfl (Exec.store_box (ds := [Value.map (some a4), Value.map (some a5)]) (es := [Value.map (some a4), Value.map (some a5)]) cZ A121 rfl rfl rfl rfl (Zj rfl (Zj rfl one_nil)) (Nat.le_of_ble_eq_true rfl) rfl ?_)
     intro gL a9
     refine Za rfl rfl (Zo (v := Value.bool (bm)) rfl rfl (Zb (Ze (Zc ?_))))
     obtain ⟨a8, aq, n⟩ := Zg n
     refine W_mid (M := fun f' w' => (fun (a8 : Bool) => ∃ (cl : PHeap) , PHeap.le ck cl ∧ St w0 cl (Res.box i 63 [Value.string (a.Name), Vi (a.Cost), q, t, u, l, x] :: Res.box ah 81 [ab, y, z, Vi (b.Atom), Value.bool (b.Add)] :: H) w' ∧ f' 1 = m ∧ f' 2 = Value.pointer (some ⟨i, 0, none⟩) ∧ f' 5 = ac ∧ f' 11 = Value.pointer (some ⟨ah, 0, none⟩) ∧ f' 46 = ag ∧ f' 47 = Vi ((ad.length : Int)) ∧ f' 48 = Vi ((am : Int)) ∧ f' 87 = m ∧ f' 88 = Vi ((ax.length : Int)) ∧ f' 89 = Vi ((aV : Int)) ∧ f' 113 = Value.bool (a8)) a8) ?_ ?_
     ·refine Zd (WL_passes 2 rfl ?_)
      rcases ite_some aq with ⟨ai, aq⟩ | ⟨ai, aq⟩
      ·refine WL_run rfl (Zf rfl (Zx ai)) rfl (Exec.load_box_agg (ds := [Value.map (some a4), Value.map (some a5)]) (a9) A121 rfl rfl rfl (WL_run rfl (Zf rfl (Zx ai)) rfl (Exec.load_box_agg (ds := [Value.string (a.Name), Vi (a.Cost), q, t, u, l, x]) ((a9).f3) A63 rfl a2 rfl (WL_run rfl (Zf rfl (Zx ai)) rfl (Zm (v := Vi (aN)) rfl rfl ?_)))))
       obtain ⟨fd, eE, aq⟩ := Zg aq
       refine WL_run rfl (Zf rfl (Zx ai)) rfl (Tc rfl rfl rfl (Zi rfl (Zi rfl (Zi rfl args_nil))) (invariant_literals_deletes_o_sim eE ((a9).f2).f2 (bo.mono (Zt (Zt (Zt (Zt (Zt o p) d) j) aa) ar)) (bp.mono (Zt (Zt (Zt (Zt (Zt o p) d) j) aa) ar)) (bq.mono (Zt (Zt (Zt (Zt (Zt o p) d) j) aa) ar)) (aw.mono (Zt (Zt (Zt (Zt (Zt o p) d) j) aa) ar)) (br.mono (Zt (Zt (Zt (Zt (Zt o p) d) j) aa) ar))).r ?_)
       rintro _ gM ⟨eO, d2, da, rfl⟩
       refine WL_run rfl (Zf rfl (Zx ai)) rfl (Exec.not rfl rfl (Za rfl rfl (Zs (v := Value.bool (!fd)) rfl (Zx ai) rfl (Zb (Ze ?_)))))
       have fr := Zu aq
       subst a8
       exact ⟨eO, d2, (((((da).drop).drop).drop).f1).f1, aE, a2, bb, a3, bc, bd, be, aF, aG, a6, rfl⟩
      replace ai := Zk ai
      refine WL_passes 6 (by rw [ai]; rfl) ?_
      refine Zb (Ze ?_)
      have fs := Zu aq
      subst a8
      exact ⟨ck, (Zv _), (((((a9).drop).drop).drop).f1).f1, aE, a2, bb, a3, bc, bd, be, aF, aG, a6, rfl⟩
     intro fB gN cE
     obtain ⟨cm, bA, b5, dY, dZ, ea, eb, ec, ed, ee, ef, eg, eh, bQ⟩ := cE
     refine (Ze ?_)
     rcases ite_some n with ⟨a0, n⟩ | ⟨a0, n⟩
     ·refine W_cond_t bQ a0 (Zc (Zd (Za rfl rfl (Zo (v := Value.bool (false)) rfl rfl (Zb (Ze (W_ret (ib_ret (at_ret (at_ret (ib_ret (at_ret (ib_ret (at_ret (at_ret (ib_ret (at_ret (at_ret ?_))))))))))))))))))
      have ft := Zu n
      subst aP
      have dn := dr _ (dv (by intro _ h; cases h))
      have fu := Zu dn
      subst bv
      have dp := dq _ (dt (by intro _ h; cases h))
      have fv := Zu dp
      subst r
      refine ⟨_, ret1 rfl, ?_⟩
      exact ⟨cm, (Zt (Zt (Zt (Zt (Zt (Zt o p) d) j) aa) ar) bA), ((b5).drop).drop, rfl⟩
     refine W_cond_f bQ a0 ?_
     replace a0 := Zk a0
     refine W_skip (ib_normal (Ze (Zd (Za rfl rfl (Exec.add rfl eh rfl (Za rfl rfl (Zm (v := Vi (IntKind.i64.wrap ((aV : Int) + 1))) rfl rfl (Zb (Ze ?_)))))))))
     have fw := Zu n
     subst aP
     refine ⟨_, rfl, ?_⟩; exact ⟨cm, (Zt (Zt (Zt j aa) ar) bA), ((b5).f1).f1, dY, dZ, ea, eb, ec, ed, ee, ef, eg, (Eq.trans rfl (wrap_up b9 (SliceRep.le (au.mono (Zt (Zt o p) d)))))⟩
    intro gs fC gO c9 dw
    obtain ⟨eP, d3, db, ei, ej, ek, el, em, en, eo, ep, bR, fa⟩ := c9
    refine Zc (Zd (Za rfl rfl (Zq rfl fa bR (Zb (Ze (Zc (W_false (Zx (decide_eq_false (by omega))) (W_exit (at_exit (at_exit (ib_here (Ze ?_))))))))))))
    refine ⟨_, .inl dw, ?_⟩; exact ⟨eP, d3, ((db).f1).f1, ei, ej, ek, el, em, en, eo, ep, bR⟩
   rintro fD gP ⟨gu, b7, cF⟩
   have ae := b7.elim (dm _) (dh _)
   clear b7
   obtain ⟨eQ, aX, dc, er, et, eu, gc, ev, ew, ex, gd, gf⟩ := cF
   refine (ib_normal (Ze (Zd (Za rfl rfl (Exec.add rfl ex rfl (Za rfl rfl (Zm (v := Vi (IntKind.i64.wrap ((am : Int) + 1))) rfl rfl (Zb (Ze ?_)))))))))
   have fx := Zu ae
   subst bv
   refine ⟨_, rfl, ?_⟩; exact ⟨eQ, ac, ag, (Zt (Zt p d) aX), ((dc).f1).drop, er, et, eu, ev, ew, (Eq.trans rfl (wrap_up dj ((aS).f1).arr_le)), (aA.mono (Zt d aX)), (aB.mono (Zt d aX))⟩
  intro eW fE gQ cA dx
  obtain ⟨aO, bn⟩ := eW
  obtain ⟨eR, ac, ag, d4, dd, ey, ez, e0, e1, bS, fb, aA, aB⟩ := cA
  refine Zc (Zd (Za rfl rfl (Zq rfl fb bS (Zb (Ze (Zc (W_false (Zx (decide_eq_false (by omega))) (W_exit (at_exit (at_exit (ib_here (Ze ?_))))))))))))
  refine ⟨_, .inl dx, ?_⟩; exact ⟨eR, ac, ag, d4, dd, ey, ez, e0, e1, bS, aA, aB⟩
 rintro fF gR ⟨eX, b8, cG⟩
 have hm := b8.elim (dk _) (df _)
 clear b8
 obtain ⟨bs, cu⟩ := eX
 replace hm := un2_eq hm
 obtain ⟨eS, bj, bk, d5, de, gg, gh, gi, gj, gk, fJ, fK⟩ := cG
 refine (Ze (Zc (Zd (Za rfl rfl (Zo (v := Value.bool (true)) rfl rfl (Zb (Ze (W_ret ?_))))))))
 have fy := Zu hm
 subst r
 refine ⟨_, ret1 rfl, ?_⟩
 exact ⟨eS, (Zt o d5), (de).drop, rfl⟩
theorem invariant_balanced_sim {w0 w : World} {s : PHeap} {H : List Res} {n : Ground} {ag : (List Int)} {ac : Value} {ad : Value} {o : Value} {ae : Value} {p : Value} {b : Value} {r : Bool} (hm : invariant_balanced_p n ag = some r) (hS : St w0 s (H) w) (aY : SliceRep encAtom s ac n.Atoms) (bZ : SliceRep encGFluent s ad n.Fluents) (a2 : SliceRep (encInt .i64) s o n.Init) (ca : SliceRep encCond s ae n.Goal) (au : SliceRep encGOp s p n.Ops) (aa : SliceRep (encInt .i64) s b ag) :
  Calls Tryz.prog 23 #[Value.agg #[ac, ad, o, ae, p], b] w fun e w' => ∃ v, e = .returned v ∧ ((fun (bY : Bool) => ∃ (aQ : PHeap) , PHeap.le s aQ ∧ St w0 aQ (H) w' ∧ v = Value.bool (bY)) r) := by
 unfold invariant_balanced_p at hm
 refine calls_of_W Tryz.func23 rfl rfl (Zc (Zd (Za rfl rfl (Exec.box (cs := [ac, ad, o, ae, p]) hS rfl rfl rfl ?_))))
 intro ab cI bm
 refine Za rfl rfl (Zo (v := Value.bool (false)) rfl rfl (Zb (Ze (Zc (Zc (Zd (Za rfl rfl (Zm (v := b) rfl rfl (Za rfl rfl (Zr S24 rfl rfl aa (Za rfl rfl (Zm (v := Vi (0)) rfl rfl (Zb (Ze ?_))))))))))))))
 obtain ⟨a3, bd, cx, bx, bt⟩ := ctl_some hm
 refine W_mid (M := fun f' w' => ∃ s', (a3 = .next s' ∨ a3 = .brk s') ∧ (fun (_ : Unit) => ∃ (aR : PHeap) , PHeap.le s aR ∧ St w0 aR (Res.box ab 28 [ac, ad, o, ae, p] :: H) w' ∧ f' 1 = b ∧ f' 2 = Value.pointer (some ⟨ab, 0, none⟩) ∧ f' 9 = b ∧ f' 10 = Vi ((ag.length : Int))) s') ?_ ?_
 ·refine W_block (W_forC (fun k' s' f' w' => (fun (_ : Unit) => ∃ (aS : PHeap) , PHeap.le s aS ∧ St w0 aS (Res.box ab 28 [ac, ad, o, ae, p] :: H) w' ∧ f' 1 = b ∧ f' 2 = Value.pointer (some ⟨ab, 0, none⟩) ∧ f' 9 = b ∧ f' 10 = Vi ((ag.length : Int)) ∧ f' 11 = Vi (k' : Int)) s') bd ?_ ?_ ?_)
  ·exact ⟨s, (Zv _), bm, rfl, rfl, rfl, rfl, rfl⟩
  ·intro t c9 bc cp cJ bv bf l cy
   obtain ⟨ao, ap, q, ak, al, am, an, x⟩ := bf
   refine Zc (Zd (Za rfl rfl (Zq rfl x an (Zb (Ze (Zc (W_true (Zx (decide_eq_true (by omega))) (W_skip (Ze (Zc (W_block (Zc (Zd (Za rfl rfl (Zm (v := Vi ((t : Int))) rfl x ?_)))))))))))))))
   obtain ⟨y, bK, l⟩ := Zg l
   refine Za rfl rfl (Exec.index_rep S24 rfl am x (aa.mono ap) bK ?_)
   intro cb cz aZ
   refine Za rfl rfl (Zw (E := (encInt .i64)) q A3 rfl rfl rfl aZ ?_)
   intro cF bL
   obtain rfl := encInt_val.1 bL
   refine Za rfl rfl (Zo (v := Vi ((t : Int))) rfl rfl (Za rfl rfl (Zo (v := Vi (y)) rfl rfl (Zb (Ze (Zc ?_))))))
   obtain ⟨z, a, l⟩ := Zg l
   refine W_mid (M := fun f' w' => (fun (z : Bool) => ∃ (aT : PHeap) , PHeap.le ao aT ∧ St w0 aT (Res.box ab 28 [ac, ad, o, ae, p] :: H) w' ∧ f' 1 = b ∧ f' 2 = Value.pointer (some ⟨ab, 0, none⟩) ∧ f' 9 = b ∧ f' 10 = Vi ((ag.length : Int)) ∧ f' 11 = Vi ((t : Int)) ∧ f' 37 = Value.bool (z)) z) ?_ ?_
   ·refine Zd (Za rfl rfl (Zm (v := Vi (y)) rfl rfl (Za rfl rfl (Zq rfl rfl rfl (Za rfl rfl (Zm (v := Value.bool (decide (y < 0))) rfl rfl ?_))))))
    rcases ite_some a with ⟨i, a⟩ | ⟨i, a⟩
    ·refine WL_passes 19 (by rw [i]; rfl) ?_
     refine Zb (Ze ?_)
     have cf := Zu a
     subst z
     exact ⟨ao, (Zv _), q, ak, al, am, an, x, rfl⟩
    replace i := Zk i
    refine WL_run rfl (Zf rfl (Zx i)) rfl (Zm (v := Vi (y)) rfl rfl (WL_run rfl (Zf rfl (Zx i)) rfl (Zp F28_0 rfl al rfl (WL_run rfl (Zf rfl (Zx i)) rfl (Zn (q) A22 rfl rfl rfl (WL_run rfl (Zf rfl (Zx i)) rfl (Zr S22 rfl rfl (aY.mono ap) (WL_run rfl (Zf rfl (Zx i)) rfl (Exec.geq rfl rfl rfl ?_)))))))))
    refine WL_passes 2 (by rw [i]; rfl) ?_
    rcases ite_some a with ⟨g, a⟩ | ⟨g, a⟩
    ·refine WL_passes 12 (by rw [g]; rfl) ?_
     refine Zb (Ze ?_)
     have cg := Zu a
     subst z
     exact ⟨ao, (Zv _), q, ak, al, am, an, x, rfl⟩
    replace g := Zk g
    refine WL_run rfl (Zf rfl (Zx g)) rfl (Zm (v := Vi ((t : Int))) rfl rfl (WL_run rfl (Zf rfl (Zx g)) rfl (Exec.gtr rfl rfl rfl (WL_run rfl (Zf rfl (Zx g)) rfl (Zm (v := Value.bool (decide (0 < (t : Int)))) rfl rfl ?_)))))
    rcases ite_some a with ⟨d, a⟩ | ⟨d, a⟩
    ·refine WL_run rfl (Zf rfl (Zx d)) rfl (Zm (v := b) rfl ak (WL_run rfl (Zf rfl (Zx d)) rfl (Zm (v := Vi ((t : Int))) rfl rfl (WL_run rfl (Zf rfl (Zx d)) rfl (Exec.sub rfl rfl rfl ?_)))))
     obtain ⟨aX, bM, a⟩ := Zg a
     refine WL_run rfl (Zf rfl (Zx d)) rfl (Exec.index_rep S24 rfl rfl rfl (aa.mono ap) bM ?_)
     intro cc c0 ba
     refine WL_run rfl (Zf rfl (Zx d)) rfl (Zw (E := (encInt .i64)) q A3 rfl rfl rfl ba ?_)
     intro cG bN
     obtain rfl := encInt_val.1 bN
     refine WL_run rfl (Zf rfl (Zx d)) rfl (Zm (v := Vi (y)) rfl rfl (WL_run rfl (Zf rfl (Zx d)) rfl (Exec.geq rfl rfl rfl (WL_run rfl (Zf rfl (Zx g)) rfl (Zs (v := Value.bool (decide (y ≤ aX))) rfl (Zx d) rfl (Za rfl rfl (Exec.pick_f (v := Value.bool (decide (y ≤ aX))) rfl (Zx g) rfl (Zb (Ze ?_)))))))))
     have ch := Zu a
     subst z
     exact ⟨ao, (Zv _), q, ak, al, am, an, x, rfl⟩
    replace d := Zk d
    refine WL_passes 7 (by rw [d]; rfl) ?_
    refine WL_run rfl (Zf rfl (Zx g)) rfl (Exec.pick_f (v := Value.bool (false)) rfl rfl rfl (Za rfl rfl (Exec.pick_f (v := Value.bool (false)) rfl (Zx g) rfl (Zb (Ze ?_)))))
    have ci := Zu a
    subst z
    exact ⟨ao, (Zv _), q, ak, al, am, an, x, rfl⟩
   intro cq cK bj
   obtain ⟨bS, b6, bn, bA, bB, bC, bD, bE, aD⟩ := bj
   refine (Ze ?_)
   rcases ite_some l with ⟨ah, l⟩ | ⟨ah, l⟩
   ·refine W_cond_t aD ah (Zc ?_)
    cases l
   refine W_cond_f aD ah ?_
   replace ah := Zk ah
   refine W_skip (ib_normal (Ze (Zd (Za rfl rfl (Exec.add rfl bE rfl (Za rfl rfl (Zm (v := Vi (IntKind.i64.wrap ((t : Int) + 1))) rfl rfl (Zb (Ze ?_)))))))))
   have cj := Zu l
   subst bc
   refine ⟨_, rfl, ?_⟩; exact ⟨bS, (Zt ap b6), bn, bA, bB, bC, bD, (Eq.trans rfl (wrap_up bv (SliceRep.le aa)))⟩
  intro cA cr cL bg b2
  obtain ⟨bT, b7, bo, bF, bG, bH, aE, bW⟩ := bg
  refine Zc (Zd (Za rfl rfl (Zq rfl bW aE (Zb (Ze (Zc (W_false (Zx (decide_eq_false (by omega))) (W_exit (at_exit (at_exit (ib_here (Ze ?_))))))))))))
  refine ⟨_, .inl b2, ?_⟩; exact ⟨bT, b7, bo, bF, bG, bH, aE⟩
 rintro ct cM ⟨cB, aA, bk⟩
 have hm := aA.elim (bx _) (bt _)
 clear aA
 obtain ⟨c7, j, a6, aF, aG, c2, c3⟩ := bk
 refine (Ze (Zc (Zc (Zd (Za rfl rfl (Zp F28_2 rfl aG rfl (Za rfl rfl (Zn (a6) A24 rfl rfl rfl (Za rfl rfl (Exec.build rfl (parts_cons (c := [o]) (cells_of rfl (cells_one ((a2.mono j)).one)) parts_nil) (v := Value.agg #[o, Value.slice none 0 0]) (fun _ => by kernel_rfl) (Za rfl rfl (Zm (v := b) rfl aF ?_))))))))))))
 obtain ⟨cU, bO, hm⟩ := Zg hm
 refine Za rfl rfl (Tc rfl rfl rfl (Zi rfl (Zi rfl args_nil)) (invariant_Holds_sim bO a6 (a2.mono j) (SliceRep.nil _ _) (aa.mono j)).r ?_)
 rintro _ cN ⟨ar, u, av, rfl⟩
 refine Za rfl rfl (Exec.not rfl rfl (Zb (Ze ?_)))
 rcases ite_some hm with ⟨ai, hm⟩ | ⟨ai, hm⟩
 ·refine W_cond_t rfl ai (Zc (Zd (Za rfl rfl (Zo (v := Value.bool (false)) rfl rfl (Zb (Ze (W_ret (at_ret ?_))))))))
  have ck := Zu hm
  subst r
  refine ⟨_, ret1 rfl, ?_⟩
  exact ⟨ar, (Zt j u), (av).drop, rfl⟩
 refine W_cond_f rfl ai ?_
 replace ai := Zk ai
 refine W_skip (Ze (Zc (Zc (Zd (Za rfl rfl (Zp F28_4 rfl aG rfl (Za rfl rfl (Zn (av) A26 rfl rfl rfl (Za rfl rfl (Zr S26 rfl rfl (au.mono (Zt j u)) (Za rfl rfl (Zm (v := Vi (0)) rfl rfl (Zb (Ze ?_))))))))))))))
 obtain ⟨a4, be, b1, bz, bu⟩ := ctl_some hm
 refine W_mid (M := fun f' w' => ∃ s', (a4 = .next s' ∨ a4 = .brk s') ∧ (fun (_ : Unit) => ∃ (aU : PHeap) , PHeap.le ar aU ∧ St w0 aU (H) w' ∧ f' 1 = b ∧ f' 46 = p ∧ f' 47 = Vi ((n.Ops.length : Int))) s') ?_ ?_
 ·refine W_block (W_forC (fun k' s' f' w' => (fun (_ : Unit) => ∃ (aV : PHeap) , PHeap.le ar aV ∧ St w0 aV (H) w' ∧ f' 1 = b ∧ f' 46 = p ∧ f' 47 = Vi ((n.Ops.length : Int)) ∧ f' 48 = Vi (k' : Int)) s') be ?_ ?_ ?_)
  ·have bp := (av).drop
   exact ⟨ar, (Zv _), bp, aF, rfl, rfl, rfl⟩
  ·intro b5 cC a5 cu cO bw bh m b3
   obtain ⟨c8, aq, a7, aH, aI, aJ, a1⟩ := bh
   refine Zc (Zd (Za rfl rfl (Zq rfl a1 aJ (Zb (Ze (Zc (W_true (Zx (decide_eq_true (by omega))) (W_skip (Ze (Zc (W_block (Zc (Zd ?_)))))))))))))
   obtain ⟨af, bP, m⟩ := Zg m
   refine Za rfl rfl (Exec.index_rep S26 rfl aI a1 (au.mono (Zt (Zt j u) aq)) bP ?_)
   intro cd c1 bb
   refine Za rfl rfl (Zw (E := encGOp) a7 A63 rfl rfl rfl bb ?_)
   intro cH bQ
   obtain ⟨aw, ax, ay, az, a0, rfl, aL, aM, aN, aO, aP⟩ := encGOp_val.1 bQ
   refine Za rfl rfl (Exec.alloc (cs := [Value.string (⟨#[]⟩), Vi (0), Value.slice none 0 0, Value.slice none 0 0, Value.slice none 0 0, Value.slice none 0 0, Value.slice none 0 0]) a7 Z63 rfl rfl ?_)
   intro ce cP bq
   refine Za rfl rfl (Exec.store_box (ds := [Value.string (af.Name), Vi (af.Cost), aw, ax, ay, az, a0]) (es := [Value.string (af.Name), Vi (af.Cost), aw, ax, ay, az, a0]) bq A63 rfl rfl rfl rfl (Zj rfl (Zj rfl (Zj (aL).one (Zj (aM).one (Zj (aN).one (Zj (aO).one (Zj (aP).one one_nil))))))) (Nat.le_of_ble_eq_true rfl) rfl ?_)
   intro cQ a8
   refine Zb (Ze (Zc (Zd (Za rfl rfl (Exec.load_box_agg (ds := [Value.string (af.Name), Vi (af.Cost), aw, ax, ay, az, a0]) (a8) A63 rfl rfl rfl (Za rfl rfl (Zm (v := b) rfl aH ?_)))))))
   obtain ⟨cV, bR, m⟩ := Zg m
   refine Za rfl rfl (Tc rfl rfl rfl (Zi rfl (Zi rfl args_nil)) (invariant_keeps_sim bR a8 aL aM aN aO aP (aa.mono (Zt (Zt j u) aq))).r ?_)
   rintro _ cR ⟨aW, aC, a9, rfl⟩
   refine Za rfl rfl (Exec.not rfl rfl (Zb (Ze ?_)))
   rcases ite_some m with ⟨aj, m⟩ | ⟨aj, m⟩
   ·refine W_cond_t rfl aj (Zc (Zd (Za rfl rfl (Zo (v := Value.bool (false)) rfl rfl (Zb (Ze (W_ret (ib_ret (at_ret (at_ret (ib_ret (at_ret (at_ret ?_)))))))))))))
    have cl := Zu m
    subst a5
    have b0 := b1 _ (b3 (by intro _ h; cases h))
    have cm := Zu b0
    subst r
    refine ⟨_, ret1 rfl, ?_⟩
    exact ⟨aW, (Zt (Zt (Zt j u) aq) aC), (a9).drop, rfl⟩
   refine W_cond_f rfl aj ?_
   replace aj := Zk aj
   refine W_skip (ib_normal (Ze (Zd (Za rfl rfl (Exec.add rfl a1 rfl (Za rfl rfl (Zm (v := Vi (IntKind.i64.wrap ((b5 : Int) + 1))) rfl rfl (Zb (Ze ?_)))))))))
   have cn := Zu m
   subst a5
   refine ⟨_, rfl, ?_⟩; exact ⟨aW, (Zt aq aC), (a9).drop, aH, aI, aJ, (Eq.trans rfl (wrap_up bw (SliceRep.le (au.mono (Zt j u)))))⟩
  intro cD cv cS bi b4
  obtain ⟨bU, b8, br, bI, bJ, aK, bX⟩ := bi
  refine Zc (Zd (Za rfl rfl (Zq rfl bX aK (Zb (Ze (Zc (W_false (Zx (decide_eq_false (by omega))) (W_exit (at_exit (at_exit (ib_here (Ze ?_))))))))))))
  refine ⟨_, .inl b4, ?_⟩; exact ⟨bU, b8, br, bI, bJ, aK⟩
 rintro cw cT ⟨cE, aB, bl⟩
 have hm := aB.elim (bz _) (bu _)
 clear aB
 obtain ⟨bV, b9, bs, c4, c5, c6⟩ := bl
 refine (Ze (Zc (Zd (Za rfl rfl (Zo (v := Value.bool (true)) rfl rfl (Zb (Ze (W_ret ?_))))))))
 have co := Zu hm
 subst r
 refine ⟨_, ret1 rfl, ?_⟩
 exact ⟨bV, (Zt (Zt j u) b9), bs, rfl⟩
theorem invariant_inside_sim {w0 w : World} {s : PHeap} {H : List Res} {i : (List Int)} {q : (List Int)} {b : Value} {c : Value} {r : Bool} (hm : invariant_inside_p i q = some r) (hS : St w0 s (H) w) (j : SliceRep (encInt .i64) s b i) (p : SliceRep (encInt .i64) s c q) :
  Calls Tryz.prog 28 #[b, c] w fun e w' => ∃ v, e = .returned v ∧ ((fun (aC : Bool) => ∃ (af : PHeap) , PHeap.le s af ∧ St w0 af (H) w' ∧ v = Value.bool (aC)) r) := by
 unfold invariant_inside_p at hm
 refine calls_of_W Tryz.func28 rfl rfl (Zc (Zd (Za rfl rfl (Zo (v := Value.bool (false)) rfl rfl (Zb (Ze (Zc (Zc (Zd (Za rfl rfl (Zm (v := b) rfl rfl (Za rfl rfl (Zr S24 rfl rfl j (Za rfl rfl (Zm (v := c) rfl rfl (Za rfl rfl (Zr S24 rfl rfl p (Za rfl rfl (Exec.gtr rfl rfl rfl (Zb (Ze ?_)))))))))))))))))))))
 rcases ite_some hm with ⟨d, hm⟩ | ⟨d, hm⟩
 ·refine W_cond_t rfl d (Zc (Zd (Za rfl rfl (Zo (v := Value.bool (false)) rfl rfl (Zb (Ze (W_ret (at_ret ?_))))))))
  have aE := Zu hm
  subst r
  refine ⟨_, ret1 rfl, ?_⟩
  exact ⟨s, (Zv _), hS, rfl⟩
 refine W_cond_f rfl d ?_
 replace d := Zk d
 refine W_skip (Ze (Zc (Zc (Zd (Za rfl rfl (Zm (v := b) rfl rfl (Za rfl rfl (Zr S24 rfl rfl j (Za rfl rfl (Zm (v := Vi (0)) rfl rfl (Zb (Ze ?_))))))))))))
 obtain ⟨t, al, ax, av, ar⟩ := ctl_some hm
 refine W_mid (M := fun f' w' => ∃ s', (t = .next s' ∨ t = .brk s') ∧ (fun (_ : Unit) => ∃ (ag : PHeap) , PHeap.le s ag ∧ St w0 ag (H) w' ∧ f' 1 = c ∧ f' 14 = b ∧ f' 15 = Vi ((i.length : Int))) s') ?_ ?_
 ·refine W_block (W_forC (fun k' s' f' w' => (fun (_ : Unit) => ∃ (ah : PHeap) , PHeap.le s ah ∧ St w0 ah (H) w' ∧ f' 1 = c ∧ f' 14 = b ∧ f' 15 = Vi ((i.length : Int)) ∧ f' 16 = Vi (k' : Int)) s') al ?_ ?_ ?_)
  ·exact ⟨s, (Zv _), hS, rfl, rfl, rfl, rfl⟩
  ·intro a0 aR u aJ aV au am a ay
   obtain ⟨aQ, l, x, ab, ac, ad, n⟩ := am
   refine Zc (Zd (Za rfl rfl (Zq rfl n ad (Zb (Ze (Zc (W_true (Zx (decide_eq_true (by omega))) (W_skip (Ze (Zc (W_block (Zc (Zd ?_)))))))))))))
   obtain ⟨aj, a5, a⟩ := Zg a
   refine Za rfl rfl (Exec.index_rep S24 rfl ac n (j.mono l) a5 ?_)
   intro aD aM ak
   refine Za rfl rfl (Zw (E := (encInt .i64)) x A3 rfl rfl rfl ak ?_)
   intro aU a6
   obtain rfl := encInt_val.1 a6
   refine Za rfl rfl (Zo (v := Vi (aj)) rfl rfl (Zb (Ze (Zc (Zd (Za rfl rfl (Zm (v := c) rfl ab (Za rfl rfl (Zm (v := Vi (aj)) rfl rfl ?_)))))))))
   obtain ⟨aA, a7, a⟩ := Zg a
   obtain ⟨o, m⟩ := aA
   replace a := un2_eq a
   refine Za rfl rfl (Tc rfl rfl rfl (Zi rfl (Zi rfl args_nil)) (slices_BinarySearch_int_sim a7 x (p.mono l)).r ?_)
   rintro _ aW ⟨ai, aa, y, rfl⟩
   refine Za rfl rfl (Zm (v := Value.tuple #[Vi (o), Value.bool (m)]) rfl rfl (Za rfl rfl (Exec.extract (v := Vi (o)) rfl rfl rfl (Za rfl rfl (Exec.extract (v := Value.bool (m)) rfl rfl rfl (Za rfl rfl (Zo (v := Vi (o)) rfl rfl (Za rfl rfl (Zo (v := Value.bool (m)) rfl rfl (Zb (Ze (Zc (Zd (Za rfl rfl (Zm (v := Value.bool (m)) rfl rfl (Za rfl rfl (Exec.not rfl rfl (Zb (Ze ?_)))))))))))))))))))
   rcases ite_some a with ⟨g, a⟩ | ⟨g, a⟩
   ·refine W_cond_t rfl g (Zc (Zd (Za rfl rfl (Zo (v := Value.bool (false)) rfl rfl (Zb (Ze (W_ret (ib_ret (at_ret (at_ret (ib_ret (at_ret (at_ret ?_)))))))))))))
    have aF := Zu a
    subst u
    have aw := ax _ (ay (by intro _ h; cases h))
    have aG := Zu aw
    subst r
    refine ⟨_, ret1 rfl, ?_⟩
    exact ⟨ai, (Zt l aa), y, rfl⟩
   refine W_cond_f rfl g ?_
   replace g := Zk g
   refine W_skip (ib_normal (Ze (Zd (Za rfl rfl (Exec.add rfl n rfl (Za rfl rfl (Zm (v := Vi (IntKind.i64.wrap ((a0 : Int) + 1))) rfl rfl (Zb (Ze ?_)))))))))
   have aH := Zu a
   subst u
   refine ⟨_, rfl, ?_⟩; exact ⟨ai, (Zt l aa), y, ab, ac, ad, (Eq.trans rfl (wrap_up au (SliceRep.le j)))⟩
  intro aS aK aX an az
  obtain ⟨a8, a1, ap, a3, a4, ae, aB⟩ := an
  refine Zc (Zd (Za rfl rfl (Zq rfl aB ae (Zb (Ze (Zc (W_false (Zx (decide_eq_false (by omega))) (W_exit (at_exit (at_exit (ib_here (Ze ?_))))))))))))
  refine ⟨_, .inl az, ?_⟩; exact ⟨a8, a1, ap, a3, a4, ae⟩
 rintro aL aY ⟨aT, z, ao⟩
 have hm := z.elim (av _) (ar _)
 clear z
 obtain ⟨a9, a2, aq, aN, aO, aP⟩ := ao
 refine (Ze (Zc (Zd (Za rfl rfl (Zo (v := Value.bool (true)) rfl rfl (Zb (Ze (W_ret ?_))))))))
 have aI := Zu hm
 subst r
 refine ⟨_, ret1 rfl, ?_⟩
 exact ⟨a9, a2, aq, rfl⟩
theorem invariant_Groups_sim {w0 w : World} {s : PHeap} {H : List Res} {fu : Nat} {ag : Ground} {m : Value} {n : Value} {o : Value} {p : Value} {q : Value} {r : (List (List Int)) × (Option Int)} (hm : invariant_Groups_p fu ag = some r) (hS : St w0 s (H) w) (a9 : SliceRep encAtom s m ag.Atoms) (aA : SliceRep encGFluent s n ag.Fluents) (aB : SliceRep (encInt .i64) s o ag.Init) (aC : SliceRep encCond s p ag.Goal) (aD : SliceRep encGOp s q ag.Ops) (ht : TabQ Tryz.prog s) :
  Calls Tryz.prog 14 #[Value.agg #[m, n, o, p, q]] w fun e w' => ∃ v, e = .returned v ∧ ((un2 fun (dx : (List (List Int))) (dy : (Option Int)) => ∃ (aR : PHeap) (bA : Value), PHeap.le s aR ∧ St w0 aR (H) w' ∧ v = Value.tuple #[bA, errV 45 (dy)] ∧ SliceRep (encSlice (encInt .i64)) aR bA dx) r) := by
 unfold invariant_Groups_p at hm
 refine calls_of_W Tryz.func14 rfl rfl (Zc (Zd (Za rfl rfl (Exec.box (cs := [m, n, o, p, q]) hS rfl rfl rfl ?_))))
 intro ad ei ba
 refine Za rfl rfl (Zo (v := Value.slice none 0 0) rfl rfl (Za rfl rfl (Zo (v := errV 45 (none)) rfl rfl (Zb (Ze (Zc (Zc (Zd (Za rfl rfl (Exec.load_box_agg (ds := [m, n, o, p, q]) (ba) A28 rfl rfl rfl ?_))))))))))
 obtain ⟨e3, cS, hm⟩ := Zg hm
 refine Za rfl rfl (Tc rfl rfl rfl (Zi rfl args_nil) (ground_Valid_sim cS ba a9 aA aB aC aD).r ?_)
 rintro _ ej ⟨df, d, aE, rfl⟩
 refine Za rfl rfl (Exec.not rfl rfl (Zb (Ze ?_)))
 rcases ite_some hm with ⟨am, hm⟩ | ⟨am, hm⟩
 ·refine W_cond_t rfl am (Zc (Zd (Za rfl rfl (Exec.makeInterface C45 rfl rfl (Za rfl rfl (Zo (v := Value.slice none 0 0) rfl rfl (Za rfl rfl (Zo (v := errV 45 (some 2)) rfl rfl (Zb (Ze (W_ret (at_ret ?_))))))))))))
  have d7 := Zu hm
  subst r
  refine ⟨_, ret2 rfl, ?_⟩
  exact ⟨df, (Value.slice none 0 0), d, (aE).drop, (tup2 rfl rfl), (SliceRep.nil _ _)⟩
 refine W_cond_f rfl am ?_
 replace am := Zk am
 refine W_skip (Ze (Zc (Zd (Za rfl rfl (Zo (v := Value.slice none 0 0) rfl rfl (Zb (Ze (Zc (Zc (Zd (Za rfl rfl (Exec.load_box_agg (ds := [m, n, o, p, q]) (aE) A28 rfl rfl rfl ?_))))))))))))
 obtain ⟨aX, cT, hm⟩ := Zg hm
 refine Za rfl rfl (Tc rfl rfl rfl (Zi rfl args_nil) (invariant_candidates_sim cT aE (a9.mono d) (aA.mono d) (aB.mono d) (aC.mono d) (aD.mono d) (ht.mono d)).r ?_)
 rintro aU ek ⟨bx, _, ai, bS, rfl, aQ⟩
 refine Za rfl rfl (Zr S36 rfl rfl aQ (Za rfl rfl (Zm (v := Vi (0)) rfl rfl (Zb (Ze ?_)))))
 obtain ⟨b, bF, hm⟩ := Zg hm
 refine W_block (W_forS (fun k' s' f' w' => (fun (b : (List (List Int))) => ∃ (bz : PHeap) (a : Value), PHeap.le bx bz ∧ St w0 bz (Res.box ad 28 [m, n, o, p, q] :: Res.arr (encSlice (encInt .i64)) 24 a b :: H) w' ∧ f' 1 = Value.pointer (some ⟨ad, 0, none⟩) ∧ f' 4 = a ∧ f' 18 = aU ∧ f' 19 = Vi ((aX.length : Int)) ∧ f' 20 = Vi (k' : Int)) s') bF ?_ ?_ ?_)
 ·have bT := bS.nilArr (encSlice (encInt .i64)) 24
  exact ⟨bx, (Value.slice none 0 0), (Zv _), (bT).f1, rfl, rfl, rfl, rfl, rfl⟩
 ·intro aG b dg dL el cj bI y
  obtain ⟨b0, a, ac, ax, aI, bf, aJ, aK, a7⟩ := bI
  refine Zc (Zd (Za rfl rfl (Zq rfl a7 aK (Zb (Ze (Zc (W_true (Zx (decide_eq_true (by omega))) (W_skip (Ze (Zc (W_block (Zc (Zd ?_)))))))))))))
  obtain ⟨aW, cU, y⟩ := Zg y
  refine Za rfl rfl (Exec.index_rep S36 rfl aJ a7 (aQ.mono ac) cU ?_)
  intro d2 dZ bE
  refine Za rfl rfl (Zw (E := (encSlice (encInt .i64))) ax A24 rfl rfl rfl bE ?_)
  intro x cV
  have a4 : SliceRep _ _ _ (aW) := encSlice_val.1 cV
  refine Za rfl rfl (Zo (v := x) rfl rfl (Zb (Ze (Zc ?_))))
  obtain ⟨aw, aa, y⟩ := Zg y
  refine W_mid (M := fun f' w' => (fun (aw : Bool) => ∃ (b1 : PHeap) , PHeap.le b0 b1 ∧ St w0 b1 (Res.box ad 28 [m, n, o, p, q] :: Res.arr (encSlice (encInt .i64)) 24 a b :: H) w' ∧ f' 1 = Value.pointer (some ⟨ad, 0, none⟩) ∧ f' 4 = a ∧ f' 6 = x ∧ f' 18 = aU ∧ f' 19 = Vi ((aX.length : Int)) ∧ f' 20 = Vi ((aG : Int)) ∧ f' 31 = Value.bool (aw)) aw) ?_ ?_
  ·refine Zd (Za rfl rfl (Zm (v := x) rfl rfl (Za rfl rfl (Zr S24 rfl rfl a4 (Za rfl rfl (Exec.geq rfl rfl rfl (Za rfl rfl (Zm (v := Value.bool (decide (2 ≤ (aW.length : Int)))) rfl rfl ?_))))))))
   rcases ite_some aa with ⟨t, aa⟩ | ⟨t, aa⟩
   ·refine WL_run rfl (Zf rfl (Zx t)) rfl (Exec.load_box_agg (ds := [m, n, o, p, q]) (ax) A28 rfl aI rfl (WL_run rfl (Zf rfl (Zx t)) rfl (Zm (v := x) rfl rfl ?_)))
    obtain ⟨dz, cW, aa⟩ := Zg aa
    refine WL_run rfl (Zf rfl (Zx t)) rfl (Tc rfl rfl rfl (Zi rfl (Zi rfl args_nil)) (invariant_balanced_sim cW ax (a9.mono (Zt (Zt d ai) ac)) (aA.mono (Zt (Zt d ai) ac)) (aB.mono (Zt (Zt d ai) ac)) (aC.mono (Zt (Zt d ai) ac)) (aD.mono (Zt (Zt d ai) ac)) a4).r ?_)
    rintro _ em ⟨dh, cm, bU, rfl⟩
    refine Za rfl rfl (Zs (v := Value.bool (dz)) rfl (Zx t) rfl (Zb (Ze ?_)))
    have d8 := Zu aa
    subst aw
    exact ⟨dh, cm, ((bU).f1).f1, aI, bf, rfl, aJ, aK, a7, rfl⟩
   replace t := Zk t
   refine WL_passes 4 (by rw [t]; rfl) ?_
   refine Zb (Ze ?_)
   have d9 := Zu aa
   subst aw
   exact ⟨b0, (Zv _), ((ax).f1).f1, aI, bf, rfl, aJ, aK, a7, rfl⟩
  intro dM en bO
  obtain ⟨aS, aH, bb, bg, bh, cy, bi, bj, bk, bl⟩ := bO
  refine (Ze ?_)
  obtain ⟨aq, ab, y⟩ := Zg y
  refine W_mid (M := fun f' w' => (fun (aq : (List (List Int))) => ∃ (b2 : PHeap) (a5 : Value), PHeap.le aS b2 ∧ St w0 b2 (Res.box ad 28 [m, n, o, p, q] :: Res.arr (encSlice (encInt .i64)) 24 a5 aq :: H) w' ∧ f' 1 = Value.pointer (some ⟨ad, 0, none⟩) ∧ f' 4 = a5 ∧ f' 18 = aU ∧ f' 19 = Vi ((aX.length : Int)) ∧ f' 20 = Vi ((aG : Int))) aq) ?_ ?_
  ·rcases ite_some ab with ⟨an, ab⟩ | ⟨an, ab⟩
   ·refine W_cond_t bl an (Zd (Za rfl rfl (Zm (v := a) rfl bh (Za rfl rfl (Zm (v := x) rfl cy (Za rfl rfl (Exec.buildSlice (Te := 24) (cs := [x]) bb rfl (parts_cons (c := [x]) (cells_of rfl (cells_one ((a4.mono aH)).one)) parts_nil) (fun _ => by kernel_rfl) ?_)))))))
    intro d3 eo bV
    obtain ⟨dX, cX, ab⟩ := Zg ab
    refine Za rfl rfl (Exec.append_box (E := (encSlice (encInt .i64))) (ys := [aW]) (bV).f2 S36 Z24 rfl (by decide) rfl rfl rfl rfl ⟨[x], [], rfl, ⟨_, rfl, (a4.mono aH)⟩, rfl⟩ rfl cX ?_)
    intro bB ep bW
    refine Za rfl rfl (Zo (v := bB) rfl rfl (Zb (Ze ?_)))
    have dA := Zu ab
    subst aq
    exact ⟨aS, bB, (Zv _), (bW).f1, bg, rfl, bi, bj, bk⟩
   refine W_cond_f bl an ?_
   replace an := Zk an
   refine W_skip (Ze ?_)
   have dB := Zu ab
   subst aq
   exact ⟨aS, a, (Zv _), ((bb).f1).f1, bg, bh, bi, bj, bk⟩
  intro dN er bP
  obtain ⟨di, a5, cn, bX, cz, c0, c1, c2, c3⟩ := bP
  refine (ib_normal (Ze (Zd (Za rfl rfl (Exec.add rfl c3 rfl (Za rfl rfl (Zm (v := Vi (IntKind.i64.wrap ((aG : Int) + 1))) rfl rfl (Zb (Ze ?_)))))))))
  have dC := Zu y
  subst dg
  exact ⟨di, a5, (Zt (Zt ac aH) cn), ((bX).f1).f1, cz, c0, c1, c2, (Eq.trans rfl (wrap_up cj (SliceRep.le aQ)))⟩
 intro dO es bJ
 obtain ⟨b3, a, co, aF, ea, bm, eb, c4, dr⟩ := bJ
 refine Zc (Zd (Za rfl rfl (Zq rfl dr c4 (Zb (Ze (Zc (W_false (Zx (decide_eq_false (by omega))) (W_exit (at_exit (at_exit (ib_here (Ze (Zc (Zd (Za rfl rfl (Zo (v := Value.slice none 0 0) rfl rfl (Zb (Ze (Zc (Zc (Zd (Za rfl rfl (Zm (v := a) rfl bm (Za rfl rfl (Exec.len_arr ((aF).f1) S36 rfl rfl (Za rfl rfl (Zm (v := Vi (0)) rfl rfl (Zb (Ze ?_)))))))))))))))))))))))))))))
 obtain ⟨au, bG, hm⟩ := Zg hm
 refine W_block (W_forS (fun k' s' f' w' => (fun (au : (List (List Int))) => ∃ (b4 : PHeap) (g : Value), PHeap.le b3 b4 ∧ St w0 b4 (Res.arr (encSlice (encInt .i64)) 24 a b :: Res.arr (encSlice (encInt .i64)) 24 g au :: H) w' ∧ f' 4 = a ∧ f' 7 = g ∧ f' 37 = a ∧ f' 38 = Vi ((b.length : Int)) ∧ f' 39 = Vi (k' : Int)) s') bG ?_ ?_ ?_)
 ·have bY := aF.nilArr (encSlice (encInt .i64)) 24
  exact ⟨b3, (Value.slice none 0 0), (Zv _), (((bY).f1).drop).f1, bm, rfl, rfl, rfl, rfl⟩
 ·intro j au dj dP et ck bK z
  obtain ⟨b5, g, cp, ak, bn, c5, bo, bp, a8⟩ := bK
  refine Zc (Zd (Za rfl rfl (Zq rfl a8 bp (Zb (Ze (Zc (W_true (Zx (decide_eq_true (by omega))) (W_skip (Ze (Zc (W_block (Zc (Zd (Za rfl rfl (Zm (v := Vi ((j : Int))) rfl a8 ?_)))))))))))))))
  obtain ⟨dt, a2, z⟩ := Zg z
  obtain ⟨dV, d5, aY⟩ := (ak).arr_at a2
  refine Za rfl rfl (Exec.index_slice S36 rfl (Eq.trans bo aY) a8 (idx_some a2).1 (idx_some a2).2.1 (Za rfl rfl (Exec.load_arr (F := (encSlice (encInt .i64))) (ak) aY A24 rfl rfl rfl a2 (Sub.refl _) ?_)))
  intro av cY
  have bv : SliceRep _ _ _ (dt) := encSlice_val.1 cY
  refine Za rfl rfl (Zo (v := Vi ((j : Int))) rfl rfl (Za rfl rfl (Zo (v := av) rfl rfl (Zb (Ze (Zc (Zd (Za rfl rfl (Zo (v := Value.bool (false)) rfl rfl (Zb (Ze (Zc (Zc (Zd (Za rfl rfl (Zm (v := a) rfl bn (Za rfl rfl (Exec.len_arr (ak) S36 rfl rfl (Za rfl rfl (Zm (v := Vi (0)) rfl rfl (Zb (Ze ?_))))))))))))))))))))))
  obtain ⟨ae, bH, z⟩ := Zg z
  refine W_block (W_forS (fun k' s' f' w' => (fun (ae : Bool) => ∃ (b6 : PHeap) , PHeap.le b5 b6 ∧ St w0 b6 (Res.arr (encSlice (encInt .i64)) 24 a b :: Res.arr (encSlice (encInt .i64)) 24 g au :: H) w' ∧ f' 4 = a ∧ f' 7 = g ∧ f' 8 = Vi ((j : Int)) ∧ f' 9 = av ∧ f' 10 = Value.bool (ae) ∧ f' 37 = a ∧ f' 38 = Vi ((b.length : Int)) ∧ f' 39 = Vi ((j : Int)) ∧ f' 44 = a ∧ f' 45 = Vi ((b.length : Int)) ∧ f' 46 = Vi (k' : Int)) s') bH ?_ ?_ ?_)
  ·have bZ := (ak).f1
   exact ⟨b5, (Zv _), (bZ).f1, bn, c5, rfl, rfl, rfl, bo, bp, a8, rfl, rfl, rfl⟩
  ·intro ah ae dk dQ eu cl bL ap
   obtain ⟨aT, bd, al, aL, aM, ay, az, c6, aN, aO, aP, a0, a1, aj⟩ := bL
   refine Zc (Zd (Za rfl rfl (Zq rfl aj a1 (Zb (Ze (Zc (W_true (Zx (decide_eq_true (by omega))) (W_skip (Ze (Zc (W_block (Zc (Zd (Za rfl rfl (Zm (v := Vi ((ah : Int))) rfl aj ?_)))))))))))))))
   obtain ⟨du, a3, ap⟩ := Zg ap
   obtain ⟨dW, d6, aZ⟩ := (al).arr_at a3
   refine Za rfl rfl (Exec.index_slice S36 rfl (Eq.trans a0 aZ) aj (idx_some a3).1 (idx_some a3).2.1 (Za rfl rfl (Exec.load_arr (F := (encSlice (encInt .i64))) (al) aZ A24 rfl rfl rfl a3 (Sub.refl _) ?_)))
   intro bC cZ
   have dd : SliceRep _ _ _ (du) := encSlice_val.1 cZ
   refine Za rfl rfl (Zo (v := Vi ((ah : Int))) rfl rfl (Za rfl rfl (Zo (v := bC) rfl rfl (Zb (Ze ?_)))))
   obtain ⟨af, i, ap⟩ := Zg ap
   refine W_mid (M := fun f' w' => (fun (af : Bool) => ∃ (b7 : PHeap) , PHeap.le aT b7 ∧ St w0 b7 (Res.arr (encSlice (encInt .i64)) 24 a b :: Res.arr (encSlice (encInt .i64)) 24 g au :: H) w' ∧ f' 4 = a ∧ f' 7 = g ∧ f' 8 = Vi ((j : Int)) ∧ f' 9 = av ∧ f' 10 = Value.bool (af) ∧ f' 37 = a ∧ f' 38 = Vi ((b.length : Int)) ∧ f' 39 = Vi ((j : Int)) ∧ f' 44 = a ∧ f' 45 = Vi ((b.length : Int)) ∧ f' 46 = Vi ((ah : Int))) af) ?_ ?_
   ·refine Zd (Za rfl rfl (Zm (v := Value.bool (ae)) rfl c6 (Za rfl rfl (Zm (v := Value.bool (ae)) rfl rfl ?_))))
    rcases ite_some i with ⟨h, i⟩ | ⟨h, i⟩
    ·refine WL_passes 10 (by rw [h]; rfl) ?_
     refine Zb (Ze ?_)
     have dD := Zu i
     subst af
     exact ⟨aT, (Zv _), ((al).f1).f1, aL, aM, ay, az, rfl, aN, aO, aP, a0, a1, aj⟩
    replace h := Zk h
    refine WL_run rfl (Zf rfl (Zx h)) rfl (Zm (v := Vi ((j : Int))) rfl ay (WL_run rfl (Zf rfl (Zx h)) rfl (Zm (v := Vi ((ah : Int))) rfl rfl (WL_run rfl (Zf rfl (Zx h)) rfl (Exec.neq rfl rfl rfl (WL_run rfl (Zf rfl (Zx h)) rfl (Zm (v := Value.bool (!decide ((j : Int) = (ah : Int)))) rfl rfl ?_)))))))
    rcases ite_some i with ⟨u, i⟩ | ⟨u, i⟩
    ·refine WL_run rfl (Zf rfl (Zx u)) rfl (Zm (v := av) rfl az (WL_run rfl (Zf rfl (Zx u)) rfl (Zm (v := bC) rfl rfl ?_)))
     obtain ⟨d0, da, i⟩ := Zg i
     refine WL_run rfl (Zf rfl (Zx u)) rfl (Tc rfl rfl rfl (Zi rfl (Zi rfl args_nil)) (invariant_inside_sim da al (bv.mono bd) dd).r ?_)
     rintro _ ev ⟨dl, cq, ca, rfl⟩
     refine WL_run rfl (Zf rfl (Zx h)) rfl (Zs (v := Value.bool (d0)) rfl (Zx u) rfl ?_)
     refine WL_passes 2 (by rw [h]; rfl) ?_
     refine Zb (Ze ?_)
     have dE := Zu i
     subst af
     exact ⟨dl, cq, ((ca).f1).f1, aL, aM, ay, az, rfl, aN, aO, aP, a0, a1, aj⟩
    replace u := Zk u
    refine WL_passes 3 (by rw [u]; rfl) ?_
    refine WL_run rfl (Zf rfl (Zx h)) rfl (Exec.pick_f (v := Value.bool (false)) rfl rfl rfl ?_)
    refine WL_passes 2 (by rw [h]; rfl) ?_
    refine Zb (Ze ?_)
    have dF := Zu i
    subst af
    exact ⟨aT, (Zv _), ((al).f1).f1, aL, aM, ay, az, rfl, aN, aO, aP, a0, a1, aj⟩
   intro dR ew bQ
   obtain ⟨dm, cr, cb, c7, c8, c9, cA, cB, cC, cD, cE, cF, cG, cH⟩ := bQ
   refine (ib_normal (Ze (Zd (Za rfl rfl (Exec.add rfl cH rfl (Za rfl rfl (Zm (v := Vi (IntKind.i64.wrap ((ah : Int) + 1))) rfl rfl (Zb (Ze ?_)))))))))
   have dG := Zu ap
   subst dk
   exact ⟨dm, (Zt bd cr), ((cb).f1).f1, c7, c8, c9, cA, cB, cC, cD, cE, cF, cG, (Eq.trans rfl (wrap_up cl (ak).arr_le))⟩
  intro dS ex bM
  obtain ⟨b8, be, bc, bq, br, ec, cI, cJ, bs, bt, bu, ed, cK, dv⟩ := bM
  refine Zc (Zd (Za rfl rfl (Zq rfl dv cK (Zb (Ze (Zc (W_false (Zx (decide_eq_false (by omega))) (W_exit (at_exit (at_exit (ib_here (Ze (Zc (Zd (Za rfl rfl (Zm (v := Value.bool (ae)) rfl cJ (Za rfl rfl (Exec.not rfl rfl (Zb (Ze ?_))))))))))))))))))))
  obtain ⟨ar, l, z⟩ := Zg z
  refine W_mid (M := fun f' w' => (fun (ar : (List (List Int))) => ∃ (b9 : PHeap) (a6 : Value), PHeap.le b8 b9 ∧ St w0 b9 (Res.arr (encSlice (encInt .i64)) 24 a b :: Res.arr (encSlice (encInt .i64)) 24 a6 ar :: H) w' ∧ f' 4 = a ∧ f' 7 = a6 ∧ f' 37 = a ∧ f' 38 = Vi ((b.length : Int)) ∧ f' 39 = Vi ((j : Int))) ar) ?_ ?_
  ·rcases ite_some l with ⟨ao, l⟩ | ⟨ao, l⟩
   ·refine W_cond_t rfl ao (Zd (Za rfl rfl (Zm (v := g) rfl br (Za rfl rfl (Zm (v := av) rfl cI ?_)))))
    obtain ⟨d1, db, l⟩ := Zg l
    refine Za rfl rfl (Tc rfl rfl rfl (Zi rfl args_nil) (slices_Clone_int_sim db bc (bv.mono be)).r ?_)
    rintro aV ey ⟨eg, _, ct, cc, rfl⟩
    obtain ⟨dn, cu, cd, bw⟩ := cc.freezeArr
    refine Za rfl rfl (Exec.buildSlice (Te := 24) (cs := [aV]) cd rfl (parts_cons (c := [aV]) (cells_of rfl (cells_one (bw).one)) parts_nil) (fun _ => by kernel_rfl) ?_)
    intro d4 ez ce
    obtain ⟨dY, dc, l⟩ := Zg l
    refine Za rfl rfl (Exec.append_box (E := (encSlice (encInt .i64))) (ys := [d1]) (ce).f2 S36 Z24 rfl (by decide) rfl rfl rfl rfl ⟨[aV], [], rfl, ⟨_, rfl, bw⟩, rfl⟩ rfl dc ?_)
    intro bD e0 cf
    refine Za rfl rfl (Zo (v := bD) rfl rfl (Zb (Ze ?_)))
    have dH := Zu l
    subst ar
    exact ⟨dn, bD, (Zt ct cu), (cf).f1, bq, rfl, bs, bt, bu⟩
   refine W_cond_f rfl ao ?_
   replace ao := Zk ao
   refine W_skip (Ze ?_)
   have dI := Zu l
   subst ar
   exact ⟨b8, g, (Zv _), ((bc).f1).f1, bq, br, bs, bt, bu⟩
  intro dT e1 bR
  obtain ⟨dp, a6, cv, cg, cL, cM, cN, cO, cP⟩ := bR
  refine (ib_normal (Ze (Zd (Za rfl rfl (Exec.add rfl cP rfl (Za rfl rfl (Zm (v := Vi (IntKind.i64.wrap ((j : Int) + 1))) rfl rfl (Zb (Ze ?_)))))))))
  have dJ := Zu z
  subst dj
  exact ⟨dp, a6, (Zt (Zt cp be) cv), ((cg).f1).f1, cL, cM, cN, cO, (Eq.trans rfl (wrap_up ck ((aF).f1).arr_le))⟩
 intro dU e2 bN
 obtain ⟨eh, g, cw, ch, ee, cQ, ef, cR, dw⟩ := bN
 refine Zc (Zd (Za rfl rfl (Zq rfl dw cR (Zb (Ze (Zc (W_false (Zx (decide_eq_false (by omega))) (W_exit (at_exit (at_exit (ib_here (Ze (Zc (Zd (Za rfl rfl (Zm (v := g) rfl cQ (Za rfl rfl (Zo (v := g) rfl rfl (Za rfl rfl (Zo (v := errV 45 (none)) rfl rfl (Zb (Ze (W_ret ?_)))))))))))))))))))))))
 have dK := Zu hm
 subst r
 refine ⟨_, ret2 rfl, ?_⟩
 obtain ⟨dq, cx, ci, de⟩ := (ch).f1.freezeArr
 exact ⟨dq, g, (Zt (Zt (Zt (Zt d ai) co) cw) cx), (ci).drop, (tup2 rfl rfl), de⟩
theorem base_Ints_sim {w0 w : World} {s : PHeap} {H : List Res} {j : (List Int)} {q : (List Int)} {b : Value} {c : Value} {r : Bool} (hm : base_Ints_p j q = some r) (hS : St w0 s (H) w) (l : SliceRep (encInt .i64) s b j) (p : SliceRep (encInt .i64) s c q) :
  Calls Tryz.prog 22 #[b, c] w fun e w' => ∃ v, e = .returned v ∧ ((fun (a8 : Bool) => ∃ (ac : PHeap) , PHeap.le s ac ∧ St w0 ac (H) w' ∧ v = Value.bool (a8)) r) := by
 unfold base_Ints_p at hm
 refine calls_of_W Tryz.func22 rfl rfl (Zc (Zd (Za rfl rfl (Zo (v := Value.bool (false)) rfl rfl (Zb (Ze (Zc (Zc (Zd (Za rfl rfl (Zm (v := b) rfl rfl (Za rfl rfl (Zr S24 rfl rfl l (Za rfl rfl (Zm (v := c) rfl rfl (Za rfl rfl (Zr S24 rfl rfl p (Za rfl rfl (Exec.neq rfl rfl rfl (Zb (Ze ?_)))))))))))))))))))))
 rcases ite_some hm with ⟨d, hm⟩ | ⟨d, hm⟩
 ·refine W_cond_t rfl d (Zc (Zd (Za rfl rfl (Zo (v := Value.bool (false)) rfl rfl (Zb (Ze (W_ret (at_ret ?_))))))))
  have aB := Zu hm
  subst r
  refine ⟨_, ret1 rfl, ?_⟩
  exact ⟨s, (Zv _), hS, rfl⟩
 refine W_cond_f rfl d ?_
 replace d := Zk d
 refine W_skip (Ze (Zc (Zc (Zd (Za rfl rfl (Zm (v := b) rfl rfl (Za rfl rfl (Zr S24 rfl rfl l (Za rfl rfl (Zm (v := Vi (0)) rfl rfl (Zb (Ze ?_))))))))))))
 obtain ⟨t, ai, au, aq, ao⟩ := ctl_some hm
 refine W_mid (M := fun f' w' => ∃ s', (t = .next s' ∨ t = .brk s') ∧ (fun (_ : Unit) => ∃ (ad : PHeap) , PHeap.le s ad ∧ St w0 ad (H) w' ∧ f' 0 = b ∧ f' 1 = c ∧ f' 12 = Vi ((j.length : Int))) s') ?_ ?_
 ·refine W_block (W_forC (fun k' s' f' w' => (fun (_ : Unit) => ∃ (ae : PHeap) , PHeap.le s ae ∧ St w0 ae (H) w' ∧ f' 0 = b ∧ f' 1 = c ∧ f' 12 = Vi ((j.length : Int)) ∧ f' 13 = Vi (k' : Int)) s') ai ?_ ?_ ?_)
  ·exact ⟨s, (Zv _), hS, rfl, rfl, rfl, rfl⟩
  ·intro i aQ u aI aV ap aj a av
   obtain ⟨af, n, m, y, z, aa, o⟩ := aj
   refine Zc (Zd (Za rfl rfl (Zq rfl o aa (Zb (Ze (Zc (W_true (Zx (decide_eq_true (by omega))) (W_skip (Ze (Zc (W_block (Zc (Zd (Za rfl rfl (Zm (v := Vi ((i : Int))) rfl o (Za rfl rfl (Zo (v := Vi ((i : Int))) rfl rfl (Zb (Ze (Zc (W_dl (n0 := 9) (qs 0 9 .done) hmix (by kernel_rfl) (by kernel_rfl) (DL_q rfl rfl (Zm (v := b) rfl y ⟨rfl, ?_⟩)))))))))))))))))))))))
   refine DL_q rfl rfl (Zm (v := Vi ((i : Int))) rfl rfl ⟨rfl, ?_⟩)
   obtain ⟨aY, a1, a⟩ := Zg a
   refine DL_q rfl rfl (Exec.index_repE S24 rfl rfl rfl (l.mono n) a1 ?_)
   intro a9 aL ag aC
   refine ⟨rfl, ?_⟩
   refine DL_q rfl rfl (Zw (E := (encInt .i64)) m.drew A3 rfl rfl rfl ag ?_)
   intro aT a2
   obtain rfl := encInt_val.1 a2
   refine ⟨rfl, ?_⟩
   refine DL_q rfl rfl (Zm (v := c) rfl z ⟨rfl, ?_⟩)
   refine DL_q rfl rfl (Zm (v := Vi ((i : Int))) rfl rfl ⟨rfl, ?_⟩)
   obtain ⟨aZ, a3, a⟩ := Zg a
   refine DL_q rfl rfl (Exec.index_repE S24 rfl rfl rfl (p.mono n) a3 ?_)
   intro aA aM ah aD
   refine ⟨rfl, ?_⟩
   refine DL_q rfl rfl (Zw (E := (encInt .i64)) m.drew A3 rfl rfl rfl ah ?_)
   intro aU a4
   obtain rfl := encInt_val.1 a4
   refine ⟨rfl, ?_⟩
   refine DL_q rfl rfl (Exec.neq rfl rfl rfl ⟨rfl, ?_⟩)
   refine DL_done (Zb (Ze ?_))
   rcases ite_some a with ⟨g, a⟩ | ⟨g, a⟩
   ·refine W_cond_t rfl g (Zc (Zd (Za rfl rfl (Zo (v := Value.bool (false)) rfl rfl (Zb (Ze (W_ret (ib_ret (at_ret (at_ret (ib_ret (at_ret (at_ret ?_)))))))))))))
    have aE := Zu a
    subst u
    have ar := au _ (av (by intro _ h; cases h))
    have aF := Zu ar
    subst r
    refine ⟨_, ret1 rfl, ?_⟩
    exact ⟨af, n, m.drew, rfl⟩
   refine W_cond_f rfl g ?_
   replace g := Zk g
   refine W_skip (ib_normal (Ze (Zd (Za rfl rfl (Exec.add rfl o rfl (Za rfl rfl (Zm (v := Vi (IntKind.i64.wrap ((i : Int) + 1))) rfl rfl (Zb (Ze ?_)))))))))
   have aG := Zu a
   subst u
   refine ⟨_, rfl, ?_⟩; exact ⟨af, n, m.drew, y, z, aa, (Eq.trans rfl (wrap_up ap (SliceRep.le l)))⟩
  intro aR aJ aW ak aw
  obtain ⟨a5, ax, am, az, a0, ab, a7⟩ := ak
  refine Zc (Zd (Za rfl rfl (Zq rfl a7 ab (Zb (Ze (Zc (W_false (Zx (decide_eq_false (by omega))) (W_exit (at_exit (at_exit (ib_here (Ze ?_))))))))))))
  refine ⟨_, .inl aw, ?_⟩; exact ⟨a5, ax, am, az, a0, ab⟩
 rintro aK aX ⟨aS, x, al⟩
 have hm := x.elim (aq _) (ao _)
 clear x
 obtain ⟨a6, ay, an, aN, aO, aP⟩ := al
 refine (Ze (Zc (Zd (Za rfl rfl (Zo (v := Value.bool (true)) rfl rfl (Zb (Ze (W_ret ?_))))))))
 have aH := Zu hm
 subst r
 refine ⟨_, ret1 rfl, ?_⟩
 exact ⟨a6, ay, an, rfl⟩
theorem invariant_Balanced_sim {w0 w : World} {s : PHeap} {H : List Res} {fu : Nat} {d : Ground} {x : (List Int)} {g : Value} {h : Value} {i : Value} {j : Value} {k : Value} {n : Value} {r : Bool} (hm : invariant_Balanced_p fu d x = some r) (hS : St w0 s (H) w) (o : SliceRep encAtom s g d.Atoms) (p : SliceRep encGFluent s h d.Fluents) (q : SliceRep (encInt .i64) s i d.Init) (t : SliceRep encCond s j d.Goal) (u : SliceRep encGOp s k d.Ops) (ab : SliceRep (encInt .i64) s n x) :
  Calls Tryz.prog 11 #[Value.agg #[g, h, i, j, k], n] w fun e w' => ∃ v, e = .returned v ∧ ((fun (an : Bool) => ∃ (z : PHeap) , PHeap.le s z ∧ St w0 z (H) w' ∧ v = Value.bool (an)) r) := by
 unfold invariant_Balanced_p at hm
 refine calls_of_W Tryz.func11 rfl rfl (Zc (Zd (Za rfl rfl (Exec.box (cs := [g, h, i, j, k]) hS rfl rfl rfl ?_))))
 intro ap aw y
 refine Za rfl rfl (Zo (v := Value.bool (false)) rfl rfl (Zb (Ze (Zc ?_))))
 obtain ⟨l, a, hm⟩ := Zg hm
 refine W_mid (M := fun f' w' => (fun (l : Bool) => ∃ (aa : PHeap) , PHeap.le s aa ∧ St w0 aa (H) w' ∧ f' 4 = Value.bool (l)) l) ?_ ?_
 ·refine Zd (Za rfl rfl (Exec.load_box_agg (ds := [g, h, i, j, k]) (y) A28 rfl rfl rfl ?_))
  obtain ⟨ao, ai, a⟩ := Zg a
  refine Za rfl rfl (Tc rfl rfl rfl (Zi rfl args_nil) (ground_Valid_sim ai y o p q t u).r ?_)
  rintro _ ax ⟨ak, c, m, rfl⟩
  refine Za rfl rfl (Zm (v := Value.bool (ao)) rfl rfl ?_)
  rcases ite_some a with ⟨b, a⟩ | ⟨b, a⟩
  ·refine WL_run rfl (Zf rfl (Zx b)) rfl (Exec.load_box_agg (ds := [g, h, i, j, k]) (m) A28 rfl rfl rfl (WL_run rfl (Zf rfl (Zx b)) rfl (Zm (v := n) rfl rfl ?_)))
   obtain ⟨a0, aj, a⟩ := Zg a
   refine WL_run rfl (Zf rfl (Zx b)) rfl (Tc rfl rfl rfl (Zi rfl (Zi rfl args_nil)) (invariant_balanced_sim aj m (o.mono c) (p.mono c) (q.mono c) (t.mono c) (u.mono c) (ab.mono c)).r ?_)
   rintro _ ay ⟨al, af, ad, rfl⟩
   refine WL_passes 2 (by rw [b]; rfl) ?_
   refine Zb (Ze ?_)
   have aq := Zu a
   subst l
   exact ⟨al, (Zt c af), (ad).drop, rfl⟩
  replace b := Zk b
  refine WL_passes 5 (by rw [b]; rfl) ?_
  refine Zb (Ze ?_)
  have ar := Zu a
  subst l
  exact ⟨ak, c, (m).drop, rfl⟩
 intro av az ac
 obtain ⟨am, ag, ae, ah⟩ := ac
 refine (Ze (W_ret ?_))
 have au := Zu hm
 subst r
 refine ⟨_, ret1 rfl, ?_⟩
 exact ⟨am, ag, ae, ah⟩
theorem law20_awake_sim {w0 w : World} {s : PHeap} {H : List Res} {fu : Nat}  {r : Bool} (hm : law20_awake_p fu = some r) (hS : St w0 s (H) w)  (ht : TabQ Tryz.prog s) :
  Calls Tryz.prog 9 #[] w fun e w' => ∃ v, e = .returned v ∧ ((fun (y24 : Bool) => ∃ (aa : PHeap) , PHeap.le s aa ∧ St w0 aa (H) w' ∧ v = Value.bool (y24)) r) := by
 unfold law20_awake_p at hm
 refine calls_of_W Tryz.func9 rfl rfl (Zc (Zd (Za rfl rfl (Zo (v := Value.bool (false)) rfl rfl (Zb (Ze (Zc (Zd ?_))))))))
 obtain ⟨bB, az, hm⟩ := Zg hm
 refine Za rfl rfl (Tc rfl rfl rfl args_nil (law20_example_sim az hS ).r ?_)
 rintro _ b1 ⟨bj, bo, bp, bq, br, bs, y, af, rfl, a9, aA, aB, aC, aD⟩
 obtain ⟨aS, a0, hm⟩ := Zg hm
 obtain ⟨bC, m⟩ := aS
 replace hm := un2_eq hm
 refine Za rfl rfl (Tc rfl rfl rfl (Zi rfl args_nil) (invariant_Groups_sim a0 af a9 aA aB aC aD (ht.mono y)).r ?_)
 rintro _ b2 ⟨u, k, au, n, rfl, t⟩
 refine Za rfl rfl (Zm (v := Value.tuple #[k, errV 45 (m)]) rfl rfl (Za rfl rfl (Exec.extract (v := k) rfl rfl rfl (Za rfl rfl (Exec.extract (v := errV 45 (m)) rfl rfl rfl (Za rfl rfl (Zo (v := k) rfl rfl (Za rfl rfl (Zo (v := errV 45 (m)) rfl rfl (Zb (Ze (Zc ?_))))))))))))
 obtain ⟨i, a, hm⟩ := Zg hm
 refine W_mid (M := fun f' w' => (fun (i : Bool) => ∃ (ab : PHeap) , PHeap.le u ab ∧ St w0 ab (H) w' ∧ f' 0 = Value.bool (i)) i) ?_ ?_
 ·refine Zd (Za rfl rfl (Zm (v := errV 45 (m)) rfl rfl (Za rfl rfl (Exec.err_eql_nil (T := 45) Tryz.underlying38 rfl rfl rfl (Za rfl rfl (Zm (v := Value.bool (m.isNone)) rfl rfl ?_))))))
  rcases ite_some a with ⟨h, a⟩ | ⟨h, a⟩
  ·refine WL_run rfl (Zf rfl (Zx h)) rfl (Zm (v := k) rfl rfl (WL_run rfl (Zf rfl (Zx h)) rfl (Zr S36 rfl rfl t (WL_run rfl (Zf rfl (Zx h)) rfl (Exec.eql rfl rfl rfl ?_)))))
   refine WL_passes 2 (by rw [h]; rfl) ?_
   rcases ite_some a with ⟨b, a⟩ | ⟨b, a⟩
   ·refine WL_run rfl (Zf rfl (Zx b)) rfl (Zm (v := k) rfl rfl ?_)
    obtain ⟨aT, a1, a⟩ := Zg a
    refine WL_run rfl (Zf rfl (Zx b)) rfl (Exec.index_rep S36 rfl rfl rfl t a1 ?_)
    intro aV bh ac
    refine WL_run rfl (Zf rfl (Zx b)) rfl (Zw (E := (encSlice (encInt .i64))) n A24 rfl rfl rfl ac ?_)
    intro bt a2
    have aE : SliceRep _ _ _ (aT) := encSlice_val.1 a2
    refine WL_run rfl (Zf rfl (Zx b)) rfl (Exec.buildSlice (Te := 3) (cs := [Vi (0), Vi (1)]) n rfl (parts_cons (c := [Vi (0)]) (cells_of rfl rfl) (parts_cons (c := [Vi (1)]) (cells_of rfl rfl) parts_nil)) (fun _ => by kernel_rfl) ?_)
    intro aW b3 ag
    have ah := St.boxArr (E := (encInt .i64)) (xs := [0, 1]) ag ⟨[Vi (0)], [Vi (1)], rfl, rfl, ⟨[Vi (1)], [], rfl, rfl, rfl⟩⟩ (by simp [maxLen])
    obtain ⟨bk, l, ai, aF⟩ := ah.freezeArr
    obtain ⟨bD, a3, a⟩ := Zg a
    refine WL_run rfl (Zf rfl (Zx b)) rfl (Tc rfl rfl rfl (Zi rfl (Zi rfl args_nil)) (base_Ints_sim a3 ai (aE.mono l) aF).r ?_)
    rintro _ b4 ⟨aO, o, p, rfl⟩
    refine WL_passes 2 (by rw [b]; rfl) ?_
    rcases ite_some a with ⟨d, a⟩ | ⟨d, a⟩
    ·refine WL_run rfl (Zf rfl (Zx d)) rfl (Zm (v := k) rfl rfl ?_)
     obtain ⟨aU, a4, a⟩ := Zg a
     refine WL_run rfl (Zf rfl (Zx d)) rfl (Exec.index_rep S36 rfl rfl rfl (t.mono (Zt l o)) a4 ?_)
     intro aX bi ad
     refine WL_run rfl (Zf rfl (Zx d)) rfl (Zw (E := (encSlice (encInt .i64))) p A24 rfl rfl rfl ad ?_)
     intro bu a5
     have aG : SliceRep _ _ _ (aU) := encSlice_val.1 a5
     refine WL_run rfl (Zf rfl (Zx d)) rfl (Exec.buildSlice (Te := 3) (cs := [Vi (2), Vi (3)]) p rfl (parts_cons (c := [Vi (2)]) (cells_of rfl rfl) (parts_cons (c := [Vi (3)]) (cells_of rfl rfl) parts_nil)) (fun _ => by kernel_rfl) ?_)
     intro aY b5 aj
     have ak := St.boxArr (E := (encInt .i64)) (xs := [2, 3]) aj ⟨[Vi (2)], [Vi (3)], rfl, rfl, ⟨[Vi (3)], [], rfl, rfl, rfl⟩⟩ (by simp [maxLen])
     obtain ⟨bl, q, al, aH⟩ := ak.freezeArr
     obtain ⟨bE, a6, a⟩ := Zg a
     refine WL_run rfl (Zf rfl (Zx d)) rfl (Tc rfl rfl rfl (Zi rfl (Zi rfl args_nil)) (base_Ints_sim a6 al (aG.mono q) aH).r ?_)
     rintro _ b6 ⟨aP, z, x, rfl⟩
     refine WL_passes 2 (by rw [d]; rfl) ?_
     rcases ite_some a with ⟨g, a⟩ | ⟨g, a⟩
     ·obtain ⟨bF, a7, a⟩ := Zg a
      refine WL_run rfl (Zf rfl (Zx g)) rfl (Tc rfl rfl rfl args_nil (law20_example_sim a7 x ).r ?_)
      rintro _ b7 ⟨bm, bv, bw, bx, bz, b0, av, am, rfl, aI, aJ, aK, aL, aM⟩
      refine WL_run rfl (Zf rfl (Zx g)) rfl (Exec.buildSlice (Te := 3) (cs := [Vi (0), Vi (2)]) am rfl (parts_cons (c := [Vi (0)]) (cells_of rfl rfl) (parts_cons (c := [Vi (2)]) (cells_of rfl rfl) parts_nil)) (fun _ => by kernel_rfl) ?_)
      intro aZ b8 an
      have ao := St.boxArr (E := (encInt .i64)) (xs := [0, 2]) an ⟨[Vi (0)], [Vi (2)], rfl, rfl, ⟨[Vi (2)], [], rfl, rfl, rfl⟩⟩ (by simp [maxLen])
      obtain ⟨bn, j, ap, aN⟩ := ao.freezeArr
      obtain ⟨bG, a8, a⟩ := Zg a
      refine WL_run rfl (Zf rfl (Zx g)) rfl (Tc rfl rfl rfl (Zi rfl (Zi rfl args_nil)) (invariant_Balanced_sim a8 ap (aI.mono j) (aJ.mono j) (aK.mono j) (aL.mono j) (aM.mono j) aN).r ?_)
      rintro _ b9 ⟨aQ, aw, aq, rfl⟩
      refine WL_run rfl (Zf rfl (Zx g)) rfl (Exec.not rfl rfl ?_)
      refine WL_passes 2 (by rw [g]; rfl) ?_
      refine Zb (Ze ?_)
      have ba := Zu a
      subst i
      exact ⟨aQ, (Zt (Zt (Zt (Zt (Zt (Zt l o) q) z) av) j) aw), aq, rfl⟩
     replace g := Zk g
     refine WL_passes 6 (by rw [g]; rfl) ?_
     refine Zb (Ze ?_)
     have bb := Zu a
     subst i
     exact ⟨aP, (Zt (Zt (Zt l o) q) z), x, rfl⟩
    replace d := Zk d
    refine WL_passes 13 (by rw [d]; rfl) ?_
    refine Zb (Ze ?_)
    have bc := Zu a
    subst i
    exact ⟨aO, (Zt l o), p, rfl⟩
   replace b := Zk b
   refine WL_passes 20 (by rw [b]; rfl) ?_
   refine Zb (Ze ?_)
   have bd := Zu a
   subst i
   exact ⟨u, (Zv _), n, rfl⟩
  replace h := Zk h
  refine WL_passes 25 (by rw [h]; rfl) ?_
  refine Zb (Ze ?_)
  have be := Zu a
  subst i
  exact ⟨u, (Zv _), n, rfl⟩
 intro bg bA ae
 obtain ⟨aR, ax, ar, ay⟩ := ae
 refine (Ze (W_ret ?_))
 have bf := Zu hm
 subst r
 refine ⟨_, ret1 rfl, ?_⟩
 exact ⟨aR, (Zt (Zt y au) ax), ar, ay⟩
theorem ZZ45 : (Tryz.prog.info? 45).map (·.zero) = some (some (.int .i64 0)) := by kernel_rfl
theorem base_Num_sim {w0 w : World} {s : PHeap} {H : List Res} {a : (Option Int)}  {r : Int} (hm : base_Num_p a = some r) (hS : St w0 s (H) w)  :
  Calls Tryz.prog 40 #[errV 45 (a)] w fun e w' => ∃ v, e = .returned v ∧ ((fun (f : Int) => ∃ (d : PHeap) , PHeap.le s d ∧ St w0 d (H) w' ∧ v = Vi (f)) r) := by
 unfold base_Num_p at hm
 refine calls_of_W Tryz.func40 rfl rfl (Zc (Zd (Za rfl rfl (Zo (v := Vi (0)) rfl rfl (Zb (Ze (Zc (Zc (Zd (Za rfl rfl (Zm (v := errV 45 (a)) rfl rfl (Za rfl rfl (Exec.err_eql_nil (T := 45) Tryz.underlying38 rfl rfl rfl (Zb (Ze ?_)))))))))))))))
 rcases ite_some hm with ⟨b, hm⟩ | ⟨b, hm⟩
 ·refine W_cond_t rfl b (Zc (Zd (Za rfl rfl (Zo (v := Vi (0)) rfl rfl (Zb (Ze (W_ret (at_ret ?_))))))))
  have g := Zu hm
  subst r
  refine ⟨_, ret1 rfl, ?_⟩
  exact ⟨s, (Zv _), hS, rfl⟩
 refine W_cond_f rfl b ?_
 replace b := Zk b
 refine W_skip (Ze (Zc (Zc (Zd (Za rfl rfl (Zm (v := errV 45 (a)) rfl rfl (Za rfl rfl (Exec.err_assert Tryz.underlying45 ZZ45 rfl rfl (Za rfl rfl (Zm (v := Value.tuple #[Vi (a.getD 0), Value.bool (a.isSome)]) rfl rfl (Za rfl rfl (Exec.extract (v := Vi (a.getD 0)) rfl rfl rfl (Za rfl rfl (Exec.extract (v := Value.bool (a.isSome)) rfl rfl rfl (Za rfl rfl (Zo (v := Vi (a.getD 0)) rfl rfl (Za rfl rfl (Zo (v := Value.bool (a.isSome)) rfl rfl (Zb (Ze (Zc (Zd (Za rfl rfl (Zm (v := Value.bool (a.isSome)) rfl rfl (Zb (Ze ?_))))))))))))))))))))))))))
 rcases ite_some hm with ⟨c, hm⟩ | ⟨c, hm⟩
 ·refine W_cond_t rfl c (Zc (Zd (Za rfl rfl (Zm (v := Vi (a.getD 0)) rfl rfl (Za rfl rfl (Zo (v := Vi (a.getD 0)) rfl rfl (Zb (Ze (W_ret (at_ret ?_))))))))))
  have h := Zu hm
  subst r
  refine ⟨_, ret1 rfl, ?_⟩
  exact ⟨s, (Zv _), hS, rfl⟩
 refine W_cond_f rfl c ?_
 replace c := Zk c
 refine W_skip (Ze (Zc (Zd (Za rfl rfl (Zo (v := Vi ((-1))) rfl rfl (Zb (Ze (W_ret ?_))))))))
 have i := Zu hm
 subst r
 refine ⟨_, ret1 rfl, ?_⟩
 exact ⟨s, (Zv _), hS, rfl⟩
theorem base_Is_sim {w0 w : World} {s : PHeap} {H : List Res} {b : (Option Int)} {c : Int}  {r : Bool} (hm : base_Is_p b c = some r) (hS : St w0 s (H) w)  :
  Calls Tryz.prog 18 #[errV 45 (b), Vi (c)] w fun e w' => ∃ v, e = .returned v ∧ ((fun (p : Bool) => ∃ (d : PHeap) , PHeap.le s d ∧ St w0 d (H) w' ∧ v = Value.bool (p)) r) := by
 unfold base_Is_p at hm
 refine calls_of_W Tryz.func18 rfl rfl (Zc (Zd (Za rfl rfl (Zo (v := Value.bool (false)) rfl rfl (Zb (Ze (Zc (W_mid (M := fun f' w' => ∃ (g : PHeap) , PHeap.le s g ∧ St w0 g (H) w' ∧ f' 4 = Value.bool ((b.isSome && decide ((base_Num_t b) = c)))) ?_ ?_))))))))
 ·refine Zd (Za rfl rfl (Zm (v := errV 45 (b)) rfl rfl (Za rfl rfl (Exec.err_neq_nil (T := 45) Tryz.underlying38 rfl rfl rfl (Za rfl rfl (Zm (v := Value.bool (b.isSome)) rfl rfl ?_))))))
  by_cases a : b.isSome = true
  ·refine WL_run rfl (Zf rfl (Zx a)) rfl (Zm (v := errV 45 (b)) rfl rfl (WL_run rfl (Zf rfl (Zx a)) rfl (Tc rfl rfl rfl (Zi rfl args_nil) (base_Num_sim (base_Num_tot b) hS ).r ?_)))
   rintro _ u ⟨n, k, i, rfl⟩
   refine WL_run rfl (Zf rfl (Zx a)) rfl (Zm (v := Vi (c)) rfl rfl (WL_run rfl (Zf rfl (Zx a)) rfl (Exec.eql rfl rfl rfl ?_)))
   refine WL_passes 2 (by rw [a]; rfl) ?_
   refine Zb (Ze ?_)
   exact ⟨n, k, i, (Zx (and_t a)).symm⟩
  replace a := Zk a
  refine WL_passes 6 (by rw [a]; rfl) ?_
  refine Zb (Ze ?_)
  exact ⟨s, (Zv _), hS, (Zx (and_f a)).symm⟩
 intro t x h
 obtain ⟨o, l, j, m⟩ := h
 refine (Ze (W_ret ?_))
 have q := Zu hm
 subst r
 refine ⟨_, ret1 rfl, ?_⟩
 exact ⟨o, l, j, m⟩
theorem invariant_Candidates_sim {w0 w : World} {s : PHeap} {H : List Res} {fu : Nat} {b : Ground} {d : Value} {f : Value} {g : Value} {h : Value} {i : Value} {r : (List (List Int))} (hm : invariant_Candidates_p fu b = some r) (hS : St w0 s (H) w) (l : SliceRep encAtom s d b.Atoms) (m : SliceRep encGFluent s f b.Fluents) (n : SliceRep (encInt .i64) s g b.Init) (o : SliceRep encCond s h b.Goal) (p : SliceRep encGOp s i b.Ops) (ht : TabQ Tryz.prog s) :
  Calls Tryz.prog 15 #[Value.agg #[d, f, g, h, i]] w fun e w' => ∃ v, e = .returned v ∧ ((fun (ae : (List (List Int))) => ∃ (k : PHeap) (t : Value), PHeap.le s k ∧ St w0 k (H) w' ∧ v = t ∧ SliceRep (encSlice (encInt .i64)) k t ae) r) := by
 unfold invariant_Candidates_p at hm
 refine calls_of_W Tryz.func15 rfl rfl (Zc (Zd (Za rfl rfl (Exec.box (cs := [d, f, g, h, i]) hS rfl rfl rfl ?_))))
 intro af ai q
 refine Za rfl rfl (Zo (v := Value.slice none 0 0) rfl rfl (Zb (Ze (Zc (Zc (Zd (Za rfl rfl (Exec.load_box_agg (ds := [d, f, g, h, i]) (q) A28 rfl rfl rfl ?_))))))))
 obtain ⟨al, z, hm⟩ := Zg hm
 refine Za rfl rfl (Tc rfl rfl rfl (Zi rfl args_nil) (ground_Valid_sim z q l m n o p).r ?_)
 rintro _ aj ⟨ac, a, j, rfl⟩
 refine Za rfl rfl (Exec.not rfl rfl (Zb (Ze ?_)))
 rcases ite_some hm with ⟨c, hm⟩ | ⟨c, hm⟩
 ·refine W_cond_t rfl c (Zc (Zd (Za rfl rfl (Zo (v := Value.slice none 0 0) rfl rfl (Zb (Ze (W_ret (at_ret ?_))))))))
  have ag := Zu hm
  subst r
  refine ⟨_, ret1 rfl, ?_⟩
  exact ⟨ac, (Value.slice none 0 0), a, (j).drop, rfl, (SliceRep.nil _ _)⟩
 refine W_cond_f rfl c ?_
 replace c := Zk c
 refine W_skip (Ze (Zc (Zd (Za rfl rfl (Exec.load_box_agg (ds := [d, f, g, h, i]) (j) A28 rfl rfl rfl ?_)))))
 obtain ⟨am, aa, hm⟩ := Zg hm
 refine Za rfl rfl (Tc rfl rfl rfl (Zi rfl args_nil) (invariant_candidates_sim aa j (l.mono a) (m.mono a) (n.mono a) (o.mono a) (p.mono a) (ht.mono a)).r ?_)
 rintro u ak ⟨ad, _, y, x, rfl, ab⟩
 refine Za rfl rfl (Zo (v := u) rfl rfl (Zb (Ze (W_ret ?_))))
 have ah := Zu hm
 subst r
 refine ⟨_, ret1 rfl, ?_⟩
 exact ⟨ad, u, (Zt a y), (x).drop, rfl, ab⟩
theorem law20_InvariantForms_sim {w0 w : World} {s : PHeap} {H : List Res} {fu : Nat} {g1 : Ground} {group12 : (List Int)} {v2 : Value} {v4 : Value} {v6 : Value} {v8 : Value} {v10 : Value} {v13 : Value} {r : Bool} (hm : law20_InvariantForms_p fu g1 group12 = some r) (hS : St w0 s (H) w) (a3 : SliceRep encAtom s v2 g1.Atoms) (a5 : SliceRep encGFluent s v4 g1.Fluents) (a7 : SliceRep (encInt .i64) s v6 g1.Init) (a9 : SliceRep encCond s v8 g1.Goal) (a11 : SliceRep encGOp s v10 g1.Ops) (a14 : SliceRep (encInt .i64) s v13 group12) (ht : TabQ Tryz.prog s) :
  Calls Tryz.prog 6 #[Value.agg #[v2, v4, v6, v8, v10], v13] w fun e w' => ∃ v, e = .returned v ∧ ((fun (y16 : Bool) => ∃ (ai : PHeap) , PHeap.le s ai ∧ St w0 ai (H) w' ∧ v = Value.bool (y16)) r) := by
 unfold law20_InvariantForms_p at hm
 refine calls_of_W Tryz.func6 rfl rfl (Zc (Zd (Za rfl rfl (Exec.box (cs := [v2, v4, v6, v8, v10]) hS rfl rfl rfl ?_))))
 intro af bd ao
 refine Za rfl rfl (Zo (v := Value.bool (false)) rfl rfl (Zb (Ze (Zc (Zc ?_)))))
 obtain ⟨p, a, hm⟩ := Zg hm
 refine W_mid (M := fun f' w' => (fun (p : Bool) => ∃ (aj : PHeap) , PHeap.le s aj ∧ St w0 aj (Res.box af 28 [v2, v4, v6, v8, v10] :: H) w' ∧ f' 1 = v13 ∧ f' 2 = Value.pointer (some ⟨af, 0, none⟩) ∧ f' 29 = Value.bool (p)) p) ?_ ?_
 ·refine Zd ?_
  obtain ⟨aK, a1, a⟩ := Zg a
  refine Za rfl rfl (Tc rfl rfl rfl args_nil (law20_awake_sim a1 ao  ht).r ?_)
  rintro _ be ⟨z, g, m, rfl⟩
  refine Za rfl rfl (Exec.not rfl rfl (Za rfl rfl (Zm (v := Value.bool (!aK)) rfl rfl ?_)))
  rcases ite_some a with ⟨i, a⟩ | ⟨i, a⟩
  ·refine WL_passes 20 (by rw [i]; rfl) ?_
   refine Zb (Ze ?_)
   have aO := Zu a
   subst p
   exact ⟨z, g, m, rfl, rfl, rfl⟩
  replace i := Zk i
  refine WL_run rfl (Zf rfl (Zx i)) rfl (Zp F28_0 rfl rfl rfl (WL_run rfl (Zf rfl (Zx i)) rfl (Zn (m) A22 rfl rfl rfl (WL_run rfl (Zf rfl (Zx i)) rfl (Zr S22 rfl rfl (a3.mono g) (WL_run rfl (Zf rfl (Zx i)) rfl (Exec.gtr rfl rfl rfl ?_)))))))
  refine WL_passes 2 (by rw [i]; rfl) ?_
  rcases ite_some a with ⟨j, a⟩ | ⟨j, a⟩
  ·refine WL_passes 14 (by rw [j]; rfl) ?_
   refine Zb (Ze ?_)
   have aP := Zu a
   subst p
   exact ⟨z, g, m, rfl, rfl, rfl⟩
  replace j := Zk j
  refine WL_run rfl (Zf rfl (Zx j)) rfl (Zp F28_4 rfl rfl rfl (WL_run rfl (Zf rfl (Zx j)) rfl (Zn (m) A26 rfl rfl rfl (WL_run rfl (Zf rfl (Zx j)) rfl (Zr S26 rfl rfl (a11.mono g) (WL_run rfl (Zf rfl (Zx j)) rfl (Exec.gtr rfl rfl rfl ?_)))))))
  refine WL_passes 2 (by rw [j]; rfl) ?_
  rcases ite_some a with ⟨n, a⟩ | ⟨n, a⟩
  ·refine WL_passes 8 (by rw [n]; rfl) ?_
   refine Zb (Ze ?_)
   have aQ := Zu a
   subst p
   exact ⟨z, g, m, rfl, rfl, rfl⟩
  replace n := Zk n
  refine WL_run rfl (Zf rfl (Zx n)) rfl (Zm (v := v13) rfl rfl (WL_run rfl (Zf rfl (Zx n)) rfl (Zr S24 rfl rfl (a14.mono g) (WL_run rfl (Zf rfl (Zx n)) rfl (Exec.gtr rfl rfl rfl ?_)))))
  refine WL_passes 2 (by rw [n]; rfl) ?_
  rcases ite_some a with ⟨q, a⟩ | ⟨q, a⟩
  ·refine WL_passes 3 (by rw [q]; rfl) ?_
   refine Zb (Ze ?_)
   have aR := Zu a
   subst p
   exact ⟨z, g, m, rfl, rfl, rfl⟩
  replace q := Zk q
  refine WL_run rfl (Zf rfl (Zx q)) rfl (Exec.load_box_agg (ds := [v2, v4, v6, v8, v10]) (m) A28 rfl rfl rfl ?_)
  obtain ⟨aL, a2, a⟩ := Zg a
  refine WL_run rfl (Zf rfl (Zx q)) rfl (Tc rfl rfl rfl (Zi rfl args_nil) (ground_Valid_sim a2 m (a3.mono g) (a5.mono g) (a7.mono g) (a9.mono g) (a11.mono g)).r ?_)
  rintro _ bf ⟨aD, av, ap, rfl⟩
  refine Za rfl rfl (Exec.pick_f (v := Value.bool (aL)) rfl (Zx q) rfl (Zb (Ze ?_)))
  have aS := Zu a
  subst p
  exact ⟨aD, (Zt g av), ap, rfl, rfl, rfl⟩
 intro aZ bg am
 obtain ⟨bb, b, ab, az, ae, ah⟩ := am
 refine (Ze ?_)
 rcases ite_some hm with ⟨x, hm⟩ | ⟨x, hm⟩
 ·refine W_cond_t ah x (Zc (Zd ?_))
  obtain ⟨aM, a4, hm⟩ := Zg hm
  refine Za rfl rfl (Tc rfl rfl rfl args_nil (law20_awake_sim a4 ab  (ht.mono b)).r ?_)
  rintro _ bh ⟨aE, aw, aq, rfl⟩
  refine Za rfl rfl (Zo (v := Value.bool (aM)) rfl rfl (Zb (Ze (W_ret (at_ret ?_)))))
  have aT := Zu hm
  subst r
  refine ⟨_, ret1 rfl, ?_⟩
  exact ⟨aE, (Zt b aw), (aq).drop, rfl⟩
 refine W_cond_f ah x ?_
 replace x := Zk x
 refine W_skip (Ze (Zc (Zd (Za rfl rfl (Exec.load_box_agg (ds := [v2, v4, v6, v8, v10]) (ab) A28 rfl ae rfl ?_)))))
 obtain ⟨aJ, a6, hm⟩ := Zg hm
 obtain ⟨aN, y⟩ := aJ
 replace hm := un2_eq hm
 refine Za rfl rfl (Tc rfl rfl rfl (Zi rfl args_nil) (invariant_Groups_sim a6 ab (a3.mono b) (a5.mono b) (a7.mono b) (a9.mono b) (a11.mono b) (ht.mono b)).r ?_)
 rintro _ bi ⟨ak, aa, h, ag, rfl, aB⟩
 refine Za rfl rfl (Zm (v := Value.tuple #[aa, errV 45 (y)]) rfl rfl (Za rfl rfl (Exec.extract (v := aa) rfl rfl rfl (Za rfl rfl (Exec.extract (v := errV 45 (y)) rfl rfl rfl (Za rfl rfl (Zo (v := aa) rfl rfl (Za rfl rfl (Zo (v := errV 45 (y)) rfl rfl (Zb (Ze (Zc ?_))))))))))))
 obtain ⟨u, c, hm⟩ := Zg hm
 refine W_mid (M := fun f' w' => (fun (u : Bool) => ∃ (al : PHeap) , PHeap.le ak al ∧ St w0 al (H) w' ∧ f' 4 = Value.bool (u)) u) ?_ ?_
 ·refine Zd (Za rfl rfl (Zm (v := aa) rfl rfl (Za rfl rfl (Zr S36 rfl rfl aB (Za rfl rfl (Exec.eql rfl rfl rfl (Za rfl rfl (Zm (v := Value.bool (decide ((aN.length : Int) = 0))) rfl rfl ?_))))))))
  rcases ite_some c with ⟨t, c⟩ | ⟨t, c⟩
  ·refine WL_run rfl (Zf rfl (Zx t)) rfl (Zm (v := errV 45 (y)) rfl rfl (WL_run rfl (Zf rfl (Zx t)) rfl (Tc rfl rfl rfl (Zi rfl (Zi rfl args_nil)) (base_Is_sim (base_Is_tot y 2) ag ).r ?_)))
   rintro _ bj ⟨aF, d, ac, rfl⟩
   refine WL_passes 2 (by rw [t]; rfl) ?_
   rcases ite_some c with ⟨k, c⟩ | ⟨k, c⟩
   ·refine WL_run rfl (Zf rfl (Zx k)) rfl (Exec.load_box_agg (ds := [v2, v4, v6, v8, v10]) (ac) A28 rfl ae rfl ?_)
    obtain ⟨bn, a8, c⟩ := Zg c
    refine WL_run rfl (Zf rfl (Zx k)) rfl (Tc rfl rfl rfl (Zi rfl args_nil) (invariant_Candidates_sim a8 ac (a3.mono (Zt (Zt b h) d)) (a5.mono (Zt (Zt b h) d)) (a7.mono (Zt (Zt b h) d)) (a9.mono (Zt (Zt b h) d)) (a11.mono (Zt (Zt b h) d)) (ht.mono (Zt (Zt b h) d))).r ?_)
    rintro bc bk ⟨aG, _, o, ad, rfl, aC⟩
    refine WL_run rfl (Zf rfl (Zx k)) rfl (Zr S36 rfl rfl aC (WL_run rfl (Zf rfl (Zx k)) rfl (Exec.eql rfl rfl rfl ?_)))
    refine WL_passes 2 (by rw [k]; rfl) ?_
    rcases ite_some c with ⟨l, c⟩ | ⟨l, c⟩
    ·refine WL_run rfl (Zf rfl (Zx l)) rfl (Exec.load_box_agg (ds := [v2, v4, v6, v8, v10]) (ad) A28 rfl ae rfl (WL_run rfl (Zf rfl (Zx l)) rfl (Zm (v := v13) rfl az ?_)))
     obtain ⟨bo, aA, c⟩ := Zg c
     refine WL_run rfl (Zf rfl (Zx l)) rfl (Tc rfl rfl rfl (Zi rfl (Zi rfl args_nil)) (invariant_Balanced_sim aA ad (a3.mono (Zt (Zt (Zt b h) d) o)) (a5.mono (Zt (Zt (Zt b h) d) o)) (a7.mono (Zt (Zt (Zt b h) d) o)) (a9.mono (Zt (Zt (Zt b h) d) o)) (a11.mono (Zt (Zt (Zt b h) d) o)) (a14.mono (Zt (Zt (Zt b h) d) o))).r ?_)
     rintro _ bl ⟨aH, ax, ar, rfl⟩
     refine WL_run rfl (Zf rfl (Zx l)) rfl (Exec.not rfl rfl ?_)
     refine WL_passes 2 (by rw [l]; rfl) ?_
     refine Zb (Ze ?_)
     have aU := Zu c
     subst u
     exact ⟨aH, (Zt (Zt d o) ax), (ar).drop, rfl⟩
    replace l := Zk l
    refine WL_passes 6 (by rw [l]; rfl) ?_
    refine Zb (Ze ?_)
    have aV := Zu c
    subst u
    exact ⟨aG, (Zt d o), (ad).drop, rfl⟩
   replace k := Zk k
   refine WL_passes 12 (by rw [k]; rfl) ?_
   refine Zb (Ze ?_)
   have aW := Zu c
   subst u
   exact ⟨aF, d, (ac).drop, rfl⟩
  replace t := Zk t
  refine WL_passes 16 (by rw [t]; rfl) ?_
  refine Zb (Ze ?_)
  have aX := Zu c
  subst u
  exact ⟨ak, (Zv _), (ag).drop, rfl⟩
 intro ba bm an
 obtain ⟨aI, ay, au, a0⟩ := an
 refine (Ze (W_ret ?_))
 have aY := Zu hm
 subst r
 refine ⟨_, ret1 rfl, ?_⟩
 exact ⟨aI, (Zt (Zt b h) ay), au, a0⟩
end Go.Pw
