/-
  The walks (printed by my generator).
-/
import Derived.Test.YtjmapcjjkaffoaaGreatL29
import Derived.Test.YtjmapcjjkaffoaaGreatL27
import Derived.Test.YtjmapcjjkaffoaaGreatEq0
set_option maxRecDepth 100000
set_option maxHeartbeats 4000000
set_option linter.unusedVariables false
namespace Go.Pw
open Go.Proofs
theorem invariant_keeps_sim {w0 w : World} {s : PHeap} {H : List Res} {a : GOp} {aw : (List Int)} {p : Value} {q : Value} {t : Value} {i : Value} {u : Value} {j : Value} {r : Bool} (hm : invariant_keeps_p a aw = some r) (hS : St w0 s (H) w) (bm : SliceRep (encInt .i64) s p a.Pre.Pos) (bn : SliceRep (encInt .i64) s q a.Pre.Neg) (bo : SliceRep encGTest s t a.Pre.Tests) (av : SliceRep encGChange s i a.Changes) (bp : SliceRep encGAssign s u a.Assigns) (aq : SliceRep (encInt .i64) s j aw) :
  Calls Tryz.prog 70 #[Value.agg #[Value.string (a.Name), Vi (a.Cost), p, q, t, i, u], j] w fun e w' => ∃ v, e = .returned v ∧ ((fun (eV : Bool) => ∃ (bX : PHeap) , PHeap.le s bX ∧ St w0 bX (H) w' ∧ v = Value.bool (eV)) r) := by
 unfold invariant_keeps_p at hm
 refine calls_of_W Tryz.func70 rfl rfl (Zc (Zd (Za rfl rfl (Exec.box (cs := [Value.string (a.Name), Vi (a.Cost), p, q, t, i, u]) hS rfl rfl rfl ?_))))
 intro h gs bx
 refine Za rfl rfl (Zo (v := Value.bool (false)) rfl rfl (Zb (Ze (Zc (Zd (Za rfl rfl (Zo (v := Value.slice none 0 0) rfl rfl (Zb (Ze (Zc (Zc (Zd (Za rfl rfl (Zp F91_3 rfl rfl rfl (Za rfl rfl (Zn (bx) A88 rfl rfl rfl (Za rfl rfl (Zr S88 rfl rfl av (Za rfl rfl (Zm (v := Vi (0)) rfl rfl (Zb (Ze ?_))))))))))))))))))))))
 obtain ⟨ac, cv, hm⟩ := Zg hm
 refine W_block (W_forS (fun k' s' f' w' => (fun (ac : (List GChange)) => ∃ (bY : PHeap) (ae : Value), PHeap.le s bY ∧ St w0 bY (Res.box h 91 [Value.string (a.Name), Vi (a.Cost), p, q, t, i, u] :: Res.arr encGChange 98 ae ac :: H) w' ∧ f' 1 = j ∧ f' 2 = Value.pointer (some ⟨h, 0, none⟩) ∧ f' 5 = ae ∧ f' 23 = i ∧ f' 24 = Vi ((a.Changes.length : Int)) ∧ f' 25 = Vi (k' : Int)) s') cv ?_ ?_ ?_)
 ·have cD := bx.nilArr encGChange 98
  exact ⟨s, (Value.slice none 0 0), (Zv _), (cD).f1, rfl, rfl, rfl, rfl, rfl, rfl⟩
 ·intro aS ac eB fp gu df cz ak
  obtain ⟨gf, ae, aU, bz, aW, b7, b8, aX, aY, aJ⟩ := cz
  refine Zc (Zd (Za rfl rfl (Zq rfl aJ aY (Zb (Ze (Zc (W_true (Zx (decide_eq_true (by omega))) (W_skip (Ze (Zc (W_block (Zc (Zd ?_)))))))))))))
  obtain ⟨g, eu, ak⟩ := Zg ak
  refine Za rfl rfl (Exec.index_rep S88 rfl aX aJ (av.mono aU) eu ?_)
  intro eX fI cp
  refine Za rfl rfl (Zw (E := encGChange) bz A98 rfl rfl rfl cp ?_)
  intro go ev
  obtain ⟨am, ai, aj, rfl, bP, bQ, bR⟩ := encGChange_val.1 ev
  refine Za rfl rfl (Exec.alloc (cs := [Value.slice none 0 0, Value.slice none 0 0, Value.slice none 0 0, Vi (0), Value.bool (false)]) bz Z98 rfl rfl ?_)
  intro br gv cE
  refine Za rfl rfl (Exec.store_box (ds := [am, ai, aj, Vi (g.Atom), Value.bool (g.Add)]) (es := [am, ai, aj, Vi (g.Atom), Value.bool (g.Add)]) cE A98 rfl rfl rfl rfl (Zj (bP).one (Zj (bQ).one (Zj (bR).one (Zj rfl (Zj rfl one_nil))))) (Nat.le_of_ble_eq_true rfl) rfl ?_)
  intro gw b0
  refine Zb (Ze (Zc (Zd (Za rfl rfl (Zm (v := j) rfl aW (Za rfl rfl (Zp F98_1 rfl rfl rfl (Za rfl rfl (Zn (b0) A3 rfl rfl rfl ?_)))))))))
  obtain ⟨eM, ew, ak⟩ := Zg ak
  obtain ⟨bj, a6⟩ := eM
  replace ak := un2_eq ak
  refine Za rfl rfl (Tc rfl rfl rfl (Zi rfl (Zi rfl args_nil)) (slices_BinarySearch_int_sim ew b0 (aq.mono aU)).r ?_)
  rintro _ gx ⟨bd, aB, aO, rfl⟩
  refine Za rfl rfl (Zm (v := Value.tuple #[Vi (bj), Value.bool (a6)]) rfl rfl (Za rfl rfl (Exec.extract (v := Vi (bj)) rfl rfl rfl (Za rfl rfl (Exec.extract (v := Value.bool (a6)) rfl rfl rfl (Za rfl rfl (Zo (v := Vi (bj)) rfl rfl (Za rfl rfl (Zo (v := Value.bool (a6)) rfl rfl (Zb (Ze (Zc (W_mid (M := fun f' w' => ∃ (bZ : PHeap) , PHeap.le bd bZ ∧ St w0 bZ (Res.box h 91 [Value.string (a.Name), Vi (a.Cost), p, q, t, i, u] :: Res.arr encGChange 98 ae ac :: Res.box br 98 [am, ai, aj, Vi (g.Atom), Value.bool (g.Add)] :: H) w' ∧ f' 1 = j ∧ f' 2 = Value.pointer (some ⟨h, 0, none⟩) ∧ f' 5 = ae ∧ f' 7 = Value.pointer (some ⟨br, 0, none⟩) ∧ f' 23 = i ∧ f' 24 = Vi ((a.Changes.length : Int)) ∧ f' 25 = Vi ((aS : Int)) ∧ f' 40 = Value.bool ((a6 && g.Add))) ?_ ?_)))))))))))))
  ·refine Zd (WL_passes 2 rfl ?_)
   by_cases an : a6 = true
   ·refine WL_run rfl (Zf rfl (Zx an)) rfl (Zp F98_2 rfl rfl rfl (WL_run rfl (Zf rfl (Zx an)) rfl (Zn (aO) A4 rfl rfl rfl (Za rfl rfl (Zs (v := Value.bool (g.Add)) rfl (Zx an) rfl (Zb (Ze ?_)))))))
    exact ⟨bd, (Zv _), ((aO).f2).f2, aW, b7, b8, rfl, aX, aY, aJ, (Zx (and_t an)).symm⟩
   replace an := Zk an
   refine WL_passes 3 (by rw [an]; rfl) ?_
   refine Zb (Ze ?_)
   exact ⟨bd, (Zv _), ((aO).f2).f2, aW, b7, b8, rfl, aX, aY, aJ, (Zx (and_f an)).symm⟩
  intro fq gy c7
  obtain ⟨be, aC, aP, b9, bA, bB, dy, bC, bD, bE, bF⟩ := c7
  refine (Ze ?_)
  obtain ⟨a0, ao, ak⟩ := Zg ak
  refine W_mid (M := fun f' w' => (fun (a0 : (List GChange)) => ∃ (ca : PHeap) (aI : Value), PHeap.le be ca ∧ St w0 ca (Res.box h 91 [Value.string (a.Name), Vi (a.Cost), p, q, t, i, u] :: Res.arr encGChange 98 aI a0 :: H) w' ∧ f' 1 = j ∧ f' 2 = Value.pointer (some ⟨h, 0, none⟩) ∧ f' 5 = aI ∧ f' 23 = i ∧ f' 24 = Vi ((a.Changes.length : Int)) ∧ f' 25 = Vi ((aS : Int))) a0) ?_ ?_
  ·rcases ite_some ao with ⟨ax, ao⟩ | ⟨ax, ao⟩
   ·refine W_cond_t bF ax (Zd (Za rfl rfl (Zm (v := ae) rfl bB (Za rfl rfl (Exec.load_box_agg (ds := [am, ai, aj, Vi (g.Atom), Value.bool (g.Add)]) ((aP).f2) A98 rfl dy rfl (Za rfl rfl (Exec.buildSlice (Te := 98) (cs := [am, ai, aj, Vi (g.Atom), Value.bool (g.Add)]) aP rfl (parts_cons (c := [am, ai, aj, Vi (g.Atom), Value.bool (g.Add)]) (cells_of rfl rfl) parts_nil) (fun _ => by kernel_rfl) ?_)))))))
    intro eY gz cF
    obtain ⟨fH, ex, ao⟩ := Zg ao
    refine Za rfl rfl (Exec.append_box (E := encGChange) (ys := [g]) (cF).f2 S88 Z98 rfl (by decide) rfl rfl rfl rfl ⟨[am, ai, aj, Vi (g.Atom), Value.bool (g.Add)], [], rfl, ⟨[am, ai, aj], [Vi (g.Atom), Value.bool (g.Add)], rfl, ⟨[am], [ai, aj], rfl, ⟨_, rfl, (bP.mono (Zt aB aC))⟩, ⟨[ai], [aj], rfl, ⟨_, rfl, (bQ.mono (Zt aB aC))⟩, ⟨_, rfl, (bR.mono (Zt aB aC))⟩⟩⟩, ⟨[Vi (g.Atom)], [Value.bool (g.Add)], rfl, rfl, rfl⟩⟩, rfl⟩ rfl ex ?_)
    intro cl g0 cG
    refine Za rfl rfl (Zo (v := cl) rfl rfl (Zb (Ze ?_)))
    have fg := Zu ao
    subst a0
    exact ⟨be, cl, (Zv _), (((cG).f2).drop).f1, b9, bA, rfl, bC, bD, bE⟩
   refine W_cond_f bF ax ?_
   replace ax := Zk ax
   refine W_skip (Ze ?_)
   have fh := Zu ao
   subst a0
   exact ⟨be, ae, (Zv _), ((((aP).f2).drop).f1).f1, b9, bA, bB, bC, bD, bE⟩
  intro fr g1 c8
  obtain ⟨eC, aI, dn, cH, dz, d0, d1, d2, d3, d4⟩ := c8
  refine (ib_normal (Ze (Zd (Za rfl rfl (Exec.add rfl d4 rfl (Za rfl rfl (Zm (v := Vi (IntKind.i64.wrap ((aS : Int) + 1))) rfl rfl (Zb (Ze ?_)))))))))
  have fi := Zu ak
  subst eB
  exact ⟨eC, aI, (Zt (Zt (Zt aU aB) aC) dn), ((cH).f1).f1, dz, d0, d1, d2, d3, (Eq.trans rfl (wrap_up df (SliceRep.le av)))⟩
 intro fs g2 c0
 obtain ⟨cb, ae, n, aQ, d5, d6, bG, fM, d7, eR⟩ := c0
 refine Zc (Zd (Za rfl rfl (Zq rfl eR d7 (Zb (Ze (Zc (W_false (Zx (decide_eq_false (by omega))) (W_exit (at_exit (at_exit (ib_here (Ze (Zc (Zc (Zd (Za rfl rfl (Zm (v := ae) rfl bG (Za rfl rfl (Exec.len_arr ((aQ).f1) S88 rfl rfl (Za rfl rfl (Zm (v := Vi (0)) rfl rfl (Zb (Ze ?_)))))))))))))))))))))))
 obtain ⟨bs, cw, f8, dh, dc⟩ := ctl_some hm
 refine W_mid (M := fun f' w' => ∃ s', (bs = .next s' ∨ bs = .brk s') ∧ (un2 fun (bq : (List GChange)) (co : (List GChange)) => ∃ (aG : PHeap) (bh : Value) (bi : Value), PHeap.le cb aG ∧ St w0 aG (Res.box h 91 [Value.string (a.Name), Vi (a.Cost), p, q, t, i, u] :: H) w' ∧ f' 1 = j ∧ f' 2 = Value.pointer (some ⟨h, 0, none⟩) ∧ f' 5 = bh ∧ f' 46 = bi ∧ f' 47 = Vi ((ac.length : Int)) ∧ SliceRep encGChange aG bh bq ∧ SliceRep encGChange aG bi co) s') ?_ ?_
 ·refine W_block (W_forC (fun k' s' f' w' => (un2 fun (aN : (List GChange)) (bl : (List GChange)) => ∃ (aH : PHeap) (ab : Value) (af : Value), PHeap.le cb aH ∧ St w0 aH (Res.box h 91 [Value.string (a.Name), Vi (a.Cost), p, q, t, i, u] :: H) w' ∧ f' 1 = j ∧ f' 2 = Value.pointer (some ⟨h, 0, none⟩) ∧ f' 5 = ab ∧ f' 46 = af ∧ f' 47 = Vi ((ac.length : Int)) ∧ f' 48 = Vi (k' : Int) ∧ SliceRep encGChange aH ab aN ∧ SliceRep encGChange aH af bl) s') cw ?_ ?_ ?_)
  ·have cI := (aQ).f1
   obtain ⟨eD, dp, cJ, bS⟩ := cI.freezeArr
   exact ⟨eD, ae, ae, dp, cJ, d5, d6, bG, rfl, rfl, rfl, bS, bS⟩
  ·intro al eN cu ft g3 dg c1 ad fD
   obtain ⟨aN, bl⟩ := eN
   replace ad := un2_eq ad
   obtain ⟨bf, ab, af, o, b1, d8, d9, bH, bI, bJ, aK, a9, aA⟩ := c1
   refine Zc (Zd (Za rfl rfl (Zq rfl aK bJ (Zb (Ze (Zc (W_true (Zx (decide_eq_true (by omega))) (W_skip (Ze (Zc (W_block (Zc (Zd (Za rfl rfl (Zm (v := Vi ((al : Int))) rfl aK ?_)))))))))))))))
   obtain ⟨b, ey, ad⟩ := Zg ad
   refine Za rfl rfl (Exec.index_rep S88 rfl bI aK aA ey ?_)
   intro eZ fJ cq
   refine Za rfl rfl (Zw (E := encGChange) b1 A98 rfl rfl rfl cq ?_)
   intro gp ez
   obtain ⟨z, x, y, rfl, bT, bU, bV⟩ := encGChange_val.1 ez
   refine Za rfl rfl (Exec.alloc (cs := [Value.slice none 0 0, Value.slice none 0 0, Value.slice none 0 0, Vi (0), Value.bool (false)]) b1 Z98 rfl rfl ?_)
   intro ag g4 cK
   refine Za rfl rfl (Zo (v := Vi ((al : Int))) rfl rfl (Za rfl rfl (Exec.store_box (ds := [z, x, y, Vi (b.Atom), Value.bool (b.Add)]) (es := [z, x, y, Vi (b.Atom), Value.bool (b.Add)]) cK A98 rfl rfl rfl rfl (Zj (bT).one (Zj (bU).one (Zj (bV).one (Zj rfl (Zj rfl one_nil))))) (Nat.le_of_ble_eq_true rfl) rfl ?_)))
   intro g5 cL
   refine Zb (Ze (Zc (Zc (Zd (Za rfl rfl (Zm (v := ab) rfl bH (Za rfl rfl (Zm (v := Vi ((al : Int))) rfl rfl ?_))))))))
   obtain ⟨bt, e0, ad⟩ := Zg ad
   refine Za rfl rfl (Exec.slice_to S88 rfl rfl rfl a9 e0 ?_)
   intro cm bW
   refine Za rfl rfl (Zr S88 rfl rfl bW (Za rfl rfl (Zm (v := Vi (0)) rfl rfl (Zb (Ze ?_)))))
   obtain ⟨bu, cx, f9, di, dd⟩ := ctl_some ad
   refine W_mid (M := fun f' w' => ∃ s', (bu = .next s' ∨ bu = .brk s') ∧ (fun (_ : Unit) => ∃ (cc : PHeap) , PHeap.le bf cc ∧ St w0 cc (Res.box h 91 [Value.string (a.Name), Vi (a.Cost), p, q, t, i, u] :: Res.box ag 98 [z, x, y, Vi (b.Atom), Value.bool (b.Add)] :: H) w' ∧ f' 1 = j ∧ f' 2 = Value.pointer (some ⟨h, 0, none⟩) ∧ f' 5 = ab ∧ f' 11 = Value.pointer (some ⟨ag, 0, none⟩) ∧ f' 46 = af ∧ f' 47 = Vi ((ac.length : Int)) ∧ f' 48 = Vi ((al : Int)) ∧ f' 55 = cm ∧ f' 56 = Vi ((bt.length : Int))) s') ?_ ?_
   ·refine W_block (W_forC (fun k' s' f' w' => (fun (_ : Unit) => ∃ (cd : PHeap) , PHeap.le bf cd ∧ St w0 cd (Res.box h 91 [Value.string (a.Name), Vi (a.Cost), p, q, t, i, u] :: Res.box ag 98 [z, x, y, Vi (b.Atom), Value.bool (b.Add)] :: H) w' ∧ f' 1 = j ∧ f' 2 = Value.pointer (some ⟨h, 0, none⟩) ∧ f' 5 = ab ∧ f' 11 = Value.pointer (some ⟨ag, 0, none⟩) ∧ f' 46 = af ∧ f' 47 = Vi ((ac.length : Int)) ∧ f' 48 = Vi ((al : Int)) ∧ f' 55 = cm ∧ f' 56 = Vi ((bt.length : Int)) ∧ f' 57 = Vi (k' : Int)) s') cx ?_ ?_ ?_)
    ·have cM := (cL).f1
     exact ⟨bf, (Zv _), cM, d8, d9, bH, rfl, bI, bJ, aK, rfl, rfl, rfl⟩
    ·intro fG gi ff fu g6 f7 c2 aR fE
     obtain ⟨gg, dq, b2, fN, fO, fP, fQ, fR, fS, fT, dA, dB, cn⟩ := c2
     refine Zc (Zd (Za rfl rfl (Zq rfl cn dB (Zb (Ze (Zc (W_true (Zx (decide_eq_true (by omega))) (W_skip (Ze (Zc (W_block (Zc (Zd ?_)))))))))))))
     obtain ⟨aL, e1, aR⟩ := Zg aR
     refine Za rfl rfl (Exec.index_rep S88 rfl dA cn (bW.mono dq) e1 ?_)
     intro fa fK cr
     refine Za rfl rfl (Zw (E := encGChange) b2 A98 rfl rfl rfl cr ?_)
     intro gq e2
     obtain ⟨ci, cj, ck, rfl, e7, e8, e9⟩ := encGChange_val.1 e2
     refine Za rfl rfl (Exec.alloc (cs := [Value.slice none 0 0, Value.slice none 0 0, Value.slice none 0 0, Vi (0), Value.bool (false)]) b2 Z98 rfl rfl ?_)
     intro fb g7 cN
     refine Za rfl rfl (Exec.store_box (ds := [ci, cj, ck, Vi (aL.Atom), Value.bool (aL.Add)]) (es := [ci, cj, ck, Vi (aL.Atom), Value.bool (aL.Add)]) cN A98 rfl rfl rfl rfl (Zj (e7).one (Zj (e8).one (Zj (e9).one (Zj rfl (Zj rfl one_nil))))) (Nat.le_of_ble_eq_true rfl) rfl ?_)
     intro g8 f6
     refine Zb (Ze (Zc (Zc ?_)))
     cases aR
    intro gj fv g9 c3 dk
    obtain ⟨eE, dr, cO, dC, dD, dE, dF, dG, dH, dI, dJ, bK, eS⟩ := c3
    refine Zc (Zd (Za rfl rfl (Zq rfl eS bK (Zb (Ze (Zc (W_false (Zx (decide_eq_false (by omega))) (W_exit (at_exit (at_exit (ib_here (Ze ?_))))))))))))
    refine ⟨_, .inl dk, ?_⟩; exact ⟨eE, dr, ((cO).f1).f1, dC, dD, dE, dF, dG, dH, dI, dJ, bK⟩
   rintro fw gA ⟨gk, b3, c9⟩
   have ad := b3.elim (di _) (dd _)
   clear b3
   obtain ⟨bg, d, cP, bL, dK, dL, dM, dN, dO, dP, fU, fV⟩ := c9
   refine (Ze (Zc (Zd (Za rfl rfl (Zm (v := j) rfl bL (Za rfl rfl (Zr S24 rfl rfl (aq.mono (Zt (Zt n o) d)) (Za rfl rfl (Zm (v := Vi (0)) rfl rfl (Zb (Ze ?_)))))))))))
   obtain ⟨bv, cy, fA, dj, de⟩ := ctl_some ad
   refine W_mid (M := fun f' w' => ∃ s', (bv = .next s' ∨ bv = .brk s') ∧ (fun (_ : Unit) => ∃ (ce : PHeap) , PHeap.le bg ce ∧ St w0 ce (Res.box h 91 [Value.string (a.Name), Vi (a.Cost), p, q, t, i, u] :: Res.box ag 98 [z, x, y, Vi (b.Atom), Value.bool (b.Add)] :: H) w' ∧ f' 1 = j ∧ f' 2 = Value.pointer (some ⟨h, 0, none⟩) ∧ f' 5 = ab ∧ f' 11 = Value.pointer (some ⟨ag, 0, none⟩) ∧ f' 46 = af ∧ f' 47 = Vi ((ac.length : Int)) ∧ f' 48 = Vi ((al : Int)) ∧ f' 87 = j ∧ f' 88 = Vi ((aw.length : Int))) s') ?_ ?_
   ·refine W_block (W_forC (fun k' s' f' w' => (fun (_ : Unit) => ∃ (cf : PHeap) , PHeap.le bg cf ∧ St w0 cf (Res.box h 91 [Value.string (a.Name), Vi (a.Cost), p, q, t, i, u] :: Res.box ag 98 [z, x, y, Vi (b.Atom), Value.bool (b.Add)] :: H) w' ∧ f' 1 = j ∧ f' 2 = Value.pointer (some ⟨h, 0, none⟩) ∧ f' 5 = ab ∧ f' 11 = Value.pointer (some ⟨ag, 0, none⟩) ∧ f' 46 = af ∧ f' 47 = Vi ((ac.length : Int)) ∧ f' 48 = Vi ((al : Int)) ∧ f' 87 = j ∧ f' 88 = Vi ((aw.length : Int)) ∧ f' 89 = Vi (k' : Int)) s') cy ?_ ?_ ?_)
    ·have cQ := (cP).f1
     exact ⟨bg, (Zv _), (cQ).f1, bL, dK, dL, dM, dN, dO, dP, rfl, rfl, rfl⟩
    ·intro aT gl bw fx gB b6 c4 l fF
     obtain ⟨eF, m, ar, aD, a1, aZ, a2, ba, bb, bc, aE, aF, a5⟩ := c4
     refine Zc (Zd (Za rfl rfl (Zq rfl a5 aF (Zb (Ze (Zc (W_true (Zx (decide_eq_true (by omega))) (W_skip (Ze (Zc (W_block (Zc (Zd ?_)))))))))))))
     obtain ⟨aM, e3, l⟩ := Zg l
     refine Za rfl rfl (Exec.index_rep S24 rfl aE a5 (aq.mono (Zt (Zt (Zt n o) d) m)) e3 ?_)
     intro fc fL ct
     refine Za rfl rfl (Zw (E := (encInt .i64)) ar A3 rfl rfl rfl ct ?_)
     intro gr e4
     obtain rfl := encInt_val.1 e4
     refine Za rfl rfl (Zo (v := Vi (aM)) rfl rfl (Zb (Ze (Zc (Zc (Zd (Za rfl rfl (Zm (v := Vi (aM)) rfl rfl (Za rfl rfl (Zp F98_1 rfl a2 rfl (Za rfl rfl (Zn ((ar).f1) A3 rfl rfl rfl (Za rfl rfl (Exec.eql rfl rfl rfl (Zb (Ze ?_))))))))))))))))
     rcases ite_some l with ⟨ay, l⟩ | ⟨ay, l⟩
     ·refine W_cond_t rfl ay (W_exit (at_exit (ib_here (Ze (Zd (Za rfl rfl (Exec.add rfl a5 rfl (Za rfl rfl (Zm (v := Vi (IntKind.i64.wrap ((aT : Int) + 1))) rfl rfl (Zb (Ze ?_)))))))))))
      have fj := Zu l
      subst bw
      refine ⟨_, rfl, ?_⟩; exact ⟨eF, m, ((ar).f1).f1, aD, a1, aZ, a2, ba, bb, bc, aE, aF, (Eq.trans rfl (wrap_up b6 (SliceRep.le (aq.mono (Zt (Zt n o) d)))))⟩
     refine W_cond_f rfl ay ?_
     replace ay := Zk ay
     refine W_skip (Ze (Zc (Zd (Za rfl rfl (Exec.load_box_agg (ds := [Value.string (a.Name), Vi (a.Cost), p, q, t, i, u]) (ar) A91 rfl a1 rfl (Za rfl rfl (Exec.load_box_agg (ds := [z, x, y, Vi (b.Atom), Value.bool (b.Add)]) ((ar).f1) A98 rfl a2 rfl (Za rfl rfl (Exec.buildSlice (Te := 98) (cs := [z, x, y, Vi (b.Atom), Value.bool (b.Add)]) ar rfl (parts_cons (c := [z, x, y, Vi (b.Atom), Value.bool (b.Add)]) (cells_of rfl rfl) parts_nil) (fun _ => by kernel_rfl) ?_)))))))))
     intro fd gC cR
     refine Za rfl rfl (Zm (v := Vi (aM)) rfl rfl (Za rfl rfl (Zm (v := j) rfl aD ?_)))
     have cS := St.boxArr (E := encGChange) (xs := [b]) cR ⟨[z, x, y, Vi (b.Atom), Value.bool (b.Add)], [], rfl, ⟨[z, x, y], [Vi (b.Atom), Value.bool (b.Add)], rfl, ⟨[z], [x, y], rfl, ⟨_, rfl, (bT.mono (Zt d m))⟩, ⟨[x], [y], rfl, ⟨_, rfl, (bU.mono (Zt d m))⟩, ⟨_, rfl, (bV.mono (Zt d m))⟩⟩⟩, ⟨[Vi (b.Atom)], [Value.bool (b.Add)], rfl, rfl, rfl⟩⟩, rfl⟩ (by simp [maxLen])
     obtain ⟨gh, aa, cT, eA⟩ := cS.freezeArr
     obtain ⟨eO, e5, l⟩ := Zg l
     obtain ⟨bk, gM⟩ := eO
     replace l := un2_eq l
     refine Za rfl rfl (Tc rfl rfl rfl (Zi rfl (Zi rfl (Zi rfl (Zi rfl args_nil)))) (invariant_situation_sim e5 cT (bm.mono (Zt (Zt (Zt (Zt n o) d) m) aa)) (bn.mono (Zt (Zt (Zt (Zt n o) d) m) aa)) (bo.mono (Zt (Zt (Zt (Zt n o) d) m) aa)) (av.mono (Zt (Zt (Zt (Zt n o) d) m) aa)) (bp.mono (Zt (Zt (Zt (Zt n o) d) m) aa)) eA (aq.mono (Zt (Zt (Zt (Zt n o) d) m) aa))).r ?_)
     rintro _ gD ⟨cg, a3, a4, au, cU, rfl⟩
     refine Za rfl rfl (Zm (v := Value.tuple #[Value.agg #[Value.map (some a3), Value.map (some a4)], Value.bool (bk)]) rfl rfl (Za rfl rfl (Exec.extract (v := Value.agg #[Value.map (some a3), Value.map (some a4)]) rfl rfl rfl (Za rfl rfl (Exec.extract (v := Value.bool (bk)) rfl rfl rfl (Za rfl rfl (Exec.alloc (cs := [Value.map none, Value.map none]) cU Z150 rfl rfl ?_)))))))
     intro fe gE cV
     refine Za rfl rfl (Exec.store_box (ds := [Value.map (some a3), Value.map (some a4)]) (es := [Value.map (some a3), Value.map (some a4)]) cV A150 rfl rfl rfl rfl (Zj rfl (Zj rfl one_nil)) (Nat.le_of_ble_eq_true rfl) rfl ?_)
     intro gF a8
     refine Za rfl rfl (Zo (v := Value.bool (bk)) rfl rfl (Zb (Ze (Zc ?_))))
     obtain ⟨a7, ap, l⟩ := Zg l
     refine W_mid (M := fun f' w' => (fun (a7 : Bool) => ∃ (ch : PHeap) , PHeap.le cg ch ∧ St w0 ch (Res.box h 91 [Value.string (a.Name), Vi (a.Cost), p, q, t, i, u] :: Res.box ag 98 [z, x, y, Vi (b.Atom), Value.bool (b.Add)] :: H) w' ∧ f' 1 = j ∧ f' 2 = Value.pointer (some ⟨h, 0, none⟩) ∧ f' 5 = ab ∧ f' 11 = Value.pointer (some ⟨ag, 0, none⟩) ∧ f' 46 = af ∧ f' 47 = Vi ((ac.length : Int)) ∧ f' 48 = Vi ((al : Int)) ∧ f' 87 = j ∧ f' 88 = Vi ((aw.length : Int)) ∧ f' 89 = Vi ((aT : Int)) ∧ f' 113 = Value.bool (a7)) a7) ?_ ?_
     ·refine Zd (WL_passes 2 rfl ?_)
      rcases ite_some ap with ⟨ah, ap⟩ | ⟨ah, ap⟩
      ·refine WL_run rfl (Zf rfl (Zx ah)) rfl (Exec.load_box_agg (ds := [Value.map (some a3), Value.map (some a4)]) (a8) A150 rfl rfl rfl (WL_run rfl (Zf rfl (Zx ah)) rfl (Exec.load_box_agg (ds := [Value.string (a.Name), Vi (a.Cost), p, q, t, i, u]) ((a8).f3) A91 rfl a1 rfl (WL_run rfl (Zf rfl (Zx ah)) rfl (Zm (v := Vi (aM)) rfl rfl ?_)))))
       obtain ⟨eW, e6, ap⟩ := Zg ap
       refine WL_run rfl (Zf rfl (Zx ah)) rfl (Tc rfl rfl rfl (Zi rfl (Zi rfl (Zi rfl args_nil))) (invariant_literals_deletes_o_sim e6 ((a8).f2).f2 (bm.mono (Zt (Zt (Zt (Zt (Zt n o) d) m) aa) au)) (bn.mono (Zt (Zt (Zt (Zt (Zt n o) d) m) aa) au)) (bo.mono (Zt (Zt (Zt (Zt (Zt n o) d) m) aa) au)) (av.mono (Zt (Zt (Zt (Zt (Zt n o) d) m) aa) au)) (bp.mono (Zt (Zt (Zt (Zt (Zt n o) d) m) aa) au))).r ?_)
       rintro _ gG ⟨eG, dt, cW, rfl⟩
       refine WL_run rfl (Zf rfl (Zx ah)) rfl (Exec.not rfl rfl (Za rfl rfl (Zs (v := Value.bool (!eW)) rfl (Zx ah) rfl (Zb (Ze ?_)))))
       have fk := Zu ap
       subst a7
       exact ⟨eG, dt, (((((cW).drop).drop).drop).f1).f1, aD, a1, aZ, a2, ba, bb, bc, aE, aF, a5, rfl⟩
      replace ah := Zk ah
      refine WL_passes 6 (by rw [ah]; rfl) ?_
      refine Zb (Ze ?_)
      have fl := Zu ap
      subst a7
      exact ⟨cg, (Zv _), (((((a8).drop).drop).drop).f1).f1, aD, a1, aZ, a2, ba, bb, bc, aE, aF, a5, rfl⟩
     intro fy gH cA
     obtain ⟨eH, du, cX, dQ, dR, dS, dT, dU, dV, dW, dX, dY, dZ, bM⟩ := cA
     refine (Ze ?_)
     rcases ite_some l with ⟨az, l⟩ | ⟨az, l⟩
     ·refine W_cond_t bM az (Zc ?_)
      cases l
     refine W_cond_f bM az ?_
     replace az := Zk az
     refine W_skip (ib_normal (Ze (Zd (Za rfl rfl (Exec.add rfl dZ rfl (Za rfl rfl (Zm (v := Vi (IntKind.i64.wrap ((aT : Int) + 1))) rfl rfl (Zb (Ze ?_)))))))))
     have fm := Zu l
     subst bw
     refine ⟨_, rfl, ?_⟩; exact ⟨eH, (Zt (Zt (Zt m aa) au) du), ((cX).f1).f1, dQ, dR, dS, dT, dU, dV, dW, dX, dY, (Eq.trans rfl (wrap_up b6 (SliceRep.le (aq.mono (Zt (Zt n o) d)))))⟩
    intro gm fz gI c5 dl
    obtain ⟨eI, dv, cY, ea, eb, ec, ed, ee, ef, eg, eh, bN, eT⟩ := c5
    refine Zc (Zd (Za rfl rfl (Zq rfl eT bN (Zb (Ze (Zc (W_false (Zx (decide_eq_false (by omega))) (W_exit (at_exit (at_exit (ib_here (Ze ?_))))))))))))
    refine ⟨_, .inl dl, ?_⟩; exact ⟨eI, dv, ((cY).f1).f1, ea, eb, ec, ed, ee, ef, eg, eh, bN⟩
   rintro f0 gJ ⟨gn, b4, cB⟩
   have ad := b4.elim (dj _) (de _)
   clear b4
   obtain ⟨eJ, aV, cZ, ei, ej, ek, fW, el, em, en, fX, fY⟩ := cB
   refine (ib_normal (Ze (Zd (Za rfl rfl (Exec.add rfl en rfl (Za rfl rfl (Zm (v := Vi (IntKind.i64.wrap ((al : Int) + 1))) rfl rfl (Zb (Ze ?_)))))))))
   have fn := Zu ad
   subst cu
   refine ⟨_, rfl, ?_⟩; exact ⟨eJ, ab, af, (Zt (Zt o d) aV), ((cZ).f1).drop, ei, ej, ek, el, em, (Eq.trans rfl (wrap_up dg ((aQ).f1).arr_le)), (a9.mono (Zt d aV)), (aA.mono (Zt d aV))⟩
  intro eP f4 gK c6 dm
  obtain ⟨aN, bl⟩ := eP
  obtain ⟨eK, ab, af, dw, da, eo, ep, er, et, bO, eU, a9, aA⟩ := c6
  refine Zc (Zd (Za rfl rfl (Zq rfl eU bO (Zb (Ze (Zc (W_false (Zx (decide_eq_false (by omega))) (W_exit (at_exit (at_exit (ib_here (Ze ?_))))))))))))
  refine ⟨_, .inl dm, ?_⟩; exact ⟨eK, ab, af, dw, da, eo, ep, er, et, bO, a9, aA⟩
 rintro f5 gL ⟨eQ, b5, cC⟩
 have hm := b5.elim (dh _) (dc _)
 clear b5
 obtain ⟨bq, co⟩ := eQ
 replace hm := un2_eq hm
 obtain ⟨eL, bh, bi, dx, db, fZ, ga, gb, gc, gd, fB, fC⟩ := cC
 refine (Ze (Zc (Zd (Za rfl rfl (Zo (v := Value.bool (true)) rfl rfl (Zb (Ze (W_ret ?_))))))))
 have fo := Zu hm
 subst r
 refine ⟨_, ret1 rfl, ?_⟩
 exact ⟨eL, (Zt n dx), (db).drop, rfl⟩
theorem invariant_balanced_sim {w0 w : World} {s : PHeap} {H : List Res} {l : Ground} {ae : (List Int)} {aa : Value} {ab : Value} {n : Value} {ac : Value} {o : Value} {b : Value} {r : Bool} (hm : invariant_balanced_p l ae = some r) (hS : St w0 s (H) w) (aT : SliceRep encAtom s aa l.Atoms) (bV : SliceRep encGFluent s ab l.Fluents) (a0 : SliceRep (encInt .i64) s n l.Init) (bW : SliceRep encCond s ac l.Goal) (ap : SliceRep encGOp s o l.Ops) (y : SliceRep (encInt .i64) s b ae) :
  Calls Tryz.prog 45 #[Value.agg #[aa, ab, n, ac, o], b] w fun e w' => ∃ v, e = .returned v ∧ ((fun (bU : Bool) => ∃ (aM : PHeap) , PHeap.le s aM ∧ St w0 aM (H) w' ∧ v = Value.bool (bU)) r) := by
 unfold invariant_balanced_p at hm
 refine calls_of_W Tryz.func45 rfl rfl (Zc (Zd (Za rfl rfl (Exec.box (cs := [aa, ab, n, ac, o]) hS rfl rfl rfl ?_))))
 intro z cD bi
 refine Za rfl rfl (Zo (v := Value.bool (false)) rfl rfl (Zb (Ze (Zc (Zc (Zd (Za rfl rfl (Zm (v := b) rfl rfl (Za rfl rfl (Zr S24 rfl rfl y (Za rfl rfl (Zm (v := Vi (0)) rfl rfl (Zb (Ze ?_))))))))))))))
 obtain ⟨a1, aZ, cp, bu, bq⟩ := ctl_some hm
 refine W_mid (M := fun f' w' => ∃ s', (a1 = .next s' ∨ a1 = .brk s') ∧ (fun (_ : Unit) => ∃ (aN : PHeap) , PHeap.le s aN ∧ St w0 aN (Res.box z 28 [aa, ab, n, ac, o] :: H) w' ∧ f' 1 = b ∧ f' 2 = Value.pointer (some ⟨z, 0, none⟩) ∧ f' 9 = b ∧ f' 10 = Vi ((ae.length : Int))) s') ?_ ?_
 ·refine W_block (W_forC (fun k' s' f' w' => (fun (_ : Unit) => ∃ (aO : PHeap) , PHeap.le s aO ∧ St w0 aO (Res.box z 28 [aa, ab, n, ac, o] :: H) w' ∧ f' 1 = b ∧ f' 2 = Value.pointer (some ⟨z, 0, none⟩) ∧ f' 9 = b ∧ f' 10 = Vi ((ae.length : Int)) ∧ f' 11 = Vi (k' : Int)) s') aZ ?_ ?_ ?_)
  ·exact ⟨s, (Zv _), bi, rfl, rfl, rfl, rfl, rfl⟩
  ·intro q c4 aX ci cE bs bb i cr
   obtain ⟨an, ao, p, aj, ak, al, am, t⟩ := bb
   refine Zc (Zd (Za rfl rfl (Zq rfl t am (Zb (Ze (Zc (W_true (Zx (decide_eq_true (by omega))) (W_skip (Ze (Zc (W_block (Zc (Zd (Za rfl rfl (Zm (v := Vi ((q : Int))) rfl t ?_)))))))))))))))
   obtain ⟨u, bF, i⟩ := Zg i
   refine Za rfl rfl (Exec.index_rep S24 rfl al t (y.mono ao) bF ?_)
   intro bX cu aU
   refine Za rfl rfl (Zw (E := (encInt .i64)) p A3 rfl rfl rfl aU ?_)
   intro cA bG
   obtain rfl := encInt_val.1 bG
   refine Za rfl rfl (Zo (v := Vi ((q : Int))) rfl rfl (Za rfl rfl (Zo (v := Vi (u)) rfl rfl (Zb (Ze (Zc ?_))))))
   obtain ⟨x, a, i⟩ := Zg i
   refine W_mid (M := fun f' w' => (fun (x : Bool) => ∃ (aP : PHeap) , PHeap.le an aP ∧ St w0 aP (Res.box z 28 [aa, ab, n, ac, o] :: H) w' ∧ f' 1 = b ∧ f' 2 = Value.pointer (some ⟨z, 0, none⟩) ∧ f' 9 = b ∧ f' 10 = Vi ((ae.length : Int)) ∧ f' 11 = Vi ((q : Int)) ∧ f' 37 = Value.bool (x)) x) ?_ ?_
   ·refine Zd (Za rfl rfl (Zm (v := Vi (u)) rfl rfl (Za rfl rfl (Zq rfl rfl rfl (Za rfl rfl (Zm (v := Value.bool (decide (u < 0))) rfl rfl ?_))))))
    rcases ite_some a with ⟨h, a⟩ | ⟨h, a⟩
    ·refine WL_passes 19 (by rw [h]; rfl) ?_
     refine Zb (Ze ?_)
     have cb := Zu a
     subst x
     exact ⟨an, (Zv _), p, aj, ak, al, am, t, rfl⟩
    replace h := Zk h
    refine WL_run rfl (Zf rfl (Zx h)) rfl (Zm (v := Vi (u)) rfl rfl (WL_run rfl (Zf rfl (Zx h)) rfl (Zp F28_0 rfl ak rfl (WL_run rfl (Zf rfl (Zx h)) rfl (Zn (p) A22 rfl rfl rfl (WL_run rfl (Zf rfl (Zx h)) rfl (Zr S22 rfl rfl (aT.mono ao) (WL_run rfl (Zf rfl (Zx h)) rfl (Exec.geq rfl rfl rfl ?_)))))))))
    refine WL_passes 2 (by rw [h]; rfl) ?_
    rcases ite_some a with ⟨g, a⟩ | ⟨g, a⟩
    ·refine WL_passes 12 (by rw [g]; rfl) ?_
     refine Zb (Ze ?_)
     have cc := Zu a
     subst x
     exact ⟨an, (Zv _), p, aj, ak, al, am, t, rfl⟩
    replace g := Zk g
    refine WL_run rfl (Zf rfl (Zx g)) rfl (Zm (v := Vi ((q : Int))) rfl rfl (WL_run rfl (Zf rfl (Zx g)) rfl (Exec.gtr rfl rfl rfl (WL_run rfl (Zf rfl (Zx g)) rfl (Zm (v := Value.bool (decide (0 < (q : Int)))) rfl rfl ?_)))))
    rcases ite_some a with ⟨d, a⟩ | ⟨d, a⟩
    ·refine WL_run rfl (Zf rfl (Zx d)) rfl (Zm (v := b) rfl aj (WL_run rfl (Zf rfl (Zx d)) rfl (Zm (v := Vi ((q : Int))) rfl rfl (WL_run rfl (Zf rfl (Zx d)) rfl (Exec.sub rfl rfl rfl ?_)))))
     obtain ⟨aS, bH, a⟩ := Zg a
     refine WL_run rfl (Zf rfl (Zx d)) rfl (Exec.index_rep S24 rfl rfl rfl (y.mono ao) bH ?_)
     intro bY cv aV
     refine WL_run rfl (Zf rfl (Zx d)) rfl (Zw (E := (encInt .i64)) p A3 rfl rfl rfl aV ?_)
     intro cB bI
     obtain rfl := encInt_val.1 bI
     refine WL_run rfl (Zf rfl (Zx d)) rfl (Zm (v := Vi (u)) rfl rfl (WL_run rfl (Zf rfl (Zx d)) rfl (Exec.geq rfl rfl rfl (WL_run rfl (Zf rfl (Zx g)) rfl (Zs (v := Value.bool (decide (u ≤ aS))) rfl (Zx d) rfl (Za rfl rfl (Exec.pick_f (v := Value.bool (decide (u ≤ aS))) rfl (Zx g) rfl (Zb (Ze ?_)))))))))
     have cd := Zu a
     subst x
     exact ⟨an, (Zv _), p, aj, ak, al, am, t, rfl⟩
    replace d := Zk d
    refine WL_passes 7 (by rw [d]; rfl) ?_
    refine WL_run rfl (Zf rfl (Zx g)) rfl (Exec.pick_f (v := Value.bool (false)) rfl rfl rfl (Za rfl rfl (Exec.pick_f (v := Value.bool (false)) rfl (Zx g) rfl (Zb (Ze ?_)))))
    have ce := Zu a
    subst x
    exact ⟨an, (Zv _), p, aj, ak, al, am, t, rfl⟩
   intro cj cF bf
   obtain ⟨bN, b0, bj, b5, b6, b7, b8, b9, a9⟩ := bf
   refine (Ze ?_)
   rcases ite_some i with ⟨af, i⟩ | ⟨af, i⟩
   ·refine W_cond_t a9 af (Zc ?_)
    cases i
   refine W_cond_f a9 af ?_
   replace af := Zk af
   refine W_skip (ib_normal (Ze (Zd (Za rfl rfl (Exec.add rfl b9 rfl (Za rfl rfl (Zm (v := Vi (IntKind.i64.wrap ((q : Int) + 1))) rfl rfl (Zb (Ze ?_)))))))))
   have cf := Zu i
   subst aX
   refine ⟨_, rfl, ?_⟩; exact ⟨bN, (Zt ao b0), bj, b5, b6, b7, b8, (Eq.trans rfl (wrap_up bs (SliceRep.le y)))⟩
  intro c5 ck cG bc bw
  obtain ⟨bO, b1, bk, bA, bB, bC, aA, bS⟩ := bc
  refine Zc (Zd (Za rfl rfl (Zq rfl bS aA (Zb (Ze (Zc (W_false (Zx (decide_eq_false (by omega))) (W_exit (at_exit (at_exit (ib_here (Ze ?_))))))))))))
  refine ⟨_, .inl bw, ?_⟩; exact ⟨bO, b1, bk, bA, bB, bC, aA⟩
 rintro cl cH ⟨c6, a7, bg⟩
 have hm := a7.elim (bu _) (bq _)
 clear a7
 obtain ⟨c2, m, a3, aB, aC, cx, cy⟩ := bg
 refine (Ze (Zc (Zc (Zd (Za rfl rfl (Zp F28_2 rfl aC rfl (Za rfl rfl (Zn (a3) A24 rfl rfl rfl (Za rfl rfl (Exec.build rfl (parts_cons (c := [n]) (cells_of rfl (cells_one ((a0.mono m)).one)) parts_nil) (v := Value.agg #[n, Value.slice none 0 0]) (fun _ => by kernel_rfl) (Za rfl rfl (Zm (v := b) rfl aB ?_))))))))))))
 obtain ⟨cP, bJ, hm⟩ := Zg hm
 refine Za rfl rfl (Tc rfl rfl rfl (Zi rfl (Zi rfl args_nil)) (invariant_Holds_sim bJ a3 (a0.mono m) (SliceRep.nil _ _) (y.mono m)).r ?_)
 rintro _ cI ⟨ar, ai, a4, rfl⟩
 refine Za rfl rfl (Exec.not rfl rfl (Zb (Ze ?_)))
 rcases ite_some hm with ⟨ag, hm⟩ | ⟨ag, hm⟩
 ·refine W_cond_t rfl ag (Zc ?_)
  cases hm
 refine W_cond_f rfl ag ?_
 replace ag := Zk ag
 refine W_skip (Ze (Zc (Zc (Zd (Za rfl rfl (Zp F28_4 rfl aC rfl (Za rfl rfl (Zn (a4) A26 rfl rfl rfl (Za rfl rfl (Zr S26 rfl rfl (ap.mono (Zt m ai)) (Za rfl rfl (Zm (v := Vi (0)) rfl rfl (Zb (Ze ?_))))))))))))))
 obtain ⟨a2, ba, cq, bv, br⟩ := ctl_some hm
 refine W_mid (M := fun f' w' => ∃ s', (a2 = .next s' ∨ a2 = .brk s') ∧ (fun (_ : Unit) => ∃ (aQ : PHeap) , PHeap.le ar aQ ∧ St w0 aQ (H) w' ∧ f' 1 = b ∧ f' 46 = o ∧ f' 47 = Vi ((l.Ops.length : Int))) s') ?_ ?_
 ·refine W_block (W_forC (fun k' s' f' w' => (fun (_ : Unit) => ∃ (aR : PHeap) , PHeap.le ar aR ∧ St w0 aR (H) w' ∧ f' 1 = b ∧ f' 46 = o ∧ f' 47 = Vi ((l.Ops.length : Int)) ∧ f' 48 = Vi (k' : Int)) s') ba ?_ ?_ ?_)
  ·have bl := (a4).drop
   exact ⟨ar, (Zv _), bl, aB, rfl, rfl, rfl⟩
  ·intro bz c7 aY cm cJ bt bd j ct
   obtain ⟨c3, aq, a5, aD, aE, aF, az⟩ := bd
   refine Zc (Zd (Za rfl rfl (Zq rfl az aF (Zb (Ze (Zc (W_true (Zx (decide_eq_true (by omega))) (W_skip (Ze (Zc (W_block (Zc (Zd ?_)))))))))))))
   obtain ⟨ad, bK, j⟩ := Zg j
   refine Za rfl rfl (Exec.index_rep S26 rfl aE az (ap.mono (Zt (Zt m ai) aq)) bK ?_)
   intro bZ cw aW
   refine Za rfl rfl (Zw (E := encGOp) a5 A91 rfl rfl rfl aW ?_)
   intro cC bL
   obtain ⟨au, av, aw, ax, ay, rfl, aH, aI, aJ, aK, aL⟩ := encGOp_val.1 bL
   refine Za rfl rfl (Exec.alloc (cs := [Value.string (⟨#[]⟩), Vi (0), Value.slice none 0 0, Value.slice none 0 0, Value.slice none 0 0, Value.slice none 0 0, Value.slice none 0 0]) a5 Z91 rfl rfl ?_)
   intro ca cK bm
   refine Za rfl rfl (Exec.store_box (ds := [Value.string (ad.Name), Vi (ad.Cost), au, av, aw, ax, ay]) (es := [Value.string (ad.Name), Vi (ad.Cost), au, av, aw, ax, ay]) bm A91 rfl rfl rfl rfl (Zj rfl (Zj rfl (Zj (aH).one (Zj (aI).one (Zj (aJ).one (Zj (aK).one (Zj (aL).one one_nil))))))) (Nat.le_of_ble_eq_true rfl) rfl ?_)
   intro cL a6
   refine Zb (Ze (Zc (Zd (Za rfl rfl (Exec.load_box_agg (ds := [Value.string (ad.Name), Vi (ad.Cost), au, av, aw, ax, ay]) (a6) A91 rfl rfl rfl (Za rfl rfl (Zm (v := b) rfl aD ?_)))))))
   obtain ⟨cQ, bM, j⟩ := Zg j
   refine Za rfl rfl (Tc rfl rfl rfl (Zi rfl (Zi rfl args_nil)) (invariant_keeps_sim bM a6 aH aI aJ aK aL (y.mono (Zt (Zt m ai) aq))).r ?_)
   rintro _ cM ⟨bP, b2, bn, rfl⟩
   refine Za rfl rfl (Exec.not rfl rfl (Zb (Ze ?_)))
   rcases ite_some j with ⟨ah, j⟩ | ⟨ah, j⟩
   ·refine W_cond_t rfl ah (Zc ?_)
    cases j
   refine W_cond_f rfl ah ?_
   replace ah := Zk ah
   refine W_skip (ib_normal (Ze (Zd (Za rfl rfl (Exec.add rfl az rfl (Za rfl rfl (Zm (v := Vi (IntKind.i64.wrap ((bz : Int) + 1))) rfl rfl (Zb (Ze ?_)))))))))
   have cg := Zu j
   subst aY
   refine ⟨_, rfl, ?_⟩; exact ⟨bP, (Zt aq b2), (bn).drop, aD, aE, aF, (Eq.trans rfl (wrap_up bt (SliceRep.le (ap.mono (Zt m ai)))))⟩
  intro c8 cn cN be bx
  obtain ⟨bQ, b3, bo, bD, bE, aG, bT⟩ := be
  refine Zc (Zd (Za rfl rfl (Zq rfl bT aG (Zb (Ze (Zc (W_false (Zx (decide_eq_false (by omega))) (W_exit (at_exit (at_exit (ib_here (Ze ?_))))))))))))
  refine ⟨_, .inl bx, ?_⟩; exact ⟨bQ, b3, bo, bD, bE, aG⟩
 rintro co cO ⟨c9, a8, bh⟩
 have hm := a8.elim (bv _) (br _)
 clear a8
 obtain ⟨bR, b4, bp, cz, c0, c1⟩ := bh
 refine (Ze (Zc (Zd (Za rfl rfl (Zo (v := Value.bool (true)) rfl rfl (Zb (Ze (W_ret ?_))))))))
 have ch := Zu hm
 subst r
 refine ⟨_, ret1 rfl, ?_⟩
 exact ⟨bR, (Zt (Zt m ai) b4), bp, rfl⟩
theorem invariant_Balanced_sim {w0 w : World} {s : PHeap} {H : List Res} {d : Ground} {x : (List Int)} {g : Value} {h : Value} {i : Value} {j : Value} {k : Value} {n : Value} {r : Bool} (hm : invariant_Balanced_p d x = some r) (hS : St w0 s (H) w) (o : SliceRep encAtom s g d.Atoms) (p : SliceRep encGFluent s h d.Fluents) (q : SliceRep (encInt .i64) s i d.Init) (t : SliceRep encCond s j d.Goal) (u : SliceRep encGOp s k d.Ops) (ab : SliceRep (encInt .i64) s n x) :
  Calls Tryz.prog 20 #[Value.agg #[g, h, i, j, k], n] w fun e w' => ∃ v, e = .returned v ∧ ((fun (an : Bool) => ∃ (z : PHeap) , PHeap.le s z ∧ St w0 z (H) w' ∧ v = Value.bool (an)) r) := by
 unfold invariant_Balanced_p at hm
 refine calls_of_W Tryz.func20 rfl rfl (Zc (Zd (Za rfl rfl (Exec.box (cs := [g, h, i, j, k]) hS rfl rfl rfl ?_))))
 intro ap aw y
 refine Za rfl rfl (Zo (v := Value.bool (false)) rfl rfl (Zb (Ze (Zc ?_))))
 obtain ⟨l, a, hm⟩ := Zg hm
 refine W_mid (M := fun f' w' => (fun (l : Bool) => ∃ (aa : PHeap) , PHeap.le s aa ∧ St w0 aa (H) w' ∧ f' 4 = Value.bool (l)) l) ?_ ?_
 ·refine Zd (Za rfl rfl (Exec.load_box_agg (ds := [g, h, i, j, k]) (y) A28 rfl rfl rfl ?_))
  obtain ⟨ao, ai, a⟩ := Zg a
  refine Za rfl rfl (Tc rfl rfl rfl (Zi rfl args_nil) (ground_Valid_sim ai y o p q t u).r ?_)
  rintro _ ax ⟨ak, c, m, rfl⟩
  refine Za rfl rfl (Zm (v := Value.bool (ao)) rfl rfl ?_)
  rcases ite_some a with ⟨b, a⟩ | ⟨b, a⟩
  ·refine WL_run rfl (Zf rfl (Zx b)) rfl (Exec.load_box_agg (ds := [g, h, i, j, k]) (m) A28 rfl rfl rfl (WL_run rfl (Zf rfl (Zx b)) rfl (Zm (v := n) rfl rfl ?_)))
   obtain ⟨a0, aj, a⟩ := Zg a
   refine WL_run rfl (Zf rfl (Zx b)) rfl (Tc rfl rfl rfl (Zi rfl (Zi rfl args_nil)) (invariant_balanced_sim aj m (o.mono c) (p.mono c) (q.mono c) (t.mono c) (u.mono c) (ab.mono c)).r ?_)
   rintro _ ay ⟨al, af, ad, rfl⟩
   refine WL_passes 2 (by rw [b]; rfl) ?_
   refine Zb (Ze ?_)
   have aq := Zu a
   subst l
   exact ⟨al, (Zt c af), (ad).drop, rfl⟩
  replace b := Zk b
  refine WL_passes 5 (by rw [b]; rfl) ?_
  refine Zb (Ze ?_)
  have ar := Zu a
  subst l
  exact ⟨ak, c, (m).drop, rfl⟩
 intro av az ac
 obtain ⟨am, ag, ae, ah⟩ := ac
 refine (Ze (W_ret ?_))
 have au := Zu hm
 subst r
 refine ⟨_, ret1 rfl, ?_⟩
 exact ⟨am, ag, ae, ah⟩
theorem N19 : (Tryz.f19.name == "runtime.NumGoroutine") = false := by kernel_rfl
theorem encode_Encode_c1_sim {w0 w : World} {s : PHeap} {H : List Res} {d : (List Int)} {c : Ground} {a : Value} {b f : Nat} {r : Bool} (hm : encode_Encode_c1_p d c = some r) (hS : St w0 s (H) w) (h : SliceRep (encInt .i64) s a d) (i : At s b f encGround c) :
  Calls Tryz.prog 19 #[a, Value.pointer (some ⟨b, f, none⟩)] w fun e w' => ∃ v, e = .returned v ∧ ((fun (x : Bool) => ∃ (g : PHeap) , PHeap.le s g ∧ St w0 g (H) w' ∧ v = Value.bool (x)) r) := by
 unfold encode_Encode_c1_p at hm
 refine calls_of_W Tryz.func19 rfl rfl (Zc (Zd (Za rfl rfl (Zo (v := Value.bool (false)) rfl rfl (Zb (Ze (Zc (Zd (Za rfl rfl (Zw (E := encGround) hS A28 rfl rfl rfl i ?_))))))))))
 intro af l
 obtain ⟨aa, ab, ac, ad, ae, rfl, n, o, p, q, t⟩ := encGround_val.1 l
 refine Za rfl rfl (Zm (v := a) rfl rfl ?_)
 obtain ⟨y, m, hm⟩ := Zg hm
 refine Za rfl rfl (Tc rfl rfl rfl (Zi rfl (Zi rfl args_nil)) (invariant_Balanced_sim m hS n o p q t h).r ?_)
 rintro _ ag ⟨u, k, j, rfl⟩
 refine Za rfl rfl (Exec.not rfl rfl (Za rfl rfl (Zo (v := Value.bool (!y)) rfl rfl (Zb (Ze (W_ret ?_))))))
 have z := Zu hm
 subst r
 refine ⟨_, ret1 rfl, ?_⟩
 exact ⟨u, k, j, rfl⟩
theorem slices_IndexFunc_int_Encode_c1_sim {w0 w : World} {s : PHeap} {H : List Res} {l : (List (List Int))} {o : Ground} {c : Value} {d i : Nat} {r : Int} (hm : slices_IndexFunc_int_Encode_c1_p l o = some r) (hS : St w0 s (H) w) (m : SliceRep (encSlice (encInt .i64)) s c l) (ah : At s d i encGround o) :
  Calls Tryz.prog 44 #[c, Value.func (.func 19) #[] #[Value.pointer (some ⟨d, i, none⟩)]] w fun e w' => ∃ v, e = .returned v ∧ ((fun (aA : Int) => ∃ (ad : PHeap) , PHeap.le s ad ∧ St w0 ad (H) w' ∧ v = Vi (aA)) r) := by
 unfold slices_IndexFunc_int_Encode_c1_p at hm
 refine calls_of_W Tryz.func44 rfl rfl (Zc (Zd (Za rfl rfl (Zo (v := Vi (0)) rfl rfl (Zb (Ze (Zc (Zc (Zd (Za rfl rfl (Zm (v := c) rfl rfl (Za rfl rfl (Zr S41 rfl rfl m (Za rfl rfl (Zm (v := Vi (0)) rfl rfl (Zb (Ze ?_)))))))))))))))))
 obtain ⟨p, aj, av, ar, ap⟩ := ctl_some hm
 refine W_mid (M := fun f' w' => ∃ s', (p = .next s' ∨ p = .brk s') ∧ (fun (_ : Unit) => ∃ (ae : PHeap) , PHeap.le s ae ∧ St w0 ae (H) w' ∧ f' 0 = c ∧ f' 1 = Value.func (.func 19) #[] #[Value.pointer (some ⟨d, i, none⟩)] ∧ f' 7 = Vi ((l.length : Int))) s') ?_ ?_
 ·refine W_block (W_forC (fun k' s' f' w' => (fun (_ : Unit) => ∃ (af : PHeap) , PHeap.le s af ∧ St w0 af (H) w' ∧ f' 0 = c ∧ f' 1 = Value.func (.func 19) #[] #[Value.pointer (some ⟨d, i, none⟩)] ∧ f' 7 = Vi ((l.length : Int)) ∧ f' 8 = Vi (k' : Int)) s') aj ?_ ?_ ?_)
  ·exact ⟨s, (Zv _), hS, rfl, rfl, rfl, rfl⟩
  ·intro b aO q aG aS aq ak a aw
   obtain ⟨aN, j, t, z, aa, ab, n⟩ := ak
   refine Zc (Zd (Za rfl rfl (Zq rfl n ab (Zb (Ze (Zc (W_true (Zx (decide_eq_true (by omega))) (W_skip (Ze (Zc (W_block (Zc (Zd (Za rfl rfl (Zm (v := Vi ((b : Int))) rfl n (Za rfl rfl (Zo (v := Vi ((b : Int))) rfl rfl (Zb (Ze (Zc (Zd (Za rfl rfl (Zm (v := Value.func (.func 19) #[] #[Value.pointer (some ⟨d, i, none⟩)]) rfl aa (Za rfl rfl (Zm (v := c) rfl z (Za rfl rfl (Zm (v := Vi ((b : Int))) rfl rfl ?_)))))))))))))))))))))))))))
   obtain ⟨a8, a2, a⟩ := Zg a
   refine Za rfl rfl (Exec.index_rep S41 rfl rfl rfl (m.mono j) a2 ?_)
   intro aB aJ ai
   refine Za rfl rfl (Zw (E := (encSlice (encInt .i64))) t A24 rfl rfl rfl ai ?_)
   intro aR a3
   have a5 : SliceRep _ _ _ (a8) := encSlice_val.1 a3
   obtain ⟨aW, a4, a⟩ := Zg a
   refine Za rfl rfl (Exec.callc rfl rfl Tryz.func19 rfl N19 (Zi rfl args_nil) rfl ((encode_Encode_c1_sim a4 t a5 (ah.mono j)).mono ?_))
   rintro _ aT ⟨_, rfl, ⟨ag, y, u, rfl⟩⟩
   refine ⟨_, rfl, ?_⟩
   refine Zb (Ze ?_)
   rcases ite_some a with ⟨g, a⟩ | ⟨g, a⟩
   ·refine W_cond_t rfl g (Zc (Zd (Za rfl rfl (Zm (v := Vi ((b : Int))) rfl rfl (Za rfl rfl (Zo (v := Vi ((b : Int))) rfl rfl (Zb (Ze (W_ret (ib_ret (at_ret (at_ret (ib_ret (at_ret (at_ret ?_)))))))))))))))
    have aC := Zu a
    subst q
    have au := av _ (aw (by intro _ h; cases h))
    have aD := Zu au
    subst r
    refine ⟨_, ret1 rfl, ?_⟩
    exact ⟨ag, (Zt j y), u, rfl⟩
   refine W_cond_f rfl g ?_
   replace g := Zk g
   refine W_skip (ib_normal (Ze (Zd (Za rfl rfl (Exec.add rfl n rfl (Za rfl rfl (Zm (v := Vi (IntKind.i64.wrap ((b : Int) + 1))) rfl rfl (Zb (Ze ?_)))))))))
   have aE := Zu a
   subst q
   refine ⟨_, rfl, ?_⟩; exact ⟨ag, (Zt j y), u, z, aa, ab, (Eq.trans rfl (wrap_up aq (SliceRep.le m)))⟩
  intro aP aH aU al ax
  obtain ⟨a6, ay, an, a0, a1, ac, a9⟩ := al
  refine Zc (Zd (Za rfl rfl (Zq rfl a9 ac (Zb (Ze (Zc (W_false (Zx (decide_eq_false (by omega))) (W_exit (at_exit (at_exit (ib_here (Ze ?_))))))))))))
  refine ⟨_, .inl ax, ?_⟩; exact ⟨a6, ay, an, a0, a1, ac⟩
 rintro aI aV ⟨aQ, x, am⟩
 have hm := x.elim (ar _) (ap _)
 clear x
 obtain ⟨a7, az, ao, aK, aL, aM⟩ := am
 refine (Ze (Zc (Zd (Za rfl rfl (Zo (v := Vi ((-1))) rfl rfl (Zb (Ze (W_ret ?_))))))))
 have aF := Zu hm
 subst r
 refine ⟨_, ret1 rfl, ?_⟩
 exact ⟨a7, az, ao, rfl⟩
theorem slices_ContainsFunc_int_Encode_c1_sim {w0 w : World} {s : PHeap} {H : List Res} {g : (List (List Int))} {d : Ground} {c : Value} {a b : Nat} {r : Bool} (hm : slices_ContainsFunc_int_Encode_c1_p g d = some r) (hS : St w0 s (H) w) (h : SliceRep (encSlice (encInt .i64)) s c g) (i : At s a b encGround d) :
  Calls Tryz.prog 18 #[c, Value.func (.func 19) #[] #[Value.pointer (some ⟨a, b, none⟩)]] w fun e w' => ∃ v, e = .returned v ∧ ((fun (n : Bool) => ∃ (f : PHeap) , PHeap.le s f ∧ St w0 f (H) w' ∧ v = Value.bool (n)) r) := by
 unfold slices_ContainsFunc_int_Encode_c1_p at hm
 refine calls_of_W Tryz.func18 rfl rfl (Zc (Zd (Za rfl rfl (Zo (v := Value.bool (false)) rfl rfl (Zb (Ze (Zc (Zd (Za rfl rfl (Zm (v := c) rfl rfl (Za rfl rfl (Zm (v := Value.func (.func 19) #[] #[Value.pointer (some ⟨a, b, none⟩)]) rfl rfl ?_))))))))))))
 obtain ⟨o, l, hm⟩ := Zg hm
 refine Za rfl rfl (Tc rfl rfl rfl (Zi rfl (Zi rfl args_nil)) (slices_IndexFunc_int_Encode_c1_sim l hS h i).r ?_)
 rintro _ q ⟨m, k, j, rfl⟩
 refine Za rfl rfl (Exec.geq rfl rfl rfl (Za rfl rfl (Zo (v := Value.bool (decide (0 ≤ o))) rfl rfl (Zb (Ze (W_ret ?_))))))
 have p := Zu hm
 subst r
 refine ⟨_, ret1 rfl, ?_⟩
 exact ⟨m, k, j, rfl⟩
theorem F66_0 : tyField Tryz.prog 66 0 = some 0 := by kernel_rfl
theorem S64 : tySlice Tryz.prog 64 = some (4, 1, 1) := by kernel_rfl
theorem Z84 : tyZero Tryz.prog 84 = some (Value.agg #[Value.slice none 0 0, Value.slice none 0 0, Value.slice none 0 0]) := by kernel_rfl
theorem slices_Clone_apiCond_sim {w0 w : World} {s : PHeap} {H : List Res} {b : (List Cond)} {c : Value} {r : (List Cond)} (hm : slices_Clone_apiCond_p b = some r) (hS : St w0 s (H) w) (d : SliceRep encCond s c b) :
  Calls Tryz.prog 71 #[c] w fun e w' => ∃ v, e = .returned v ∧ ((fun (u : (List Cond)) => ∃ (g : PHeap) (h : Value), PHeap.le s g ∧ St w0 g (Res.arr encCond 84 h u :: H) w' ∧ v = h) r) := by
 unfold slices_Clone_apiCond_p at hm
 refine calls_of_W Tryz.func71 rfl rfl (Zc (Zd (Za rfl rfl (Zo (v := Value.slice none 0 0) rfl rfl (Zb (Ze (Zc (Zc (Zd (Za rfl rfl (Zm (v := c) rfl rfl ?_)))))))))))
 obtain ⟨j, ab, y, k, p⟩ := (d).nilShape
 refine Za rfl rfl (Exec.slice_eql_nil Tryz.underlying25 rfl k rfl (Zb (Ze ?_)))
 by_cases a : j.isNone = true
 ·have q := p a
  replace hm := (show (some []) = ((app 72 [] b).bind fun f => some f) from by simp [q, app]).trans hm
  refine W_true ((Zx a)) (Zc (Zd (Za rfl rfl (Zo (v := Value.slice none 0 0) rfl rfl (Zb (Ze (W_ret (at_ret ?_))))))))
  have z := Zu hm
  subst r
  refine ⟨_, ret1 rfl, ?_⟩
  have l := hS.nilArr encCond 84
  exact ⟨s, (Value.slice none 0 0), (Zv _), l, rfl⟩
 replace a := Zk a
 refine W_false ((Zx a)) (W_skip (Ze (Zc (Zd (Za rfl rfl (Exec.buildSlice (Te := 84) (cs := []) hS rfl parts_nil (fun _ => by kernel_rfl) ?_))))))
 intro x ac m
 refine Za rfl rfl (Zm (v := c) rfl rfl ?_)
 have n := St.boxArr (E := encCond) (xs := []) m rfl (by simp [maxLen])
 obtain ⟨f, t, hm⟩ := Zg hm
 refine Za rfl rfl (Exec.append_rep (E := encCond) (ys := b) n S25 Z84 rfl (by decide) rfl rfl rfl d t ?_)
 intro i ad o
 refine Za rfl rfl (Zo (v := i) rfl rfl (Zb (Ze (W_ret ?_))))
 have aa := Zu hm
 subst r
 refine ⟨_, ret1 rfl, ?_⟩
 exact ⟨s, i, (Zv _), o, rfl⟩
theorem encode_conditions_sim {w0 w : World} {s : PHeap} {H : List Res} {a : Ground} {ad : Value} {ae : Value} {af : Value} {ag : Value} {q : Value} {r : (List Cond)} (hm : encode_conditions_p a = some r) (hS : St w0 s (H) w) (b7 : SliceRep encAtom s ad a.Atoms) (b8 : SliceRep encGFluent s ae a.Fluents) (b9 : SliceRep (encInt .i64) s af a.Init) (aE : SliceRep encCond s ag a.Goal) (y : SliceRep encGOp s q a.Ops) :
  Calls Tryz.prog 46 #[Value.agg #[ad, ae, af, ag, q]] w fun e w' => ∃ v, e = .returned v ∧ ((fun (b6 : (List Cond)) => ∃ (ab : PHeap) (aA : Value), PHeap.le s ab ∧ St w0 ab (H) w' ∧ v = aA ∧ SliceRep encCond ab aA b6) r) := by
 unfold encode_conditions_p at hm
 refine calls_of_W Tryz.func46 rfl rfl (Zc (Zd (Za rfl rfl (Exec.box (cs := [ad, ae, af, ag, q]) hS rfl rfl rfl ?_))))
 intro bA bX aj
 refine Za rfl rfl (Zo (v := Value.slice none 0 0) rfl rfl (Zb (Ze (Zc (Zd (Za rfl rfl (Zp F28_3 rfl rfl rfl (Za rfl rfl (Zn (aj) A25 rfl rfl rfl ?_)))))))))
 obtain ⟨cl, bp, hm⟩ := Zg hm
 refine Za rfl rfl (Tc rfl rfl rfl (Zi rfl args_nil) (slices_Clone_apiCond_sim bp aj aE).r ?_)
 rintro aB bY ⟨a5, _, u, ak, rfl⟩
 refine Za rfl rfl (Zo (v := aB) rfl rfl (Zb (Ze (Zc (Zc (Zd (Za rfl rfl (Zp F28_4 rfl rfl rfl (Za rfl rfl (Zn ((ak).f1) A26 rfl rfl rfl (Za rfl rfl (Zr S26 rfl rfl (y.mono u) (Za rfl rfl (Zm (v := Vi (0)) rfl rfl (Zb (Ze ?_))))))))))))))))
 obtain ⟨z, aH, hm⟩ := Zg hm
 refine W_block (W_forS (fun k' s' f' w' => (fun (z : (List Cond)) => ∃ (a6 : PHeap) (i : Value), PHeap.le a5 a6 ∧ St w0 a6 (Res.arr encCond 84 i z :: H) w' ∧ f' 3 = i ∧ f' 12 = q ∧ f' 13 = Vi ((a.Ops.length : Int)) ∧ f' 14 = Vi (k' : Int)) s') aH ?_ ?_ ?_)
 ·have aN := ((ak).f1).drop
  exact ⟨a5, aB, (Zv _), aN, rfl, rfl, rfl, rfl⟩
 ·intro aq z bz bK bZ aX aJ j
  obtain ⟨a7, i, ar, al, bd, av, aw, ah⟩ := aJ
  refine Zc (Zd (Za rfl rfl (Zq rfl ah aw (Zb (Ze (Zc (W_true (Zx (decide_eq_true (by omega))) (W_skip (Ze (Zc (W_block (Zc (Zd ?_)))))))))))))
  obtain ⟨o, bq, j⟩ := Zg j
  refine Za rfl rfl (Exec.index_rep S26 rfl av ah (y.mono (Zt u ar)) bq ?_)
  intro bB bQ aF
  refine Za rfl rfl (Zw (E := encGOp) al A91 rfl rfl rfl aF ?_)
  intro bV br
  obtain ⟨l, b, d, ac, a9, rfl, az, a0, a1, x, bw⟩ := encGOp_val.1 br
  refine Za rfl rfl (Exec.alloc (cs := [Value.string (⟨#[]⟩), Vi (0), Value.slice none 0 0, Value.slice none 0 0, Value.slice none 0 0, Value.slice none 0 0, Value.slice none 0 0]) al Z91 rfl rfl ?_)
  intro bC ca aO
  refine Za rfl rfl (Exec.store_box (ds := [Value.string (o.Name), Vi (o.Cost), l, b, d, ac, a9]) (es := [Value.string (o.Name), Vi (o.Cost), l, b, d, ac, a9]) aO A91 rfl rfl rfl rfl (Zj rfl (Zj rfl (Zj (az).one (Zj (a0).one (Zj (a1).one (Zj (x).one (Zj (bw).one one_nil))))))) (Nat.le_of_ble_eq_true rfl) rfl ?_)
  intro cb am
  refine Zb (Ze (Zc (Zd (Za rfl rfl (Zm (v := i) rfl bd (Za rfl rfl (Zp F91_2 rfl rfl rfl (Za rfl rfl (Exec.load_box_agg (ds := [l, b, d]) (am) A84 rfl rfl rfl (Za rfl rfl (Exec.buildSlice (Te := 84) (cs := [l, b, d]) am rfl (parts_cons (c := [l, b, d]) (cells_of rfl rfl) parts_nil) (fun _ => by kernel_rfl) ?_)))))))))))
  intro bD cc aP
  obtain ⟨bO, bs, j⟩ := Zg j
  refine Za rfl rfl (Exec.append_box (E := encCond) (ys := [o.Pre]) (aP).f2 S25 Z84 rfl (by decide) rfl rfl rfl rfl ⟨[l, b, d], [], rfl, ⟨[l], [b, d], rfl, ⟨_, rfl, az⟩, ⟨[b], [d], rfl, ⟨_, rfl, a0⟩, ⟨_, rfl, a1⟩⟩⟩, rfl⟩ rfl bs ?_)
  intro aC cd an
  refine Za rfl rfl (Zo (v := aC) rfl rfl (Zb (Ze (Zc (Zd (Za rfl rfl (Zp F91_3 rfl rfl rfl (Za rfl rfl (Zn ((an).f1) A88 rfl rfl rfl (Za rfl rfl (Zr S88 rfl rfl x (Za rfl rfl (Zm (v := Vi (0)) rfl rfl (Zb (Ze ?_)))))))))))))))
  obtain ⟨aa, aI, j⟩ := Zg j
  refine W_block (W_forS (fun k' s' f' w' => (fun (aa : (List Cond)) => ∃ (a8 : PHeap) (n : Value), PHeap.le a7 a8 ∧ St w0 a8 (Res.arr encCond 84 n aa :: H) w' ∧ f' 3 = n ∧ f' 12 = q ∧ f' 13 = Vi ((a.Ops.length : Int)) ∧ f' 14 = Vi ((aq : Int)) ∧ f' 24 = ac ∧ f' 25 = Vi ((o.Changes.length : Int)) ∧ f' 26 = Vi (k' : Int)) s') aI ?_ ?_ ?_)
  ·have aQ := ((an).f1).drop
   exact ⟨a7, aC, (Zv _), aQ, rfl, av, aw, ah, rfl, rfl, rfl⟩
  ·intro aZ aa b0 bL ce aY aK p
   obtain ⟨b1, n, au, ao, be, bf, bg, bh, ax, ay, ai⟩ := aK
   refine Zc (Zd (Za rfl rfl (Zq rfl ai ay (Zb (Ze (Zc (W_true (Zx (decide_eq_true (by omega))) (W_skip (Ze (Zc (W_block (Zc (Zd ?_)))))))))))))
   obtain ⟨t, bt, p⟩ := Zg p
   refine Za rfl rfl (Exec.index_rep S88 rfl ax ai (x.mono au) bt ?_)
   intro bE bR aG
   refine Za rfl rfl (Zw (E := encGChange) ao A98 rfl rfl rfl aG ?_)
   intro bW bu
   obtain ⟨m, g, h, rfl, a2, a3, a4⟩ := encGChange_val.1 bu
   refine Za rfl rfl (Exec.alloc (cs := [Value.slice none 0 0, Value.slice none 0 0, Value.slice none 0 0, Vi (0), Value.bool (false)]) ao Z98 rfl rfl ?_)
   intro bF cf aR
   refine Za rfl rfl (Exec.store_box (ds := [m, g, h, Vi (t.Atom), Value.bool (t.Add)]) (es := [m, g, h, Vi (t.Atom), Value.bool (t.Add)]) aR A98 rfl rfl rfl rfl (Zj (a2).one (Zj (a3).one (Zj (a4).one (Zj rfl (Zj rfl one_nil))))) (Nat.le_of_ble_eq_true rfl) rfl ?_)
   intro cg ap
   refine Zb (Ze (Zd (Za rfl rfl (Zm (v := n) rfl be (Za rfl rfl (Zp F98_0 rfl rfl rfl (Za rfl rfl (Exec.load_box_agg (ds := [m, g, h]) (ap) A84 rfl rfl rfl (Za rfl rfl (Exec.buildSlice (Te := 84) (cs := [m, g, h]) ap rfl (parts_cons (c := [m, g, h]) (cells_of rfl rfl) parts_nil) (fun _ => by kernel_rfl) ?_))))))))))
   intro bG ch aS
   obtain ⟨bP, bv, p⟩ := Zg p
   refine Za rfl rfl (Exec.append_box (E := encCond) (ys := [t.When]) (aS).f2 S25 Z84 rfl (by decide) rfl rfl rfl rfl ⟨[m, g, h], [], rfl, ⟨[m], [g, h], rfl, ⟨_, rfl, a2⟩, ⟨[g], [h], rfl, ⟨_, rfl, a3⟩, ⟨_, rfl, a4⟩⟩⟩, rfl⟩ rfl bv ?_)
   intro aD ci aT
   refine Za rfl rfl (Zo (v := aD) rfl rfl (Zb (ib_normal (Ze (Zd (Za rfl rfl (Exec.add rfl ai rfl (Za rfl rfl (Zm (v := Vi (IntKind.i64.wrap ((aZ : Int) + 1))) rfl rfl (Zb (Ze ?_)))))))))))
   have bH := Zu p
   subst b0
   exact ⟨b1, aD, au, ((aT).f1).drop, rfl, bf, bg, bh, ax, ay, (Eq.trans rfl (wrap_up aY (SliceRep.le x)))⟩
  intro bM cj aL
  obtain ⟨b2, n, ba, aU, bi, bj, bk, bl, bS, bm, b4⟩ := aL
  refine Zc (Zd (Za rfl rfl (Zq rfl b4 bm (Zb (Ze (Zc (W_false (Zx (decide_eq_false (by omega))) (W_exit (at_exit (at_exit (ib_here (ib_normal (Ze (Zd (Za rfl rfl (Exec.add rfl bl rfl (Za rfl rfl (Zm (v := Vi (IntKind.i64.wrap ((aq : Int) + 1))) rfl rfl (Zb (Ze ?_))))))))))))))))))))
  have bI := Zu j
  subst bz
  exact ⟨b2, n, (Zt ar ba), aU, bi, bj, bk, (Eq.trans rfl (wrap_up aX (SliceRep.le (y.mono u))))⟩
 intro bN ck aM
 obtain ⟨bU, i, bb, aV, bn, bT, bo, b5⟩ := aM
 refine Zc (Zd (Za rfl rfl (Zq rfl b5 bo (Zb (Ze (Zc (W_false (Zx (decide_eq_false (by omega))) (W_exit (at_exit (at_exit (ib_here (Ze (Zc (Zd (Za rfl rfl (Zm (v := i) rfl bn (Za rfl rfl (Zo (v := i) rfl rfl (Zb (Ze (W_ret ?_)))))))))))))))))))))
 have bJ := Zu hm
 subst r
 refine ⟨_, ret1 rfl, ?_⟩
 obtain ⟨b3, bc, aW, bx⟩ := aV.freezeArr
 exact ⟨b3, i, (Zt (Zt u bb) bc), aW, rfl, bx⟩
theorem hmix : Tryz.prog.follows .mixedOrders = true := by kernel_rfl
theorem S31 : tySlice Tryz.prog 31 = some (46, 2, 16) := by kernel_rfl
theorem Z46 : tyZero Tryz.prog 46 = some (Value.agg #[Vi (0), Vi (0)]) := by kernel_rfl
theorem F66_2 : tyField Tryz.prog 66 2 = some 6 := by kernel_rfl
theorem A31 : tyAgg Tryz.prog 31 = some (false, 1) := by kernel_rfl
theorem F66_3 : tyField Tryz.prog 66 3 = some 7 := by kernel_rfl
theorem A64 : tyAgg Tryz.prog 64 = some (false, 1) := by kernel_rfl
theorem Z3 : tyZero Tryz.prog 3 = some (Vi (0)) := by kernel_rfl
theorem encode_largest_o_sim {w0 w : World} {s : PHeap} {H : List Res} {n : (List (List Int))} {g : (List Bool)} {l : Value} {b : Value} {r : (List Int)} (hm : encode_largest_o_p n g = some r) (hS : St w0 s (Res.arr encBool 4 b g :: H) w) (ag : SliceRep (encSlice (encInt .i64)) s l n) :
  Calls Tryz.prog 47 #[l, b] w fun e w' => ∃ v, e = .returned v ∧ ((fun (bH : (List Int)) => ∃ (al : PHeap) (aG : Value), PHeap.le s al ∧ St w0 al (Res.arr encBool 4 b g :: H) w' ∧ v = aG ∧ SliceRep (encInt .i64) al aG bH) r) := by
 unfold encode_largest_o_p at hm
 refine calls_of_W Tryz.func47 rfl rfl (Zc (Zd (Za rfl rfl (Zo (v := Value.slice none 0 0) rfl rfl (Zb (Ze (Zc (Zd (Za rfl rfl (Zo (v := Value.slice none 0 0) rfl rfl (Zb (Ze (Zc (Zc (Zd (Za rfl rfl (Zm (v := l) rfl rfl (Za rfl rfl (Zr S41 rfl rfl ag (Za rfl rfl (Zm (v := Vi (0)) rfl rfl (Zb (Ze ?_)))))))))))))))))))))))
 obtain ⟨o, aK, hm⟩ := Zg hm
 refine W_block (W_forS (fun k' s' f' w' => (fun (o : (List Int)) => ∃ (aB : PHeap) (a : Value), PHeap.le s aB ∧ St w0 aB (Res.arr encBool 4 b g :: Res.arr (encInt .i64) 3 a o :: H) w' ∧ f' 1 = b ∧ f' 5 = a ∧ f' 11 = l ∧ f' 12 = Vi ((n.length : Int)) ∧ f' 13 = Vi (k' : Int)) s') aK ?_ ?_ ?_)
 ·have aS := hS.nilArr (encInt .i64) 3
  exact ⟨s, (Value.slice none 0 0), (Zv _), (aS).f1, rfl, rfl, rfl, rfl, rfl⟩
 ·intro aa o b8 bT ci ba aM h
  obtain ⟨aC, a, aw, au, bh, bi, ay, az, ap⟩ := aM
  refine Zc (Zd (Za rfl rfl (Zq rfl ap az (Zb (Ze (Zc (W_true (Zx (decide_eq_true (by omega))) (W_skip (Ze (Zc (W_block (Zc (Zd ?_)))))))))))))
  obtain ⟨aq, b1, h⟩ := Zg h
  refine Za rfl rfl (Exec.index_rep S41 rfl ay ap (ag.mono aw) b1 ?_)
  intro bI cb aI
  refine Za rfl rfl (Zw (E := (encSlice (encInt .i64))) au A24 rfl rfl rfl aI ?_)
  intro ac b2
  have ak : SliceRep _ _ _ (aq) := encSlice_val.1 b2
  refine Za rfl rfl (Zo (v := ac) rfl rfl (Zb (Ze (Zc (Zd (Za rfl rfl (Zo (v := Value.slice none 0 0) rfl rfl (Zb (Ze (Zc (Zc (Zd (Za rfl rfl (Zm (v := ac) rfl rfl (Za rfl rfl (Zr S24 rfl rfl ak (Za rfl rfl (Zm (v := Vi (0)) rfl rfl (Zb (Ze ?_))))))))))))))))))))
  obtain ⟨ao, aL, h⟩ := Zg h
  refine W_block (W_forS (fun k' s' f' w' => (fun (ao : (List Int)) => ∃ (aD : PHeap) (d : Value), PHeap.le aC aD ∧ St w0 aD (Res.arr encBool 4 b g :: Res.arr (encInt .i64) 3 a o :: Res.arr (encInt .i64) 3 d ao :: H) w' ∧ f' 1 = b ∧ f' 5 = a ∧ f' 8 = d ∧ f' 11 = l ∧ f' 12 = Vi ((n.length : Int)) ∧ f' 13 = Vi ((aa : Int)) ∧ f' 17 = ac ∧ f' 18 = Vi ((aq.length : Int)) ∧ f' 19 = Vi (k' : Int)) s') aL ?_ ?_ ?_)
  ·have aT := au.nilArr (encInt .i64) 3
   exact ⟨aC, (Value.slice none 0 0), (Zv _), ((aT).f2).f2, bh, bi, rfl, ay, az, ap, rfl, rfl, rfl⟩
  ·intro av ao b9 bU cj bb aN i
   obtain ⟨am, d, ax, q, ah, a0, a1, a2, a3, a4, ai, aj, af⟩ := aN
   refine Zc (Zd (Za rfl rfl (Zq rfl af aj (Zb (Ze (Zc (W_true (Zx (decide_eq_true (by omega))) (W_skip (Ze (Zc (W_block (Zc (Zd ?_)))))))))))))
   obtain ⟨m, b3, i⟩ := Zg i
   refine Za rfl rfl (Exec.index_rep S24 rfl ai af (ak.mono ax) b3 ?_)
   intro bJ cc aJ
   refine Za rfl rfl (Zw (E := (encInt .i64)) q A3 rfl rfl rfl aJ ?_)
   intro ch b4
   obtain rfl := encInt_val.1 b4
   refine Za rfl rfl (Zo (v := Vi (m)) rfl rfl (Zb (Ze (Zc (Zd (Za rfl rfl (Zm (v := b) rfl ah (Za rfl rfl (Zm (v := Vi (m)) rfl rfl ?_)))))))))
   obtain ⟨bE, ab, i⟩ := Zg i
   obtain ⟨bZ, bL, ar⟩ := (q).arr_at ab
   refine Za rfl rfl (Exec.index_slice S64 rfl ar rfl (idx_some ab).1 (idx_some ab).2.1 (Za rfl rfl (Exec.load_arr (F := encBool) (q) ar A4 rfl rfl rfl ab (Sub.refl _) ?_)))
   intro bD b5
   obtain rfl : bD = Value.bool (bE) := encBool_val.1 b5
   refine Zb (Ze ?_)
   obtain ⟨y, j, i⟩ := Zg i
   refine W_mid (M := fun f' w' => (fun (y : (List Int)) => ∃ (aE : PHeap) (ad : Value), PHeap.le am aE ∧ St w0 aE (Res.arr encBool 4 b g :: Res.arr (encInt .i64) 3 a o :: Res.arr (encInt .i64) 3 ad y :: H) w' ∧ f' 1 = b ∧ f' 5 = a ∧ f' 8 = ad ∧ f' 11 = l ∧ f' 12 = Vi ((n.length : Int)) ∧ f' 13 = Vi ((aa : Int)) ∧ f' 17 = ac ∧ f' 18 = Vi ((aq.length : Int)) ∧ f' 19 = Vi ((av : Int))) y) ?_ ?_
   ·rcases ite_some j with ⟨t, j⟩ | ⟨t, j⟩
    ·refine W_cond_t rfl t (Zd (Za rfl rfl (Zm (v := d) rfl a1 (Za rfl rfl (Zm (v := Vi (m)) rfl rfl (Za rfl rfl (Exec.buildSlice (Te := 3) (cs := [Vi (m)]) q rfl (parts_cons (c := [Vi (m)]) (cells_of rfl rfl) parts_nil) (fun _ => by kernel_rfl) ?_)))))))
     intro bK ck aU
     obtain ⟨ca, b6, j⟩ := Zg j
     refine Za rfl rfl (Exec.append_box (E := (encInt .i64)) (ys := [m]) (aU).f3 S24 Z3 rfl (by decide) rfl rfl rfl rfl ⟨[Vi (m)], [], rfl, rfl, rfl⟩ rfl b6 ?_)
     intro aH cl aV
     refine Za rfl rfl (Zo (v := aH) rfl rfl (Zb (Ze ?_)))
     have bM := Zu j
     subst y
     exact ⟨am, aH, (Zv _), ((aV).f2).f2, ah, a0, rfl, a2, a3, a4, ai, aj, af⟩
    refine W_cond_f rfl t ?_
    replace t := Zk t
    refine W_skip (Ze ?_)
    have bN := Zu j
    subst y
    exact ⟨am, d, (Zv _), (((q).f2).f2).f2, ah, a0, a1, a2, a3, a4, ai, aj, af⟩
   intro bV cm aQ
   obtain ⟨bA, ad, bc, aW, bj, bk, bl, bm, bn, bo, bp, bq, br⟩ := aQ
   refine (ib_normal (Ze (Zd (Za rfl rfl (Exec.add rfl br rfl (Za rfl rfl (Zm (v := Vi (IntKind.i64.wrap ((av : Int) + 1))) rfl rfl (Zb (Ze ?_)))))))))
   have bO := Zu i
   subst b9
   exact ⟨bA, ad, (Zt ax bc), (((aW).f2).f2).f2, bj, bk, bl, bm, bn, bo, bp, bq, (Eq.trans rfl (wrap_up bb (SliceRep.le ak)))⟩
  intro bW cn aO
  obtain ⟨an, d, bd, z, a5, a6, a7, a8, a9, aA, cd, bs, bF⟩ := aO
  refine Zc (Zd (Za rfl rfl (Zq rfl bF bs (Zb (Ze (Zc (W_false (Zx (decide_eq_false (by omega))) (W_exit (at_exit (at_exit (ib_here (Ze (Zc (Zd (Za rfl rfl (Zm (v := d) rfl a7 (Za rfl rfl (Exec.len_arr ((z).f2) S24 rfl rfl (Za rfl rfl (Zm (v := a) rfl a6 (Za rfl rfl (Exec.len_arr ((z).f1) S24 rfl rfl (Za rfl rfl (Exec.gtr rfl rfl rfl (Zb (Ze ?_))))))))))))))))))))))))))
  obtain ⟨p, x, h⟩ := Zg h
  refine W_mid (M := fun f' w' => (fun (p : (List Int)) => ∃ (aF : PHeap) (ae : Value), PHeap.le an aF ∧ St w0 aF (Res.arr encBool 4 b g :: Res.arr (encInt .i64) 3 ae p :: H) w' ∧ f' 1 = b ∧ f' 5 = ae ∧ f' 11 = l ∧ f' 12 = Vi ((n.length : Int)) ∧ f' 13 = Vi ((aa : Int))) p) ?_ ?_
  ·rcases ite_some x with ⟨u, x⟩ | ⟨u, x⟩
   ·refine W_cond_t rfl u (Zd (Za rfl rfl (Zm (v := d) rfl a7 (Za rfl rfl (Zo (v := d) rfl rfl (Zb (Ze ?_)))))))
    have bP := Zu x
    subst p
    exact ⟨an, d, (Zv _), ((((z).f1).drop).f1).f1, a5, rfl, a8, a9, aA⟩
   refine W_cond_f rfl u ?_
   replace u := Zk u
   refine W_skip (Ze ?_)
   have bQ := Zu x
   subst p
   exact ⟨an, a, (Zv _), ((((z).f2).drop).f1).f1, a5, a6, a8, a9, aA⟩
  intro bX co aR
  obtain ⟨bB, ae, be, aX, bt, bu, bv, bw, bx⟩ := aR
  refine (ib_normal (Ze (Zd (Za rfl rfl (Exec.add rfl bx rfl (Za rfl rfl (Zm (v := Vi (IntKind.i64.wrap ((aa : Int) + 1))) rfl rfl (Zb (Ze ?_)))))))))
  have bR := Zu h
  subst b8
  exact ⟨bB, ae, (Zt (Zt aw bd) be), ((aX).f1).f1, bt, bu, bv, bw, (Eq.trans rfl (wrap_up ba (SliceRep.le ag)))⟩
 intro bY cp aP
 obtain ⟨cg, a, bf, aY, ce, bz, cf, b0, bG⟩ := aP
 refine Zc (Zd (Za rfl rfl (Zq rfl bG b0 (Zb (Ze (Zc (W_false (Zx (decide_eq_false (by omega))) (W_exit (at_exit (at_exit (ib_here (Ze (Zc (Zd (Za rfl rfl (Zm (v := a) rfl bz (Za rfl rfl (Zo (v := a) rfl rfl (Zb (Ze (W_ret ?_)))))))))))))))))))))
 have bS := Zu hm
 subst r
 refine ⟨_, ret1 rfl, ?_⟩
 obtain ⟨bC, bg, aZ, b7⟩ := (aY).f1.freezeArr
 exact ⟨bC, a, (Zt bf bg), aZ, rfl, b7⟩
theorem F66_1 : tyField Tryz.prog 66 1 = some 5 := by kernel_rfl
theorem A46 : tyAgg Tryz.prog 46 = some (true, 2) := by kernel_rfl
theorem A73 : tyAgg Tryz.prog 73 = some (true, 5) := by kernel_rfl
theorem Z73 : tyZero Tryz.prog 73 = some (Value.agg #[Value.string ⟨#[]⟩, Value.slice none 0 0, Vi (0), Vi (0), Vi (0)]) := by kernel_rfl
theorem encode_encoder_variables_sim {w0 w : World} {s : PHeap} {H : List Res} {b : encode_encoder} {bL : (List (List Int))} {a : Nat} {l : Value} {j : Value} {m : Value} {n : Value} {o : Value} {ab : Value} {ac : Value} {p : Value} {d : Value} {ae : Value} {r : (List Fact) × (List Bool) × (List Int)} (hm : encode_encoder_variables_p b bL = some r) (hS : St w0 s (Res.box a 66 [l, j, m, n, o, ab, ac, p, d] :: Res.arr (encInt .i64) 3 ab b.vars :: Res.arr encFact 46 ac b.atoms :: Res.arr encBool 4 p b.grouped :: Res.arr (encInt .i64) 3 d b.fluents :: H) w) (bB : SliceRep encAtom s l b.g.Atoms) (aR : SliceRep encGFluent s j b.g.Fluents) (cR : SliceRep (encInt .i64) s m b.g.Init) (cS : SliceRep encCond s n b.g.Goal) (cT : SliceRep encGOp s o b.g.Ops) (cU : SliceRep (encSlice (encInt .i64)) s ae bL) :
  Calls Tryz.prog 21 #[Value.pointer (some ⟨a, 0, none⟩), ae] w fun e w' => ∃ v, e = .returned v ∧ ((un3 fun (fE : (List Fact)) (fF : (List Bool)) (dW : (List Int)) => ∃ (c2 : PHeap) (cK : Value) (cL : Value) (cM : Value), PHeap.le s c2 ∧ St w0 c2 (Res.box a 66 [l, j, m, n, o, cK, cL, cM, d] :: Res.arr (encInt .i64) 3 cK dW :: Res.arr encFact 46 ac b.atoms :: Res.arr encBool 4 p b.grouped :: Res.arr (encInt .i64) 3 d b.fluents :: Res.arr encFact 46 cL fE :: Res.arr encBool 4 cM fF :: H) w' ∧ v = Value.tuple #[]) r) := by
 unfold encode_encoder_variables_p at hm
 refine calls_of_W Tryz.func21 rfl rfl (Zc (Zd (Za rfl rfl (Zm (v := Value.pointer (some ⟨a, 0, none⟩)) rfl rfl (Za rfl rfl (Exec.nilCheck_ptr rfl rfl (Za rfl rfl (Zp F66_0 rfl rfl rfl (Za rfl rfl (Zp F28_0 rfl rfl rfl (Za rfl rfl (Zn (hS) A22 rfl rfl rfl (Za rfl rfl (Zr S22 rfl rfl bB ?_))))))))))))))
 obtain ⟨dX, eJ, hm⟩ := Zg hm
 refine Za rfl rfl (Exec.make (E := encBool) hS S64 Z4 rfl rfl rfl rfl eJ ?_)
 intro i hc aS
 refine Za rfl rfl (Zo (v := i) rfl rfl (Zb (Ze (Zc (Zc (Zd (Za rfl rfl (Zm (v := i) rfl rfl (Za rfl rfl (Exec.len_arr (aS) S64 rfl rfl (Za rfl rfl (Zm (v := Vi (0)) rfl rfl (Zb (Ze ?_))))))))))))))
 obtain ⟨bc, cZ, hm⟩ := Zg hm
 refine W_block (W_forS (fun k' s' f' w' => (fun (bc : (List Bool)) => ∃ (c3 : PHeap) , PHeap.le s c3 ∧ St w0 c3 (Res.box a 66 [l, j, m, n, o, ab, ac, p, d] :: Res.arr (encInt .i64) 3 ab b.vars :: Res.arr encFact 46 ac b.atoms :: Res.arr encBool 4 p b.grouped :: Res.arr (encInt .i64) 3 d b.fluents :: Res.arr encBool 4 i bc :: H) w' ∧ f' 0 = Value.pointer (some ⟨a, 0, none⟩) ∧ f' 1 = ae ∧ f' 4 = i ∧ f' 24 = Vi ((dX.length : Int)) ∧ f' 25 = Vi (k' : Int)) s') cZ ?_ ?_ ?_)
 ·have dy := (aS).f5
  exact ⟨s, (Zv _), ((((dy).f5).f5).f5).f5, rfl, rfl, rfl, rfl, rfl⟩
 ·intro a7 bc fh gg hd dO dg a0
  obtain ⟨fi, dY, bM, eg, eh, cn, co, b8⟩ := dg
  refine Zc (Zd (Za rfl rfl (Zq rfl b8 co (Zb (Ze (Zc (W_true (Zx (decide_eq_true (by omega))) (W_skip (Ze (Zc (W_block (Zc (Zd (Za rfl rfl (Zm (v := Vi ((a7 : Int))) rfl b8 (Za rfl rfl (Zo (v := Vi ((a7 : Int))) rfl rfl (Zb (Ze (Zd (Za rfl rfl (Zm (v := i) rfl cn (Za rfl rfl (Zm (v := Vi ((a7 : Int))) rfl rfl ?_))))))))))))))))))))))))
  obtain ⟨hN, bp, a0⟩ := Zg a0
  obtain ⟨gx, fO, bE⟩ := ((bM).f5).arr_at bp
  refine Za rfl rfl (Exec.index_slice S64 rfl bE rfl (idx_some bp).1 (idx_some bp).2.1 ?_)
  obtain ⟨g8, eK, a0⟩ := Zg a0
  refine Za rfl rfl (Exec.store_arr (bM).f5 bE A4 rfl rfl rfl rfl (encBool_val.2 rfl) eK ?_)
  intro he dz
  refine Zb (ib_normal (Ze (Zd (Za rfl rfl (Exec.add rfl b8 rfl (Za rfl rfl (Zm (v := Vi (IntKind.i64.wrap ((a7 : Int) + 1))) rfl rfl (Zb (Ze ?_)))))))))
  have fV := Zu a0
  subst fh
  exact ⟨fi, dY, (((((dz).f5).f5).f5).f5).f5, eg, eh, cn, co, (Eq.trans rfl (wrap_up dO (aS).arr_le))⟩
 intro gh hf dh
 obtain ⟨gS, ah, bN, cp, ei, ej, ek, f0⟩ := dh
 refine Zc (Zd (Za rfl rfl (Zq rfl f0 ek (Zb (Ze (Zc (W_false (Zx (decide_eq_false (by omega))) (W_exit (at_exit (at_exit (ib_here (Ze (Zc (Zc (Zd (Za rfl rfl (Zm (v := Value.pointer (some ⟨a, 0, none⟩)) rfl cp (Za rfl rfl (Exec.nilCheck_ptr rfl rfl (Za rfl rfl (Zp F66_0 rfl rfl rfl (Za rfl rfl (Exec.load_box_agg (ds := [l, j, m, n, o]) (bN) A28 rfl rfl rfl ?_)))))))))))))))))))))))
 obtain ⟨cQ, eL, hm⟩ := Zg hm
 refine Za rfl rfl (Tc rfl rfl rfl (Zi rfl args_nil) (encode_conditions_sim eL bN (bB.mono ah) (aR.mono ah) (cR.mono ah) (cS.mono ah) (cT.mono ah)).r ?_)
 rintro cN hg ⟨c4, _, a8, d0, rfl, bw⟩
 refine Za rfl rfl (Zr S25 rfl rfl bw (Za rfl rfl (Zm (v := Vi (0)) rfl rfl (Zb (Ze ?_)))))
 obtain ⟨a9, da, hm⟩ := Zg hm
 refine W_block (W_forS (fun k' s' f' w' => (fun (a9 : (List Bool)) => ∃ (c5 : PHeap) , PHeap.le c4 c5 ∧ St w0 c5 (Res.box a 66 [l, j, m, n, o, ab, ac, p, d] :: Res.arr (encInt .i64) 3 ab b.vars :: Res.arr encFact 46 ac b.atoms :: Res.arr encBool 4 p b.grouped :: Res.arr (encInt .i64) 3 d b.fluents :: Res.arr encBool 4 i a9 :: H) w' ∧ f' 0 = Value.pointer (some ⟨a, 0, none⟩) ∧ f' 1 = ae ∧ f' 4 = i ∧ f' 36 = cN ∧ f' 37 = Vi ((cQ.length : Int)) ∧ f' 38 = Vi (k' : Int)) s') da ?_ ?_ ?_)
 ·have d1 := (d0).f5
  exact ⟨c4, (Zv _), (((((d1).f5).f5).f5).f5).f5, cp, ei, ej, rfl, rfl, rfl⟩
 ·intro ca a9 fj gi hh dP di a1
  obtain ⟨c6, cb, bO, el, em, en, cq, cr, b9⟩ := di
  refine Zc (Zd (Za rfl rfl (Zq rfl b9 cr (Zb (Ze (Zc (W_true (Zx (decide_eq_true (by omega))) (W_skip (Ze (Zc (W_block (Zc (Zd ?_)))))))))))))
  obtain ⟨f4, eM, a1⟩ := Zg a1
  refine Za rfl rfl (Exec.index_rep S25 rfl cq b9 (bw.mono cb) eM ?_)
  intro fG gG cV
  refine Za rfl rfl (Zw (E := encCond) bO A84 rfl rfl rfl cV ?_)
  intro gY eN
  obtain ⟨cH, b2, cI, rfl, fe, aH, ff⟩ := encCond_val.1 eN
  refine Za rfl rfl (Exec.alloc (cs := [Value.slice none 0 0, Value.slice none 0 0, Value.slice none 0 0]) bO Z84 rfl rfl ?_)
  intro fH hi d2
  refine Za rfl rfl (Exec.store_box (ds := [cH, b2, cI]) (es := [cH, b2, cI]) d2 A84 rfl rfl rfl rfl (Zj (fe).one (Zj (aH).one (Zj (ff).one one_nil))) (Nat.le_of_ble_eq_true rfl) rfl ?_)
  intro hj bP
  refine Zb (Ze (Zc (Zd (Za rfl rfl (Zp F84_1 rfl rfl rfl (Za rfl rfl (Zn (bP) A24 rfl rfl rfl (Za rfl rfl (Zr S24 rfl rfl aH (Za rfl rfl (Zm (v := Vi (0)) rfl rfl (Zb (Ze ?_)))))))))))))
  obtain ⟨bd, db, a1⟩ := Zg a1
  refine W_block (W_forS (fun k' s' f' w' => (fun (bd : (List Bool)) => ∃ (c7 : PHeap) , PHeap.le c6 c7 ∧ St w0 c7 (Res.box a 66 [l, j, m, n, o, ab, ac, p, d] :: Res.arr (encInt .i64) 3 ab b.vars :: Res.arr encFact 46 ac b.atoms :: Res.arr encBool 4 p b.grouped :: Res.arr (encInt .i64) 3 d b.fluents :: Res.arr encBool 4 i bd :: H) w' ∧ f' 0 = Value.pointer (some ⟨a, 0, none⟩) ∧ f' 1 = ae ∧ f' 4 = i ∧ f' 36 = cN ∧ f' 37 = Vi ((cQ.length : Int)) ∧ f' 38 = Vi ((ca : Int)) ∧ f' 43 = b2 ∧ f' 44 = Vi ((f4.Neg.length : Int)) ∧ f' 45 = Vi (k' : Int)) s') db ?_ ?_ ?_)
  ·have d3 := (bP).drop
   exact ⟨c6, (Zv _), ((((((d3).f5).f5).f5).f5).f5).f5, el, em, en, cq, cr, b9, rfl, rfl, rfl⟩
  ·intro dV bd fk gj hk dQ dj an
   obtain ⟨fl, cc, aT, eo, ep, ct, er, et, eu, cu, cv, bA⟩ := dj
   refine Zc (Zd (Za rfl rfl (Zq rfl bA cv (Zb (Ze (Zc (W_true (Zx (decide_eq_true (by omega))) (W_skip (Ze (Zc (W_block (Zc (Zd ?_)))))))))))))
   obtain ⟨cO, eO, an⟩ := Zg an
   refine Za rfl rfl (Exec.index_rep S24 rfl cu bA (aH.mono cc) eO ?_)
   intro fI gH cW
   refine Za rfl rfl (Zw (E := (encInt .i64)) aT A3 rfl rfl rfl cW ?_)
   intro gZ eP
   obtain rfl := encInt_val.1 eP
   refine Za rfl rfl (Zo (v := Vi (cO)) rfl rfl (Zb (Ze (Zd (Za rfl rfl (Zm (v := i) rfl ct (Za rfl rfl (Zm (v := Vi (cO)) rfl rfl ?_))))))))
   obtain ⟨hO, bq, an⟩ := Zg an
   obtain ⟨gy, fP, bF⟩ := ((aT).f5).arr_at bq
   refine Za rfl rfl (Exec.index_slice S64 rfl bF rfl (idx_some bq).1 (idx_some bq).2.1 ?_)
   obtain ⟨g9, eQ, an⟩ := Zg an
   refine Za rfl rfl (Exec.store_arr (aT).f5 bF A4 rfl rfl rfl rfl (encBool_val.2 rfl) eQ ?_)
   intro hl d4
   refine Zb (ib_normal (Ze (Zd (Za rfl rfl (Exec.add rfl bA rfl (Za rfl rfl (Zm (v := Vi (IntKind.i64.wrap ((dV : Int) + 1))) rfl rfl (Zb (Ze ?_)))))))))
   have fW := Zu an
   subst fk
   exact ⟨fl, cc, (((((d4).f5).f5).f5).f5).f5, eo, ep, ct, er, et, eu, cu, cv, (Eq.trans rfl (wrap_up dQ (SliceRep.le aH)))⟩
  intro gk hn dk
  obtain ⟨fm, dZ, d5, ev, ew, ex, ey, ez, e0, gK, e1, f8⟩ := dk
  refine Zc (Zd (Za rfl rfl (Zq rfl f8 e1 (Zb (Ze (Zc (W_false (Zx (decide_eq_false (by omega))) (W_exit (at_exit (at_exit (ib_here (ib_normal (Ze (Zd (Za rfl rfl (Exec.add rfl e0 rfl (Za rfl rfl (Zm (v := Vi (IntKind.i64.wrap ((ca : Int) + 1))) rfl rfl (Zb (Ze ?_))))))))))))))))))))
  have fX := Zu a1
  subst fj
  exact ⟨fm, (Zt cb dZ), ((((((d5).f5).f5).f5).f5).f5).f5, ev, ew, ex, ey, ez, (Eq.trans rfl (wrap_up dP (SliceRep.le bw)))⟩
 intro gl ho dl
 obtain ⟨aJ, aA, a5, aa, bk, ai, gL, e2, f9⟩ := dl
 refine Zc (Zd (Za rfl rfl (Zq rfl f9 e2 (Zb (Ze (Zc (W_false (Zx (decide_eq_false (by omega))) (W_exit (at_exit (at_exit (ib_here (Ze (Zc ?_)))))))))))))
 obtain ⟨ea, c1, hm⟩ := Zg hm
 obtain ⟨eb, br, hm⟩ := Zg hm
 refine W_mid (M := fun f' w' => ∃ (c8 : PHeap) (t : Value) (u : Value), PHeap.le aJ c8 ∧ St w0 c8 (Res.box a 66 [l, j, m, n, o, ab, t, u, d] :: Res.arr (encInt .i64) 3 ab b.vars :: Res.arr encFact 46 ac b.atoms :: Res.arr encBool 4 p b.grouped :: Res.arr (encInt .i64) 3 d b.fluents :: Res.arr encBool 4 i a9 :: Res.arr encFact 46 t ea :: Res.arr encBool 4 u eb :: H) w' ∧ f' 0 = Value.pointer (some ⟨a, 0, none⟩) ∧ f' 1 = ae ∧ f' 4 = i) ?_ ?_
 ·refine W_dl (n0 := 11) (qs 0 4 (.q 5 (.q 6 (.alt (.e 4 [0, 1, 5, 6] (.q 8 (.q 9 (.alt (.e 7 [0, 1, 8, 9] (.e 10 [1] .done)) (.e 10 [1, 5, 6] (.e 7 [1] .done)))))) (.e 7 [0, 1, 2, 3] (.e 4 [0, 1] (.q 8 (.q 9 (.e 10 [1] .done))))))))) hmix (by kernel_rfl) (by kernel_rfl) (DL_q rfl rfl (Zm (v := Value.pointer (some ⟨a, 0, none⟩)) rfl aa ⟨rfl, ?_⟩))
  refine DL_q rfl rfl (Zm (v := Value.pointer (some ⟨a, 0, none⟩)) rfl aa ⟨rfl, ?_⟩)
  refine DL_q rfl rfl (Zm (v := i) rfl ai ⟨rfl, ?_⟩)
  refine DL_q rfl rfl (Exec.len_arr ((a5.drew).f5) S64 rfl rfl ⟨rfl, ?_⟩)
  refine DL_q rfl rfl (Zm (v := i) rfl ai ⟨rfl, ?_⟩)
  refine DL_q rfl rfl (Exec.len_arr ((a5.drew).f5) S64 rfl rfl ⟨rfl, ?_⟩)
  refine DL_alt ?_ ?_
  ·refine DL_e rfl rfl (Exec.make (E := encFact) (y := (⟨0, 0⟩ : Fact)) a5.drew S31 Z46 ⟨[Vi (0)], [Vi (0)], rfl, rfl, rfl⟩ rfl rfl rfl c1 ?_)
   intro aj hp ax
   refine ⟨(ag_cons (ag_r rfl rfl (Zm (v := Value.pointer (some ⟨a, 0, none⟩)) rfl aa ⟨rfl, rfl⟩)) (ag_cons (ag_r rfl rfl (Zm (v := Value.pointer (some ⟨a, 0, none⟩)) rfl aa ⟨rfl, rfl⟩)) (ag_cons (ag_r rfl rfl (Zm (v := i) rfl ai ⟨rfl, rfl⟩)) (ag_cons (ag_r rfl rfl (Exec.len_arr ((ax).f6) S64 rfl rfl ⟨rfl, rfl⟩)) ag_nil)))), ?_⟩
   refine DL_q rfl rfl (Exec.nilCheck_ptr rfl rfl ⟨rfl, ?_⟩)
   refine DL_q rfl rfl (Zp F66_2 rfl rfl rfl ⟨rfl, ?_⟩)
   refine DL_alt ?_ ?_
   ·refine DL_e rfl rfl (Exec.make (E := encBool) ax S64 Z4 rfl rfl rfl rfl br ?_)
    intro b3 hq aU
    refine ⟨(ag_cons (ag_r rfl rfl (Zm (v := Value.pointer (some ⟨a, 0, none⟩)) rfl aa ⟨rfl, rfl⟩)) (ag_cons (ag_r rfl rfl (Zm (v := Value.pointer (some ⟨a, 0, none⟩)) rfl aa ⟨rfl, rfl⟩)) (ag_cons (ag_r rfl rfl (Exec.nilCheck_ptr rfl rfl ⟨rfl, rfl⟩)) (ag_cons (ag_r rfl rfl (Zp F66_2 rfl rfl rfl ⟨rfl, rfl⟩)) ag_nil)))), ?_⟩
    refine DL_e rfl rfl (Exec.store_box (ds := [aj]) (es := [l, j, m, n, o, ab, aj, p, d]) (aU).f2 A31 rfl rfl rfl (cells_one (((aU).f2).f2).arr_one) (Zj (((aU).f2).f2).arr_one one_nil) (Nat.le_of_ble_eq_true rfl) rfl ?_)
    intro hr aV
    refine ⟨(ag_cons (ag_r rfl rfl (Zm (v := Value.pointer (some ⟨a, 0, none⟩)) rfl aa ⟨rfl, rfl⟩)) ag_nil), ?_⟩
    refine DL_done (Za rfl rfl (Exec.nilCheck_ptr rfl rfl (Za rfl rfl (Zp F66_3 rfl rfl rfl (Za rfl rfl (Exec.store_box (ds := [b3]) (es := [l, j, m, n, o, ab, aj, b3, d]) aV A64 rfl rfl rfl (cells_one ((aV).f1).arr_one) (Zj ((aV).f1).arr_one one_nil) (Nat.le_of_ble_eq_true rfl) rfl ?_))))))
    intro hs d6
    refine Zb (Ze ?_)
    exact ⟨aJ, aj, b3, (Zv _), ((((((((d6).f1).f2).f7).f7).f7).f7).f7).f7, aa, bk, ai⟩
   refine DL_e rfl rfl (Exec.store_box (ds := [aj]) (es := [l, j, m, n, o, ab, aj, p, d]) (ax).f1 A31 rfl rfl rfl (cells_one (((ax).f1).f1).arr_one) (Zj (((ax).f1).f1).arr_one one_nil) (Nat.le_of_ble_eq_true rfl) rfl ?_)
   intro ht bQ
   refine ⟨(ag_cons (ag_r rfl rfl (Zm (v := Value.pointer (some ⟨a, 0, none⟩)) rfl aa ⟨rfl, rfl⟩)) (ag_cons (ag_r rfl rfl (Zm (v := i) rfl ai ⟨rfl, rfl⟩)) (ag_cons (ag_r rfl rfl (Exec.len_arr ((bQ).f6) S64 rfl rfl ⟨rfl, rfl⟩)) ag_nil))), ?_⟩
   refine DL_e rfl rfl (Exec.make (E := encBool) bQ S64 Z4 rfl rfl rfl rfl br ?_)
   intro b4 hu aW
   refine ⟨(ag_cons (ag_r rfl rfl (Zm (v := Value.pointer (some ⟨a, 0, none⟩)) rfl aa ⟨rfl, rfl⟩)) ag_nil), ?_⟩
   refine DL_done (Za rfl rfl (Exec.nilCheck_ptr rfl rfl (Za rfl rfl (Zp F66_3 rfl rfl rfl (Za rfl rfl (Exec.store_box (ds := [b4]) (es := [l, j, m, n, o, ab, aj, b4, d]) (aW).f1 A64 rfl rfl rfl (cells_one (((aW).f1).f1).arr_one) (Zj (((aW).f1).f1).arr_one one_nil) (Nat.le_of_ble_eq_true rfl) rfl ?_))))))
   intro hv d7
   refine Zb (Ze ?_)
   exact ⟨aJ, aj, b4, (Zv _), ((((((((d7).f1).f2).f7).f7).f7).f7).f7).f7, aa, bk, ai⟩
  refine DL_e rfl rfl (Exec.make (E := encBool) a5.drew S64 Z4 rfl rfl rfl rfl br ?_)
  intro b5 hw bR
  refine ⟨(ag_cons (ag_r rfl rfl (Zm (v := Value.pointer (some ⟨a, 0, none⟩)) rfl aa ⟨rfl, rfl⟩)) (ag_cons (ag_r rfl rfl (Zm (v := Value.pointer (some ⟨a, 0, none⟩)) rfl aa ⟨rfl, rfl⟩)) (ag_cons (ag_r rfl rfl (Zm (v := i) rfl ai ⟨rfl, rfl⟩)) (ag_cons (ag_r rfl rfl (Exec.len_arr ((bR).f6) S64 rfl rfl ⟨rfl, rfl⟩)) ag_nil)))), ?_⟩
  refine DL_e rfl rfl (Exec.make (E := encFact) (y := (⟨0, 0⟩ : Fact)) bR S31 Z46 ⟨[Vi (0)], [Vi (0)], rfl, rfl, rfl⟩ rfl rfl rfl c1 ?_)
  intro aL hx aX
  refine ⟨(ag_cons (ag_r rfl rfl (Zm (v := Value.pointer (some ⟨a, 0, none⟩)) rfl aa ⟨rfl, rfl⟩)) (ag_cons (ag_r rfl rfl (Zm (v := Value.pointer (some ⟨a, 0, none⟩)) rfl aa ⟨rfl, rfl⟩)) ag_nil)), ?_⟩
  refine DL_q rfl rfl (Exec.nilCheck_ptr rfl rfl ⟨rfl, ?_⟩)
  refine DL_q rfl rfl (Zp F66_2 rfl rfl rfl ⟨rfl, ?_⟩)
  refine DL_e rfl rfl (Exec.store_box (ds := [aL]) (es := [l, j, m, n, o, ab, aL, p, d]) (aX).f2 A31 rfl rfl rfl (cells_one (((aX).f2).f1).arr_one) (Zj (((aX).f2).f1).arr_one one_nil) (Nat.le_of_ble_eq_true rfl) rfl ?_)
  intro hy aY
  refine ⟨(ag_cons (ag_r rfl rfl (Zm (v := Value.pointer (some ⟨a, 0, none⟩)) rfl aa ⟨rfl, rfl⟩)) ag_nil), ?_⟩
  refine DL_done (Za rfl rfl (Exec.nilCheck_ptr rfl rfl (Za rfl rfl (Zp F66_3 rfl rfl rfl (Za rfl rfl (Exec.store_box (ds := [b5]) (es := [l, j, m, n, o, ab, aL, b5, d]) aY A64 rfl rfl rfl (cells_one ((aY).f2).arr_one) (Zj ((aY).f2).arr_one one_nil) (Nat.le_of_ble_eq_true rfl) rfl ?_))))))
  intro hz d8
  refine Zb (Ze ?_)
  exact ⟨aJ, aL, b5, (Zv _), ((((((((d8).f2).f2).f7).f7).f7).f7).f7).f7, aa, bk, ai⟩
 intro gm h0 dv
 obtain ⟨bz, t, u, aB, d9, e3, e4, e5⟩ := dv
 refine (Ze (Zc ?_))
 obtain ⟨bC, dc, g6, dT, dN⟩ := ctl_some hm
 refine W_mid (M := fun f' w' => ∃ s', (bC = .next s' ∨ bC = .brk s') ∧ (un4 fun (cd : (List Int)) (ce : (List Bool)) (aC : (List Fact)) (a2 : (List Bool)) => ∃ (c9 : PHeap) (aM : Value), PHeap.le bz c9 ∧ St w0 c9 (Res.box a 66 [l, j, m, n, o, aM, t, u, d] :: Res.arr (encInt .i64) 3 aM cd :: Res.arr encFact 46 ac b.atoms :: Res.arr encBool 4 p b.grouped :: Res.arr (encInt .i64) 3 d b.fluents :: Res.arr encBool 4 i ce :: Res.arr encFact 46 t aC :: Res.arr encBool 4 u a2 :: H) w' ∧ f' 0 = Value.pointer (some ⟨a, 0, none⟩) ∧ f' 1 = ae ∧ f' 4 = i) s') ?_ ?_
 ·refine W_block (W_while (fun s' f' w' => (un4 fun (a3 : (List Int)) (cf : (List Bool)) (cg : (List Fact)) (ch : (List Bool)) => ∃ (cA : PHeap) (av : Value), PHeap.le bz cA ∧ St w0 cA (Res.box a 66 [l, j, m, n, o, av, t, u, d] :: Res.arr (encInt .i64) 3 av a3 :: Res.arr encFact 46 ac b.atoms :: Res.arr encBool 4 p b.grouped :: Res.arr (encInt .i64) 3 d b.fluents :: Res.arr encBool 4 i cf :: Res.arr encFact 46 t cg :: Res.arr encBool 4 u ch :: H) w' ∧ f' 0 = Value.pointer (some ⟨a, 0, none⟩) ∧ f' 1 = ae ∧ f' 4 = i) s') dc ?_ ?_)
  ·have dA := (d9).f7
   exact ⟨bz, ab, (Zv _), (((((((dA).f7).f7).f7).f7).f7).f7).f7, e3, e4, e5⟩
  intro ft bD gn h1 dm x dU
  obtain ⟨a3, cf, cg, ch⟩ := ft
  replace x := un4_eq x
  obtain ⟨gT, av, be, dB, cw, bl, bm⟩ := dm
  refine W_block (Zc (Zd (Za rfl rfl (Zm (v := ae) rfl bl (Za rfl rfl (Zm (v := i) rfl bm ?_))))))
  obtain ⟨hU, eR, x⟩ := Zg x
  refine Za rfl rfl (Tc rfl rfl rfl (Zi rfl (Zi rfl args_nil)) (encode_largest_o_sim eR (dB).f5 (cU.mono (Zt (Zt (Zt (Zt ah a8) aA) aB) be))).r ?_)
  rintro aN h2 ⟨b0, _, ci, bS, rfl, bx⟩
  refine Za rfl rfl (Zo (v := aN) rfl rfl (Zb (Ze (Zc (Zc (Zd (Za rfl rfl (Zm (v := aN) rfl rfl (Za rfl rfl (Zr S24 rfl rfl bx (Za rfl rfl (Zq rfl rfl rfl (Zb (Ze ?_))))))))))))))
  rcases ite_some x with ⟨ay, x⟩ | ⟨ay, x⟩
  ·refine W_cond_t rfl ay (W_exit (at_exit (ib_exit rfl (at_exit (ib_here (Ze ?_))))))
   have fY := Zu x
   subst bD
   refine ⟨_, .inr (dU (by intro _ h; cases h)), ?_⟩; exact ⟨b0, av, (Zt be ci), ((((((((bS).f7).f7).f2).f7).f7).f7).f7).f7, cw, bl, bm⟩
  refine W_cond_f rfl ay ?_
  replace ay := Zk ay
  refine W_skip (Ze (Zc (Zd (Za rfl rfl (Zm (v := aN) rfl rfl (Za rfl rfl (Zm (v := aN) rfl rfl (Za rfl rfl (Zr S24 rfl rfl bx (Za rfl rfl (Exec.min2 rfl rfl rfl ?_)))))))))))
  obtain ⟨aw, eS, x⟩ := Zg x
  refine Za rfl rfl (Exec.slice_to S24 rfl rfl rfl bx eS ?_)
  intro a4 aI
  refine Za rfl rfl (Zo (v := a4) rfl rfl (Zb (Ze (Zc (Zc (Zd (Za rfl rfl (Zm (v := a4) rfl rfl (Za rfl rfl (Zr S24 rfl rfl aI (Za rfl rfl (Zm (v := Vi (0)) rfl rfl (Zb (Ze ?_))))))))))))))
  obtain ⟨fu, dd, x⟩ := Zg x
  refine W_block (W_forS (fun k' s' f' w' => (un3 fun (bf : (List Bool)) (bg : (List Fact)) (bh : (List Bool)) => ∃ (cB : PHeap) , PHeap.le b0 cB ∧ St w0 cB (Res.box a 66 [l, j, m, n, o, av, t, u, d] :: Res.arr (encInt .i64) 3 av a3 :: Res.arr encFact 46 ac b.atoms :: Res.arr encBool 4 p b.grouped :: Res.arr (encInt .i64) 3 d b.fluents :: Res.arr encBool 4 i bf :: Res.arr encFact 46 t bg :: Res.arr encBool 4 u bh :: H) w' ∧ f' 0 = Value.pointer (some ⟨a, 0, none⟩) ∧ f' 1 = ae ∧ f' 4 = i ∧ f' 10 = a4 ∧ f' 77 = a4 ∧ f' 78 = Vi ((aw.length : Int)) ∧ f' 79 = Vi (k' : Int)) s') dd ?_ ?_ ?_)
  ·have dC := (bS).f7
   exact ⟨b0, (Zv _), (((((((dC).f7).f2).f7).f7).f7).f7).f7, cw, bl, bm, rfl, rfl, rfl, rfl⟩
  ·intro aq fv fn go h3 dR dn z
   obtain ⟨bf, bg, bh⟩ := fv
   replace z := un3_eq z
   obtain ⟨fo, cj, am, aE, e6, aF, e7, cx, cy, aP⟩ := dn
   refine Zc (Zd (Za rfl rfl (Zq rfl aP cy (Zb (Ze (Zc (W_true (Zx (decide_eq_true (by omega))) (W_skip (Ze (Zc (W_block (Zc (Zd (Za rfl rfl (Zm (v := Vi ((aq : Int))) rfl aP ?_)))))))))))))))
   obtain ⟨ap, eT, z⟩ := Zg z
   refine Za rfl rfl (Exec.index_rep S24 rfl cx aP (aI.mono cj) eT ?_)
   intro fJ gI cX
   refine Za rfl rfl (Zw (E := (encInt .i64)) am A3 rfl rfl rfl cX ?_)
   intro ha eU
   obtain rfl := encInt_val.1 eU
   refine Za rfl rfl (Zo (v := Vi ((aq : Int))) rfl rfl (Za rfl rfl (Zo (v := Vi (ap)) rfl rfl (Zb (Ze (W_dl (n0 := 24) (qs 0 21 (.e 21 [9, 10, 11] (.q 22 (.e 23 [10, 11] .done)))) hmix (by kernel_rfl) (by kernel_rfl) (DL_q rfl rfl (Zm (v := Value.pointer (some ⟨a, 0, none⟩)) rfl aE ⟨rfl, ?_⟩))))))))
   refine DL_q rfl rfl (Exec.nilCheck_ptr rfl rfl ⟨rfl, ?_⟩)
   refine DL_q rfl rfl (Zp F66_2 rfl rfl rfl ⟨rfl, ?_⟩)
   refine DL_q rfl rfl (Zn (am.drew) A31 rfl rfl rfl ⟨rfl, ?_⟩)
   refine DL_q rfl rfl (Zm (v := Vi (ap)) rfl rfl ⟨rfl, ?_⟩)
   refine DL_q rfl rfl (Zm (v := Value.pointer (some ⟨a, 0, none⟩)) rfl aE ⟨rfl, ?_⟩)
   refine DL_q rfl rfl (Exec.nilCheck_ptr rfl rfl ⟨rfl, ?_⟩)
   refine DL_q rfl rfl (Zp F66_3 rfl rfl rfl ⟨rfl, ?_⟩)
   refine DL_q rfl rfl (Zn (am.drew) A64 rfl rfl rfl ⟨rfl, ?_⟩)
   refine DL_q rfl rfl (Zm (v := Vi (ap)) rfl rfl ⟨rfl, ?_⟩)
   refine DL_q rfl rfl (Zm (v := i) rfl aF ⟨rfl, ?_⟩)
   refine DL_q rfl rfl (Zm (v := Vi (ap)) rfl rfl ⟨rfl, ?_⟩)
   refine DL_q rfl rfl (Zm (v := Value.pointer (some ⟨a, 0, none⟩)) rfl aE ⟨rfl, ?_⟩)
   refine DL_q rfl rfl (Exec.nilCheck_ptr rfl rfl ⟨rfl, ?_⟩)
   refine DL_q rfl rfl (Zp F66_1 rfl rfl rfl ⟨rfl, ?_⟩)
   refine DL_q rfl rfl (Zn (am.drew) A24 rfl rfl rfl ⟨rfl, ?_⟩)
   refine DL_q rfl rfl (Exec.len_arr ((am.drew).f1) S24 rfl rfl ⟨rfl, ?_⟩)
   refine DL_q rfl rfl (Zm (v := Vi ((aq : Int))) rfl rfl ⟨rfl, ?_⟩)
   refine DL_q rfl rfl (Exec.add rfl rfl rfl ⟨rfl, ?_⟩)
   refine DL_q rfl rfl (Exec.build rfl (parts_cons (c := [Vi ((a3.length : Int))]) (cells_of rfl rfl) (parts_cons (c := [Vi (IntKind.i64.wrap ((aq : Int) + 1))]) (cells_of rfl rfl) parts_nil)) (v := Value.agg #[Vi ((a3.length : Int)), Vi (IntKind.i64.wrap ((aq : Int) + 1))]) (fun _ => by kernel_rfl) ⟨rfl, ?_⟩)
   obtain ⟨hP, bs, z⟩ := Zg z
   obtain ⟨gz, fQ, bG⟩ := ((am.drew).f6).arr_at bs
   refine DL_q rfl rfl (Exec.index_slice S31 rfl bG rfl (idx_some bs).1 (idx_some bs).2.1 ⟨rfl, ?_⟩)
   obtain ⟨gA, eV, z⟩ := Zg z
   refine DL_e rfl rfl (Exec.store_arr (am.drew).f6 bG A46 rfl rfl rfl rfl (encFact_val.2 rfl) eV ?_)
   intro h4 bT
   refine ⟨(ag_cons (ag_r rfl rfl (Zm (v := Vi (ap)) rfl rfl ⟨rfl, rfl⟩)) (ag_cons (ag_r rfl rfl (Zm (v := i) rfl aF ⟨rfl, rfl⟩)) (ag_cons (ag_r rfl rfl (Zm (v := Vi (ap)) rfl rfl ⟨rfl, rfl⟩)) ag_nil))), ?_⟩
   obtain ⟨hQ, bt, z⟩ := Zg z
   obtain ⟨g0, fR, bH⟩ := ((bT).f7).arr_at bt
   refine DL_q rfl rfl (Exec.index_slice S64 rfl bH rfl (idx_some bt).1 (idx_some bt).2.1 ⟨rfl, ?_⟩)
   obtain ⟨gB, eW, z⟩ := Zg z
   refine DL_e rfl rfl (Exec.store_arr (bT).f7 bH A4 rfl rfl rfl rfl (encBool_val.2 rfl) eW ?_)
   intro h5 bU
   refine ⟨(ag_cons (ag_r rfl rfl (Zm (v := i) rfl aF ⟨rfl, rfl⟩)) (ag_cons (ag_r rfl rfl (Zm (v := Vi (ap)) rfl rfl ⟨rfl, rfl⟩)) ag_nil)), ?_⟩
   refine DL_done ?_
   obtain ⟨hR, bu, z⟩ := Zg z
   obtain ⟨g1, fS, bI⟩ := ((bU).f7).arr_at bu
   refine Za rfl rfl (Exec.index_slice S64 rfl bI rfl (idx_some bu).1 (idx_some bu).2.1 ?_)
   obtain ⟨gC, eX, z⟩ := Zg z
   refine Za rfl rfl (Exec.store_arr (bU).f7 bI A4 rfl rfl rfl rfl (encBool_val.2 rfl) eX ?_)
   intro h6 dD
   refine Zb (ib_normal (Ze (Zd (Za rfl rfl (Exec.add rfl aP rfl (Za rfl rfl (Zm (v := Vi (IntKind.i64.wrap ((aq : Int) + 1))) rfl rfl (Zb (Ze ?_)))))))))
   have fZ := Zu z
   subst fn
   exact ⟨fo, cj, ((((((((dD).f1).f2).f2).f7).f7).f7).f7).f7, aE, e6, aF, e7, cx, cy, (Eq.trans rfl (wrap_up dR (SliceRep.le aI)))⟩
  intro gp h7 dp
  obtain ⟨bf, bg, bh⟩ := fu
  replace x := un3_eq x
  obtain ⟨fp, ck, bV, bn, e8, e9, eA, gM, eB, fA⟩ := dp
  refine Zc (Zd (Za rfl rfl (Zq rfl fA eB (Zb (Ze (Zc (W_false (Zx (decide_eq_false (by omega))) (W_exit (at_exit (at_exit (ib_here (Ze (Zd (Za rfl rfl (Zm (v := Value.pointer (some ⟨a, 0, none⟩)) rfl bn (Za rfl rfl (Zm (v := Value.pointer (some ⟨a, 0, none⟩)) rfl bn (Za rfl rfl (Exec.nilCheck_ptr rfl rfl (Za rfl rfl (Zp F66_1 rfl rfl rfl (Za rfl rfl (Zn (bV) A24 rfl rfl rfl (Za rfl rfl (Zm (v := a4) rfl eA (Za rfl rfl (Zr S24 rfl rfl (aI.mono ck) (Za rfl rfl (Exec.add rfl rfl rfl (Za rfl rfl (Exec.buildSlice (Te := 3) (cs := [Vi (IntKind.i64.wrap ((aw.length : Int) + 1))]) bV rfl (parts_cons (c := [Vi (IntKind.i64.wrap ((aw.length : Int) + 1))]) (cells_of rfl rfl) parts_nil) (fun _ => by kernel_rfl) ?_)))))))))))))))))))))))))))))))
  intro fK h8 dE
  obtain ⟨gD, eY, x⟩ := Zg x
  refine Za rfl rfl (Exec.append_box (E := (encInt .i64)) (ys := [IntKind.i64.wrap ((aw.length : Int) + 1)]) (dE).f2 S24 Z3 rfl (by decide) rfl rfl rfl rfl ⟨[Vi (IntKind.i64.wrap ((aw.length : Int) + 1))], [], rfl, rfl, rfl⟩ rfl eY ?_)
  intro b6 h9 aZ
  refine Za rfl rfl (Exec.nilCheck_ptr rfl rfl (Za rfl rfl (Zp F66_1 rfl rfl rfl (Za rfl rfl (Exec.store_box (ds := [b6]) (es := [l, j, m, n, o, b6, t, u, d]) (aZ).f1 A24 rfl rfl rfl (cells_one (((aZ).f1).f1).arr_one) (Zj (((aZ).f1).f1).arr_one one_nil) (Nat.le_of_ble_eq_true rfl) rfl ?_)))))
  intro hA dF
  refine Zb (ib_normal (Ze ?_))
  have ga := Zu x
  subst bD
  refine ⟨_, rfl, ?_⟩; exact ⟨fp, b6, (Zt (Zt be ci) ck), ((((((((dF).f7).f7).f7).f7).f7).f7).f7).f7, bn, e8, e9⟩
 rintro gq hB ⟨fw, bZ, dw⟩
 have hm := bZ.elim (dT _) (dN _)
 clear bZ
 obtain ⟨cd, ce, aC, a2⟩ := fw
 replace hm := un4_eq hm
 obtain ⟨cC, aM, bi, a6, cz, gN, gO⟩ := dw
 refine (Ze (Zc (Zc (Zd (Za rfl rfl (Zm (v := Value.pointer (some ⟨a, 0, none⟩)) rfl cz (Za rfl rfl (Exec.nilCheck_ptr rfl rfl (Za rfl rfl (Zp F66_2 rfl rfl rfl (Za rfl rfl (Zn (a6) A31 rfl rfl rfl (Za rfl rfl (Exec.len_arr ((a6).f6) S31 rfl rfl (Za rfl rfl (Zm (v := Vi (0)) rfl rfl (Zb (Ze ?_))))))))))))))))))
 obtain ⟨fx, de, hm⟩ := Zg hm
 refine W_block (W_forS (fun k' s' f' w' => (un2 fun (au : (List Int)) (aD : (List Fact)) => ∃ (cD : PHeap) (ak : Value), PHeap.le cC cD ∧ St w0 cD (Res.box a 66 [l, j, m, n, o, ak, t, u, d] :: Res.arr (encInt .i64) 3 ak au :: Res.arr encFact 46 ac b.atoms :: Res.arr encBool 4 p b.grouped :: Res.arr (encInt .i64) 3 d b.fluents :: Res.arr encFact 46 t aD :: Res.arr encBool 4 u a2 :: H) w' ∧ f' 0 = Value.pointer (some ⟨a, 0, none⟩) ∧ f' 124 = Vi ((aC.length : Int)) ∧ f' 125 = Vi (k' : Int)) s') de ?_ ?_ ?_)
 ·have dG := ((a6).f5).drop
  exact ⟨cC, aM, (Zv _), (((((((dG).f6).f6).f6).f6).f6).f6).f6, cz, rfl, rfl⟩
 ·intro ar fy fq gr hC dS dq ag
  obtain ⟨au, aD⟩ := fy
  replace ag := un2_eq ag
  obtain ⟨b1, ak, ec, af, ao, bo, aQ⟩ := dq
  refine Zc (Zd (Za rfl rfl (Zq rfl aQ bo (Zb (Ze (Zc (W_true (Zx (decide_eq_true (by omega))) (W_skip (Ze (Zc (W_block (Zc (Zd (Za rfl rfl (Zm (v := Vi ((ar : Int))) rfl aQ (Za rfl rfl (Zo (v := Vi ((ar : Int))) rfl rfl (Zb (Ze (Zc (Zd (Za rfl rfl (Zm (v := Value.pointer (some ⟨a, 0, none⟩)) rfl ao (Za rfl rfl (Exec.nilCheck_ptr rfl rfl (Za rfl rfl (Zp F66_3 rfl rfl rfl (Za rfl rfl (Zn (af) A64 rfl rfl rfl (Za rfl rfl (Zm (v := Vi ((ar : Int))) rfl rfl ?_)))))))))))))))))))))))))))))))
  obtain ⟨fB, aG, ag⟩ := Zg ag
  obtain ⟨g2, fT, bJ⟩ := ((af).f6).arr_at aG
  refine Za rfl rfl (Exec.index_slice S64 rfl bJ rfl (idx_some aG).1 (idx_some aG).2.1 (Za rfl rfl (Exec.load_arr (F := encBool) ((af).f6) bJ A4 rfl rfl rfl aG (Sub.refl _) ?_)))
  intro fz eZ
  obtain rfl : fz = Value.bool (fB) := encBool_val.1 eZ
  refine Za rfl rfl (Exec.not rfl rfl (Zb (Ze ?_)))
  obtain ⟨aK, ad, ag⟩ := Zg ag
  refine W_mid (M := fun f' w' => (un2 fun (cl : (List Int)) (cm : (List Fact)) => ∃ (cE : PHeap) (aO : Value), PHeap.le b1 cE ∧ St w0 cE (Res.box a 66 [l, j, m, n, o, aO, t, u, d] :: Res.arr (encInt .i64) 3 aO cl :: Res.arr encFact 46 ac b.atoms :: Res.arr encBool 4 p b.grouped :: Res.arr (encInt .i64) 3 d b.fluents :: Res.arr encFact 46 t cm :: Res.arr encBool 4 u a2 :: H) w' ∧ f' 0 = Value.pointer (some ⟨a, 0, none⟩) ∧ f' 124 = Vi ((aC.length : Int)) ∧ f' 125 = Vi ((ar : Int))) aK) ?_ ?_
  ·rcases ite_some ad with ⟨az, ad⟩ | ⟨az, ad⟩
   ·refine W_cond_t rfl az (Zc (W_dl (n0 := 11) (qs 0 11 .done) hmix (by kernel_rfl) (by kernel_rfl) (DL_q rfl rfl (Zm (v := Value.pointer (some ⟨a, 0, none⟩)) rfl ao ⟨rfl, ?_⟩))))
    refine DL_q rfl rfl (Exec.nilCheck_ptr rfl rfl ⟨rfl, ?_⟩)
    refine DL_q rfl rfl (Zp F66_2 rfl rfl rfl ⟨rfl, ?_⟩)
    refine DL_q rfl rfl (Zn (af.drew) A31 rfl rfl rfl ⟨rfl, ?_⟩)
    refine DL_q rfl rfl (Zm (v := Vi ((ar : Int))) rfl rfl ⟨rfl, ?_⟩)
    refine DL_q rfl rfl (Zm (v := Value.pointer (some ⟨a, 0, none⟩)) rfl ao ⟨rfl, ?_⟩)
    refine DL_q rfl rfl (Exec.nilCheck_ptr rfl rfl ⟨rfl, ?_⟩)
    refine DL_q rfl rfl (Zp F66_1 rfl rfl rfl ⟨rfl, ?_⟩)
    refine DL_q rfl rfl (Zn (af.drew) A24 rfl rfl rfl ⟨rfl, ?_⟩)
    refine DL_q rfl rfl (Exec.len_arr ((af.drew).f1) S24 rfl rfl ⟨rfl, ?_⟩)
    refine DL_q rfl rfl (Exec.build rfl (parts_cons (c := [Vi ((au.length : Int))]) (cells_of rfl rfl) (parts_cons (c := [Vi (1)]) (cells_of rfl rfl) parts_nil)) (v := Value.agg #[Vi ((au.length : Int)), Vi (1)]) (fun _ => by kernel_rfl) ⟨rfl, ?_⟩)
    refine DL_done ?_
    obtain ⟨hT, bv, ad⟩ := Zg ad
    obtain ⟨g3, fU, bK⟩ := ((af.drew).f5).arr_at bv
    refine Za rfl rfl (Exec.index_slice S31 rfl bK rfl (idx_some bv).1 (idx_some bv).2.1 ?_)
    obtain ⟨gE, fa, ad⟩ := Zg ad
    refine Za rfl rfl (Exec.store_arr (af.drew).f5 bK A46 rfl rfl rfl rfl (encFact_val.2 rfl) fa ?_)
    intro hD bW
    refine Zb (Ze (Zd (Za rfl rfl (Zm (v := Value.pointer (some ⟨a, 0, none⟩)) rfl ao (Za rfl rfl (Zm (v := Value.pointer (some ⟨a, 0, none⟩)) rfl ao (Za rfl rfl (Exec.nilCheck_ptr rfl rfl (Za rfl rfl (Zp F66_1 rfl rfl rfl (Za rfl rfl (Zn ((bW).f1) A24 rfl rfl rfl (Za rfl rfl (Exec.buildSlice (Te := 3) (cs := [Vi (2)]) bW rfl (parts_cons (c := [Vi (2)]) (cells_of rfl rfl) parts_nil) (fun _ => by kernel_rfl) ?_))))))))))))))
    intro fL hE dH
    obtain ⟨gF, fb, ad⟩ := Zg ad
    refine Za rfl rfl (Exec.append_box (E := (encInt .i64)) (ys := [2]) (dH).f3 S24 Z3 rfl (by decide) rfl rfl rfl rfl ⟨[Vi (2)], [], rfl, rfl, rfl⟩ rfl fb ?_)
    intro b7 hF ba
    refine Za rfl rfl (Exec.nilCheck_ptr rfl rfl (Za rfl rfl (Zp F66_1 rfl rfl rfl (Za rfl rfl (Exec.store_box (ds := [b7]) (es := [l, j, m, n, o, b7, t, u, d]) (ba).f2 A24 rfl rfl rfl (cells_one (((ba).f2).f1).arr_one) (Zj (((ba).f2).f1).arr_one one_nil) (Nat.le_of_ble_eq_true rfl) rfl ?_)))))
    intro hG dI
    refine Zb (Ze ?_)
    have gb := Zu ad
    subst aK
    exact ⟨b1, b7, (Zv _), (((((((dI).f6).f3).f6).f6).f6).f6).f6, ao, bo, aQ⟩
   refine W_cond_f rfl az ?_
   replace az := Zk az
   refine W_skip (Ze ?_)
   have gc := Zu ad
   subst aK
   exact ⟨b1, ak, (Zv _), (((((((af).f6).f6).f6).f6).f6).f6).f6, ao, bo, aQ⟩
  intro gs hH dx
  obtain ⟨cl, cm⟩ := aK
  replace ag := un2_eq ag
  obtain ⟨fr, aO, ed, dJ, eC, eD, eE⟩ := dx
  refine (ib_normal (Ze (Zd (Za rfl rfl (Exec.add rfl eE rfl (Za rfl rfl (Zm (v := Vi (IntKind.i64.wrap ((ar : Int) + 1))) rfl rfl (Zb (Ze ?_)))))))))
  have gd := Zu ag
  subst fq
  exact ⟨fr, aO, (Zt ec ed), (((((((dJ).f6).f6).f6).f6).f6).f6).f6, eC, eD, (Eq.trans rfl (wrap_up dS ((a6).f6).arr_le))⟩
 intro gu hI dr
 obtain ⟨au, aD⟩ := fx
 replace hm := un2_eq hm
 obtain ⟨cF, ak, bj, bX, c0, eF, fC⟩ := dr
 refine Zc (Zd (Za rfl rfl (Zq rfl fC eF (Zb (Ze (Zc (W_false (Zx (decide_eq_false (by omega))) (W_exit (at_exit (at_exit (ib_here (Ze (Zc (Zd (Za rfl rfl (Zm (v := Value.pointer (some ⟨a, 0, none⟩)) rfl c0 (Za rfl rfl (Exec.nilCheck_ptr rfl rfl (Za rfl rfl (Zp F66_0 rfl rfl rfl (Za rfl rfl (Zp F28_1 rfl rfl rfl (Za rfl rfl (Zn (bX) A23 rfl rfl rfl (Za rfl rfl (Zr S23 rfl rfl (aR.mono (Zt (Zt (Zt (Zt (Zt ah a8) aA) aB) bi) bj)) (Za rfl rfl (Zm (v := Vi (0)) rfl rfl (Zb (Ze ?_))))))))))))))))))))))))))))))
 obtain ⟨gW, df, hm⟩ := Zg hm
 refine W_block (W_forS (fun k' s' f' w' => (fun (_ : Unit) => ∃ (cG : PHeap) , PHeap.le cF cG ∧ St w0 cG (Res.box a 66 [l, j, m, n, o, ak, t, u, d] :: Res.arr (encInt .i64) 3 ak au :: Res.arr encFact 46 ac b.atoms :: Res.arr encBool 4 p b.grouped :: Res.arr (encInt .i64) 3 d b.fluents :: Res.arr encFact 46 t aD :: Res.arr encBool 4 u a2 :: H) w' ∧ f' 0 = Value.pointer (some ⟨a, 0, none⟩) ∧ f' 162 = j ∧ f' 163 = Vi ((b.g.Fluents.length : Int)) ∧ f' 164 = Vi (k' : Int)) s') df ?_ ?_ ?_)
 ·have dK := (bX).f6
  exact ⟨cF, (Zv _), ((((((dK).f6).f6).f6).f6).f6).f6, c0, rfl, rfl, rfl⟩
 ·intro g7 gX gU gv hJ g5 dt bb
  obtain ⟨gV, ee, bY, gP, eG, eH, cP⟩ := dt
  refine Zc (Zd (Za rfl rfl (Zq rfl cP eH (Zb (Ze (Zc (W_true (Zx (decide_eq_true (by omega))) (W_skip (Ze (Zc (W_block (Zc (Zd ?_)))))))))))))
  obtain ⟨al, fc, bb⟩ := Zg bb
  refine Za rfl rfl (Exec.index_rep S23 rfl eG cP (aR.mono (Zt (Zt (Zt (Zt (Zt (Zt ah a8) aA) aB) bi) bj) ee)) fc ?_)
  intro fM gJ cY
  refine Za rfl rfl (Zw (E := encGFluent) bY A73 rfl rfl rfl cY ?_)
  intro hb fd
  obtain ⟨cJ, rfl, fg⟩ := encGFluent_val.1 fd
  refine Za rfl rfl (Exec.alloc (cs := [Value.string (⟨#[]⟩), Value.slice none 0 0, Vi (0), Vi (0), Vi (0)]) bY Z73 rfl rfl ?_)
  intro fN hK dL
  refine Za rfl rfl (Exec.store_box (ds := [Value.string (al.Fluent.Name), cJ, Vi (al.Lo), Vi (al.Hi), Vi (al.Init)]) (es := [Value.string (al.Fluent.Name), cJ, Vi (al.Lo), Vi (al.Hi), Vi (al.Init)]) dL A73 rfl rfl rfl rfl (Zj rfl (Zj (fg).one (Zj rfl (Zj rfl (Zj rfl one_nil))))) (Nat.le_of_ble_eq_true rfl) rfl ?_)
  intro hL g4
  refine Zb (Ze (Zc ?_))
  cases bb
 intro gw hM du
 obtain ⟨fs, ef, dM, gQ, gR, eI, fD⟩ := du
 refine Zc (Zd (Za rfl rfl (Zq rfl fD eI (Zb (Ze (Zc (W_false (Zx (decide_eq_false (by omega))) (W_exit (at_exit (at_exit (ib_here ?_)))))))))))
 have gf := Zu hm
 subst r
 refine ⟨_, retG0 rfl, ?_⟩
 exact ⟨fs, ak, t, u, (Zt (Zt (Zt (Zt (Zt (Zt ah a8) aA) aB) bi) bj) ef), (((((((dM).f6).f6).f6).f6).f6).f6).f6, rfl⟩
end Go.Pw
