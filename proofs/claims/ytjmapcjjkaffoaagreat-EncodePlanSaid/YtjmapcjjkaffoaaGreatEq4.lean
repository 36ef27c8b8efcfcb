/-
  The walks (printed by my generator).
-/
import Derived.Test.YtjmapcjjkaffoaaGreatL29
import Derived.Test.YtjmapcjjkaffoaaGreatL27
import Derived.Test.YtjmapcjjkaffoaaGreatEq3
set_option maxRecDepth 100000
set_option maxHeartbeats 4000000
set_option linter.unusedVariables false
namespace Go.Pw
open Go.Proofs
theorem task_Check_sim {w0 w : World} {s : PHeap} {H : List Res} {j : Task} {g : Value} {l : Value} {m : Value} {a : Value} {r : (Option Int)} (hm : task_Check_p j = some r) (hS : St w0 s (H) w) (aa : SliceRep (encInt .i64) s g j.Vars) (a0 : SliceRep (encInt .i64) s l j.Init) (aP : SliceRep encFact s m j.Goal) (p : SliceRep encOp s a j.Ops) :
  Calls Tryz.prog 26 #[Value.agg #[g, l, m, a]] w fun e w' => ∃ v, e = .returned v ∧ ((fun (fc : (Option Int)) => ∃ (bH : PHeap) , PHeap.le s bH ∧ St w0 bH (H) w' ∧ v = errV 44 (fc)) r) := by
 unfold task_Check_p at hm
 refine calls_of_W Tryz.func26 rfl rfl (Zc (Zd (Za rfl rfl (Exec.box (cs := [g, l, m, a]) hS rfl rfl rfl ?_))))
 intro b gF aW
 refine Za rfl rfl (Zo (v := errV 44 (none)) rfl rfl (Zb (Ze (Zc (Zc (Zd (Za rfl rfl (Exec.load_box_agg (ds := [g, l, m, a]) (aW) A34 rfl rfl rfl ?_))))))))
 obtain ⟨hq, er, hm⟩ := Zg hm
 refine Za rfl rfl (Tc rfl rfl rfl (Zi rfl args_nil) (task_large_sim er aW aa a0 aP p).r ?_)
 rintro _ gG ⟨aD, d, aX, rfl⟩
 refine Zb (Ze ?_)
 rcases ite_some hm with ⟨ah, hm⟩ | ⟨ah, hm⟩
 ·refine W_cond_t rfl ah (Zc ?_)
  cases hm
 refine W_cond_f rfl ah ?_
 replace ah := Zk ah
 refine W_skip (Ze (Zc (Zc (Zd (Za rfl rfl (Zp F34_0 rfl rfl rfl (Za rfl rfl (Zn (aX) A24 rfl rfl rfl (Za rfl rfl (Zr S24 rfl rfl (aa.mono d) (Za rfl rfl (Zm (v := Vi (0)) rfl rfl (Zb (Ze ?_))))))))))))))
 obtain ⟨aQ, cr, fG, dt, df⟩ := ctl_some hm
 refine W_mid (M := fun f' w' => ∃ s', (aQ = .next s' ∨ aQ = .brk s') ∧ (fun (_ : Unit) => ∃ (bI : PHeap) , PHeap.le aD bI ∧ St w0 bI (Res.box b 34 [g, l, m, a] :: H) w' ∧ f' 1 = Value.pointer (some ⟨b, 0, none⟩) ∧ f' 19 = g ∧ f' 20 = Vi ((j.Vars.length : Int))) s') ?_ ?_
 ·refine W_block (W_forC (fun k' s' f' w' => (fun (_ : Unit) => ∃ (bJ : PHeap) , PHeap.le aD bJ ∧ St w0 bJ (Res.box b 34 [g, l, m, a] :: H) w' ∧ f' 1 = Value.pointer (some ⟨b, 0, none⟩) ∧ f' 19 = g ∧ f' 20 = Vi ((j.Vars.length : Int)) ∧ f' 21 = Vi (k' : Int)) s') cr ?_ ?_ ?_)
  ·exact ⟨aD, (Zv _), aX, rfl, rfl, rfl, rfl⟩
  ·intro bo gr cl fv gH dl cy ae fM
   obtain ⟨aE, bq, a1, bu, a8, a9, ax⟩ := cy
   refine Zc (Zd (Za rfl rfl (Zq rfl ax a9 (Zb (Ze (Zc (W_true (Zx (decide_eq_true (by omega))) (W_skip (Ze (Zc (W_block (Zc (Zd ?_)))))))))))))
   obtain ⟨ad, et, ae⟩ := Zg ae
   refine Za rfl rfl (Exec.index_rep S24 rfl a8 ax (aa.mono (Zt d bq)) et ?_)
   intro fd fS cf
   refine Za rfl rfl (Zw (E := (encInt .i64)) a1 A3 rfl rfl rfl cf ?_)
   intro gA eu
   obtain rfl := encInt_val.1 eu
   refine Za rfl rfl (Zo (v := Vi (ad)) rfl rfl (Zb (Ze (Zc (W_mid (M := fun f' w' => ∃ (bK : PHeap) , PHeap.le aE bK ∧ St w0 bK (Res.box b 34 [g, l, m, a] :: H) w' ∧ f' 1 = Value.pointer (some ⟨b, 0, none⟩) ∧ f' 19 = g ∧ f' 20 = Vi ((j.Vars.length : Int)) ∧ f' 21 = Vi ((bo : Int)) ∧ f' 30 = Value.bool (((decide (ad < 1)) || decide (64 < ad)))) ?_ ?_)))))
   ·refine Zd (Za rfl rfl (Zm (v := Vi (ad)) rfl rfl (Za rfl rfl (Zq rfl rfl rfl (Za rfl rfl (Zm (v := Value.bool (decide (ad < 1))) rfl rfl ?_))))))
    by_cases ab : (decide (ad < 1)) = true
    ·refine WL_passes 3 (by rw [ab]; rfl) ?_
     refine Zb (Ze ?_)
     exact ⟨aE, (Zv _), a1, bu, a8, a9, ax, (Zx (or_t ab)).symm⟩
    replace ab := Zk ab
    refine WL_run rfl (Zf rfl (Zx ab)) rfl (Zm (v := Vi (ad)) rfl rfl (WL_run rfl (Zf rfl (Zx ab)) rfl (Exec.gtr rfl rfl rfl (Za rfl rfl (Exec.pick_f (v := Value.bool (decide (64 < ad))) rfl (Zx ab) rfl (Zb (Ze ?_)))))))
    exact ⟨aE, (Zv _), a1, bu, a8, a9, ax, (Zx (or_f ab)).symm⟩
   intro fw gI cA
   obtain ⟨eI, d8, cI, dL, dM, dN, dO, bv⟩ := cA
   refine (Ze ?_)
   rcases ite_some ae with ⟨ai, ae⟩ | ⟨ai, ae⟩
   ·refine W_cond_t bv ai (Zc ?_)
    cases ae
   refine W_cond_f bv ai ?_
   replace ai := Zk ai
   refine W_skip (ib_normal (Ze (Zd (Za rfl rfl (Exec.add rfl dO rfl (Za rfl rfl (Zm (v := Vi (IntKind.i64.wrap ((bo : Int) + 1))) rfl rfl (Zb (Ze ?_)))))))))
   have fo := Zu ae
   subst cl
   refine ⟨_, rfl, ?_⟩; exact ⟨eI, (Zt bq d8), cI, dL, dM, dN, (Eq.trans rfl (wrap_up dl (SliceRep.le (aa.mono d))))⟩
  intro gs fx gJ cz dz
  obtain ⟨eJ, d9, cJ, dP, dQ, bw, eV⟩ := cz
  refine Zc (Zd (Za rfl rfl (Zq rfl eV bw (Zb (Ze (Zc (W_false (Zx (decide_eq_false (by omega))) (W_exit (at_exit (at_exit (ib_here (Ze ?_))))))))))))
  refine ⟨_, .inl dz, ?_⟩; exact ⟨eJ, d9, cJ, dP, dQ, bw⟩
 rintro fy gK ⟨gu, bi, cB⟩
 have hm := bi.elim (dt _) (df _)
 clear bi
 obtain ⟨aF, h, aY, bx, fY, fZ⟩ := cB
 refine (Ze (Zc (Zc (Zd (Za rfl rfl (Zp F34_3 rfl bx rfl (Za rfl rfl (Zn (aY) A32 rfl rfl rfl (Za rfl rfl (Zr S32 rfl rfl (p.mono (Zt d h)) (Za rfl rfl (Zm (v := Vi (0)) rfl rfl (Zb (Ze ?_))))))))))))))
 obtain ⟨aR, ct, fH, du, dg⟩ := ctl_some hm
 refine W_mid (M := fun f' w' => ∃ s', (aR = .next s' ∨ aR = .brk s') ∧ (fun (_ : Unit) => ∃ (bL : PHeap) , PHeap.le aF bL ∧ St w0 bL (Res.box b 34 [g, l, m, a] :: H) w' ∧ f' 1 = Value.pointer (some ⟨b, 0, none⟩) ∧ f' 34 = a ∧ f' 35 = Vi ((j.Ops.length : Int))) s') ?_ ?_
 ·refine W_block (W_forC (fun k' s' f' w' => (fun (_ : Unit) => ∃ (bM : PHeap) , PHeap.le aF bM ∧ St w0 bM (Res.box b 34 [g, l, m, a] :: H) w' ∧ f' 1 = Value.pointer (some ⟨b, 0, none⟩) ∧ f' 34 = a ∧ f' 35 = Vi ((j.Ops.length : Int)) ∧ f' 36 = Vi (k' : Int)) s') ct ?_ ?_ ?_)
  ·exact ⟨aF, (Zv _), aY, bx, rfl, rfl, rfl⟩
  ·intro bp gv cm fz gL dm c0 af fN
   obtain ⟨aG, br, aZ, bz, aA, aB, ay⟩ := c0
   refine Zc (Zd (Za rfl rfl (Zq rfl ay aB (Zb (Ze (Zc (W_true (Zx (decide_eq_true (by omega))) (W_skip (Ze (Zc (W_block (Zc (Zd ?_)))))))))))))
   obtain ⟨z, ev, af⟩ := Zg af
   refine Za rfl rfl (Exec.index_rep S32 rfl aA ay (p.mono (Zt (Zt d h) br)) ev ?_)
   intro fe fT cg
   refine Za rfl rfl (Zw (E := encOp) aZ A55 rfl rfl rfl cg ?_)
   intro gB ew
   obtain ⟨bW, bX, rfl, eA, eB⟩ := encOp_val.1 ew
   refine Za rfl rfl (Exec.alloc (cs := [Value.string (⟨#[]⟩), Vi (0), Value.slice none 0 0, Value.slice none 0 0]) aZ Z55 rfl rfl ?_)
   intro ff gM cK
   refine Za rfl rfl (Exec.store_box (ds := [Value.string (z.Name), Vi (z.Cost), bW, bX]) (es := [Value.string (z.Name), Vi (z.Cost), bW, bX]) cK A55 rfl rfl rfl rfl (Zj rfl (Zj rfl (Zj (eA).one (Zj (eB).one one_nil)))) (Nat.le_of_ble_eq_true rfl) rfl ?_)
   intro gN ap
   refine Zb (Ze (Zc (W_mid (M := fun f' w' => ∃ (bN : PHeap) , PHeap.le aG bN ∧ St w0 bN (Res.box b 34 [g, l, m, a] :: H) w' ∧ f' 1 = Value.pointer (some ⟨b, 0, none⟩) ∧ f' 34 = a ∧ f' 35 = Vi ((j.Ops.length : Int)) ∧ f' 36 = Vi ((bp : Int)) ∧ f' 47 = Value.bool (((decide (z.Cost < 0)) || decide (1048576 < z.Cost)))) ?_ ?_)))
   ·refine Zd (Za rfl rfl (Zp F55_1 rfl rfl rfl (Za rfl rfl (Zn (ap) A3 rfl rfl rfl (Za rfl rfl (Zq rfl rfl rfl (Za rfl rfl (Zm (v := Value.bool (decide (z.Cost < 0))) rfl rfl ?_))))))))
    by_cases q : (decide (z.Cost < 0)) = true
    ·refine WL_passes 4 (by rw [q]; rfl) ?_
     refine Zb (Ze ?_)
     exact ⟨aG, (Zv _), (ap).drop, bz, aA, aB, ay, (Zx (or_t q)).symm⟩
    replace q := Zk q
    refine WL_run rfl (Zf rfl (Zx q)) rfl (Zp F55_1 rfl rfl rfl (WL_run rfl (Zf rfl (Zx q)) rfl (Zn (ap) A3 rfl rfl rfl (WL_run rfl (Zf rfl (Zx q)) rfl (Exec.gtr rfl rfl rfl (Za rfl rfl (Exec.pick_f (v := Value.bool (decide (1048576 < z.Cost))) rfl (Zx q) rfl (Zb (Ze ?_)))))))))
    exact ⟨aG, (Zv _), (ap).drop, bz, aA, aB, ay, (Zx (or_f q)).symm⟩
   intro f0 gO cC
   obtain ⟨eK, dA, cL, dR, dS, dT, dU, b0⟩ := cC
   refine (Ze ?_)
   rcases ite_some af with ⟨aj, af⟩ | ⟨aj, af⟩
   ·refine W_cond_t b0 aj (Zc ?_)
    cases af
   refine W_cond_f b0 aj ?_
   replace aj := Zk aj
   refine W_skip (ib_normal (Ze (Zd (Za rfl rfl (Exec.add rfl dU rfl (Za rfl rfl (Zm (v := Vi (IntKind.i64.wrap ((bp : Int) + 1))) rfl rfl (Zb (Ze ?_)))))))))
   have fp := Zu af
   subst cm
   refine ⟨_, rfl, ?_⟩; exact ⟨eK, (Zt br dA), cL, dR, dS, dT, (Eq.trans rfl (wrap_up dm (SliceRep.le (p.mono (Zt d h)))))⟩
  intro gw f2 gP c1 d0
  obtain ⟨eL, dB, cM, dV, dW, b1, eW⟩ := c1
  refine Zc (Zd (Za rfl rfl (Zq rfl eW b1 (Zb (Ze (Zc (W_false (Zx (decide_eq_false (by omega))) (W_exit (at_exit (at_exit (ib_here (Ze ?_))))))))))))
  refine ⟨_, .inl d0, ?_⟩; exact ⟨eL, dB, cM, dV, dW, b1⟩
 rintro f3 gQ ⟨gx, bj, cD⟩
 have hm := bj.elim (du _) (dg _)
 clear bj
 obtain ⟨gl, n, a2, au, ga, gb⟩ := cD
 refine (Ze (Zc (Zc (Zd (Za rfl rfl (Zp F34_0 rfl au rfl (Za rfl rfl (Zn (a2) A24 rfl rfl rfl (Za rfl rfl (Zp F34_1 rfl au rfl (Za rfl rfl (Zn (a2) A24 rfl rfl rfl ?_))))))))))))
 obtain ⟨hr, ex, hm⟩ := Zg hm
 refine Za rfl rfl (Tc rfl rfl rfl (Zi rfl (Zi rfl args_nil)) (task_Proper_sim ex a2 (aa.mono (Zt (Zt d h) n)) (a0.mono (Zt (Zt d h) n))).r ?_)
 rintro _ gR ⟨gm, o, ba, rfl⟩
 refine Za rfl rfl (Exec.not rfl rfl (Zb (Ze ?_)))
 rcases ite_some hm with ⟨ak, hm⟩ | ⟨ak, hm⟩
 ·refine W_cond_t rfl ak (Zc ?_)
  cases hm
 refine W_cond_f rfl ak ?_
 replace ak := Zk ak
 refine W_skip (Ze (Zc (Zc (Zd (Za rfl rfl (Exec.load_box_agg (ds := [g, l, m, a]) (ba) A34 rfl au rfl ?_))))))
 obtain ⟨ce, ey, hm⟩ := Zg hm
 refine Za rfl rfl (Tc rfl rfl rfl (Zi rfl args_nil) (task_conditions_sim ey ba (aa.mono (Zt (Zt (Zt d h) n) o)) (a0.mono (Zt (Zt (Zt d h) n) o)) (aP.mono (Zt (Zt (Zt d h) n) o)) (p.mono (Zt (Zt (Zt d h) n) o))).r ?_)
 rintro cc gS ⟨aH, _, y, cN, rfl, aC⟩
 refine Za rfl rfl (Zr S118 rfl rfl aC (Za rfl rfl (Zm (v := Vi (0)) rfl rfl (Zb (Ze ?_)))))
 obtain ⟨aS, cu, fI, dv, dh⟩ := ctl_some hm
 refine W_mid (M := fun f' w' => ∃ s', (aS = .next s' ∨ aS = .brk s') ∧ (fun (_ : Unit) => ∃ (bO : PHeap) , PHeap.le aH bO ∧ St w0 bO (Res.box b 34 [g, l, m, a] :: H) w' ∧ f' 1 = Value.pointer (some ⟨b, 0, none⟩) ∧ f' 58 = cc ∧ f' 59 = Vi ((ce.length : Int))) s') ?_ ?_
 ·refine W_block (W_forC (fun k' s' f' w' => (fun (_ : Unit) => ∃ (bP : PHeap) , PHeap.le aH bP ∧ St w0 bP (Res.box b 34 [g, l, m, a] :: H) w' ∧ f' 1 = Value.pointer (some ⟨b, 0, none⟩) ∧ f' 58 = cc ∧ f' 59 = Vi ((ce.length : Int)) ∧ f' 60 = Vi (k' : Int)) s') cu ?_ ?_ ?_)
  ·exact ⟨aH, (Zv _), cN, au, rfl, rfl, rfl⟩
  ·intro d5 gy cn f4 gT dn c2 t fO
   obtain ⟨gn, a5, a3, b2, b3, b4, aL⟩ := c2
   refine Zc (Zd (Za rfl rfl (Zq rfl aL b4 (Zb (Ze (Zc (W_true (Zx (decide_eq_true (by omega))) (W_skip (Ze (Zc (W_block (Zc (Zd ?_)))))))))))))
   obtain ⟨eX, ez, t⟩ := Zg t
   refine Za rfl rfl (Exec.index_rep S118 rfl b3 aL (aC.mono a5) ez ?_)
   intro fg fU ch
   refine Za rfl rfl (Zw (E := (encSlice encFact)) a3 A31 rfl rfl rfl ch ?_)
   intro cd e0
   have eC : SliceRep _ _ _ (eX) := encSlice_val.1 e0
   refine Za rfl rfl (Zo (v := cd) rfl rfl (Zb (Ze (Zc (Zd (Za rfl rfl (Zp F34_0 rfl b2 rfl (Za rfl rfl (Zn (a3) A24 rfl rfl rfl (Za rfl rfl (Zm (v := cd) rfl rfl ?_)))))))))))
   obtain ⟨hs, e1, t⟩ := Zg t
   refine Za rfl rfl (Tc rfl rfl rfl (Zi rfl (Zi rfl args_nil)) (task_Facts_sim e1 a3 (aa.mono (Zt (Zt (Zt (Zt (Zt d h) n) o) y) a5)) eC).r ?_)
   rintro _ gU ⟨eM, dC, cO, rfl⟩
   refine Za rfl rfl (Exec.not rfl rfl (Zb (Ze ?_)))
   rcases ite_some t with ⟨al, t⟩ | ⟨al, t⟩
   ·refine W_cond_t rfl al (Zc ?_)
    cases t
   refine W_cond_f rfl al ?_
   replace al := Zk al
   refine W_skip (ib_normal (Ze (Zd (Za rfl rfl (Exec.add rfl aL rfl (Za rfl rfl (Zm (v := Vi (IntKind.i64.wrap ((d5 : Int) + 1))) rfl rfl (Zb (Ze ?_)))))))))
   have fq := Zu t
   subst cn
   refine ⟨_, rfl, ?_⟩; exact ⟨eM, (Zt a5 dC), cO, b2, b3, b4, (Eq.trans rfl (wrap_up dn (SliceRep.le aC)))⟩
  intro gz f5 gV c3 d1
  obtain ⟨eN, dD, cP, dX, dY, b5, eY⟩ := c3
  refine Zc (Zd (Za rfl rfl (Zq rfl eY b5 (Zb (Ze (Zc (W_false (Zx (decide_eq_false (by omega))) (W_exit (at_exit (at_exit (ib_here (Ze ?_))))))))))))
  refine ⟨_, .inl d1, ?_⟩; exact ⟨eN, dD, cP, dX, dY, b5⟩
 rintro f6 gW ⟨g0, bk, cE⟩
 have hm := bk.elim (dv _) (dh _)
 clear bk
 obtain ⟨aI, ac, bb, b6, gc, gd⟩ := cE
 refine (Ze (Zc (Zc (Zd (Za rfl rfl (Zp F34_3 rfl b6 rfl (Za rfl rfl (Zn (bb) A32 rfl rfl rfl (Za rfl rfl (Zr S32 rfl rfl (p.mono (Zt (Zt (Zt (Zt (Zt d h) n) o) y) ac)) (Za rfl rfl (Zm (v := Vi (0)) rfl rfl (Zb (Ze ?_))))))))))))))
 obtain ⟨aT, cv, fJ, dw, di⟩ := ctl_some hm
 refine W_mid (M := fun f' w' => ∃ s', (aT = .next s' ∨ aT = .brk s') ∧ (fun (_ : Unit) => ∃ (bQ : PHeap) , PHeap.le aI bQ ∧ St w0 bQ (Res.box b 34 [g, l, m, a] :: H) w' ∧ f' 1 = Value.pointer (some ⟨b, 0, none⟩) ∧ f' 72 = a ∧ f' 73 = Vi ((j.Ops.length : Int))) s') ?_ ?_
 ·refine W_block (W_forC (fun k' s' f' w' => (fun (_ : Unit) => ∃ (bR : PHeap) , PHeap.le aI bR ∧ St w0 bR (Res.box b 34 [g, l, m, a] :: H) w' ∧ f' 1 = Value.pointer (some ⟨b, 0, none⟩) ∧ f' 72 = a ∧ f' 73 = Vi ((j.Ops.length : Int)) ∧ f' 74 = Vi (k' : Int)) s') cv ?_ ?_ ?_)
  ·exact ⟨aI, (Zv _), bb, b6, rfl, rfl, rfl⟩
  ·intro a4 g1 co f7 gX dp c4 ao fP
   obtain ⟨aJ, a6, bc, dZ, b7, b8, aM⟩ := c4
   refine Zc (Zd (Za rfl rfl (Zq rfl aM b8 (Zb (Ze (Zc (W_true (Zx (decide_eq_true (by omega))) (W_skip (Ze (Zc (W_block (Zc (Zd ?_)))))))))))))
   obtain ⟨ag, e2, ao⟩ := Zg ao
   refine Za rfl rfl (Exec.index_rep S32 rfl b7 aM (p.mono (Zt (Zt (Zt (Zt (Zt (Zt d h) n) o) y) ac) a6)) e2 ?_)
   intro fh fV ci
   refine Za rfl rfl (Zw (E := encOp) bc A55 rfl rfl rfl ci ?_)
   intro gC e3
   obtain ⟨bY, aw, rfl, eD, av⟩ := encOp_val.1 e3
   refine Za rfl rfl (Exec.alloc (cs := [Value.string (⟨#[]⟩), Vi (0), Value.slice none 0 0, Value.slice none 0 0]) bc Z55 rfl rfl ?_)
   intro fi gY cQ
   refine Za rfl rfl (Exec.store_box (ds := [Value.string (ag.Name), Vi (ag.Cost), bY, aw]) (es := [Value.string (ag.Name), Vi (ag.Cost), bY, aw]) cQ A55 rfl rfl rfl rfl (Zj rfl (Zj rfl (Zj (eD).one (Zj (av).one one_nil)))) (Nat.le_of_ble_eq_true rfl) rfl ?_)
   intro gZ bd
   refine Zb (Ze (Zc (Zd (Za rfl rfl (Zp F55_3 rfl rfl rfl (Za rfl rfl (Zn (bd) A53 rfl rfl rfl (Za rfl rfl (Zr S53 rfl rfl av (Za rfl rfl (Zm (v := Vi (0)) rfl rfl (Zb (Ze ?_)))))))))))))
   obtain ⟨aU, cw, fK, dx, dj⟩ := ctl_some ao
   refine W_mid (M := fun f' w' => ∃ s', (aU = .next s' ∨ aU = .brk s') ∧ (fun (_ : Unit) => ∃ (bS : PHeap) , PHeap.le aJ bS ∧ St w0 bS (Res.box b 34 [g, l, m, a] :: H) w' ∧ f' 1 = Value.pointer (some ⟨b, 0, none⟩) ∧ f' 72 = a ∧ f' 73 = Vi ((j.Ops.length : Int)) ∧ f' 74 = Vi ((a4 : Int)) ∧ f' 79 = aw ∧ f' 80 = Vi ((ag.Effs.length : Int))) s') ?_ ?_
   ·refine W_block (W_forC (fun k' s' f' w' => (fun (_ : Unit) => ∃ (bT : PHeap) , PHeap.le aJ bT ∧ St w0 bT (Res.box b 34 [g, l, m, a] :: H) w' ∧ f' 1 = Value.pointer (some ⟨b, 0, none⟩) ∧ f' 72 = a ∧ f' 73 = Vi ((j.Ops.length : Int)) ∧ f' 74 = Vi ((a4 : Int)) ∧ f' 79 = aw ∧ f' 80 = Vi ((ag.Effs.length : Int)) ∧ f' 81 = Vi (k' : Int)) s') cw ?_ ?_ ?_)
    ·have cR := (bd).drop
     exact ⟨aJ, (Zv _), cR, dZ, b7, b8, aM, rfl, rfl, rfl⟩
    ·intro d6 g2 cp f8 ha dq c5 u fQ
     obtain ⟨go, a7, be, b9, ea, eb, ec, bA, bB, aN⟩ := c5
     refine Zc (Zd (Za rfl rfl (Zq rfl aN bB (Zb (Ze (Zc (W_true (Zx (decide_eq_true (by omega))) (W_skip (Ze (Zc (W_block (Zc (Zd ?_)))))))))))))
     obtain ⟨i, e4, u⟩ := Zg u
     refine Za rfl rfl (Exec.index_rep S53 rfl bA aN (av.mono a7) e4 ?_)
     intro fj fW cj
     refine Za rfl rfl (Zw (E := encEffect) be A60 rfl rfl rfl cj ?_)
     intro gD e5
     obtain ⟨bZ, rfl, eE⟩ := encEffect_val.1 e5
     refine Za rfl rfl (Exec.alloc (cs := [Value.slice none 0 0, Vi (0), Vi (0)]) be Z60 rfl rfl ?_)
     intro fk hb cS
     refine Za rfl rfl (Exec.store_box (ds := [bZ, Vi (i.Var), Vi (i.Val)]) (es := [bZ, Vi (i.Var), Vi (i.Val)]) cS A60 rfl rfl rfl rfl (Zj (eE).one (Zj rfl (Zj rfl one_nil))) (Nat.le_of_ble_eq_true rfl) rfl ?_)
     intro hc aq
     refine Zb (Ze (Zc (Zd (Za rfl rfl (Zp F34_0 rfl b9 rfl (Za rfl rfl (Zn ((aq).f1) A24 rfl rfl rfl (Za rfl rfl (Zp F60_1 rfl rfl rfl (Za rfl rfl (Zn (aq) A3 rfl rfl rfl (Za rfl rfl (Zp F60_2 rfl rfl rfl (Za rfl rfl (Zn (aq) A3 rfl rfl rfl (Za rfl rfl (Exec.build rfl (parts_cons (c := [Vi (i.Var)]) (cells_of rfl rfl) (parts_cons (c := [Vi (i.Val)]) (cells_of rfl rfl) parts_nil)) (v := Value.agg #[Vi (i.Var), Vi (i.Val)]) (fun _ => by kernel_rfl) (Za rfl rfl (Exec.buildSlice (Te := 46) (cs := [Vi (i.Var), Vi (i.Val)]) aq rfl (parts_cons (c := [Vi (i.Var), Vi (i.Val)]) (cells_of rfl rfl) parts_nil) (fun _ => by kernel_rfl) ?_)))))))))))))))))))
     intro fl hd cT
     have cU := St.boxArr (E := encFact) (xs := [(⟨i.Var, i.Val⟩ : Fact)]) cT ⟨[Vi (i.Var), Vi (i.Val)], [], rfl, ⟨[Vi (i.Var)], [Vi (i.Val)], rfl, rfl, rfl⟩, rfl⟩ (by simp [maxLen])
     obtain ⟨gp, bs, cV, eF⟩ := cU.freezeArr
     obtain ⟨ht, e6, u⟩ := Zg u
     refine Za rfl rfl (Tc rfl rfl rfl (Zi rfl (Zi rfl args_nil)) (task_Facts_sim e6 cV (aa.mono (Zt (Zt (Zt (Zt (Zt (Zt (Zt (Zt d h) n) o) y) ac) a6) a7) bs)) eF).r ?_)
     rintro _ he ⟨eO, dE, cW, rfl⟩
     refine Za rfl rfl (Exec.not rfl rfl (Zb (Ze ?_)))
     rcases ite_some u with ⟨am, u⟩ | ⟨am, u⟩
     ·refine W_cond_t rfl am (Zc ?_)
      cases u
     refine W_cond_f rfl am ?_
     replace am := Zk am
     refine W_skip (ib_normal (Ze (Zd (Za rfl rfl (Exec.add rfl aN rfl (Za rfl rfl (Zm (v := Vi (IntKind.i64.wrap ((d6 : Int) + 1))) rfl rfl (Zb (Ze ?_)))))))))
     have fr := Zu u
     subst cp
     refine ⟨_, rfl, ?_⟩; exact ⟨eO, (Zt (Zt a7 bs) dE), (cW).drop, b9, ea, eb, ec, bA, bB, (Eq.trans rfl (wrap_up dq (SliceRep.le av)))⟩
    intro g3 f9 hf c6 d2
    obtain ⟨eP, dF, cX, ed, ee, ef, eg, eh, bC, eZ⟩ := c6
    refine Zc (Zd (Za rfl rfl (Zq rfl eZ bC (Zb (Ze (Zc (W_false (Zx (decide_eq_false (by omega))) (W_exit (at_exit (at_exit (ib_here (Ze ?_))))))))))))
    refine ⟨_, .inl d2, ?_⟩; exact ⟨eP, dF, cX, ed, ee, ef, eg, eh, bC⟩
   rintro fA hg ⟨g4, bl, cF⟩
   have ao := bl.elim (dx _) (dj _)
   clear bl
   obtain ⟨eQ, dG, cY, ei, ej, ek, el, gf, gg⟩ := cF
   refine (ib_normal (Ze (Zd (Za rfl rfl (Exec.add rfl el rfl (Za rfl rfl (Zm (v := Vi (IntKind.i64.wrap ((a4 : Int) + 1))) rfl rfl (Zb (Ze ?_)))))))))
   have fs := Zu ao
   subst co
   refine ⟨_, rfl, ?_⟩; exact ⟨eQ, (Zt a6 dG), cY, ei, ej, ek, (Eq.trans rfl (wrap_up dp (SliceRep.le (p.mono (Zt (Zt (Zt (Zt (Zt d h) n) o) y) ac)))))⟩
  intro g5 fB hh c7 d3
  obtain ⟨eR, dH, cZ, em, en, bD, fa⟩ := c7
  refine Zc (Zd (Za rfl rfl (Zq rfl fa bD (Zb (Ze (Zc (W_false (Zx (decide_eq_false (by omega))) (W_exit (at_exit (at_exit (ib_here (Ze ?_))))))))))))
  refine ⟨_, .inl d3, ?_⟩; exact ⟨eR, dH, cZ, em, en, bD⟩
 rintro fC hi ⟨g6, bm, cG⟩
 have hm := bm.elim (dw _) (di _)
 clear bm
 obtain ⟨aK, ar, bf, eo, gh, gi⟩ := cG
 refine (Ze (Zc (Zc (Zd (Za rfl rfl (Zp F34_3 rfl eo rfl (Za rfl rfl (Zn (bf) A32 rfl rfl rfl (Za rfl rfl (Zr S32 rfl rfl (p.mono (Zt (Zt (Zt (Zt (Zt (Zt d h) n) o) y) ac) ar)) (Za rfl rfl (Zm (v := Vi (0)) rfl rfl (Zb (Ze ?_))))))))))))))
 obtain ⟨aV, cx, fL, dy, dk⟩ := ctl_some hm
 refine W_mid (M := fun f' w' => ∃ s', (aV = .next s' ∨ aV = .brk s') ∧ (fun (_ : Unit) => ∃ (bU : PHeap) , PHeap.le aK bU ∧ St w0 bU (H) w' ∧ f' 99 = a ∧ f' 100 = Vi ((j.Ops.length : Int))) s') ?_ ?_
 ·refine W_block (W_forC (fun k' s' f' w' => (fun (_ : Unit) => ∃ (bV : PHeap) , PHeap.le aK bV ∧ St w0 bV (H) w' ∧ f' 99 = a ∧ f' 100 = Vi ((j.Ops.length : Int)) ∧ f' 101 = Vi (k' : Int)) s') cx ?_ ?_ ?_)
  ·have da := (bf).drop
   exact ⟨aK, (Zv _), da, rfl, rfl, rfl⟩
  ·intro d7 g7 cq fD hj dr c8 x fR
   obtain ⟨gq, bt, bg, bE, bF, aO⟩ := c8
   refine Zc (Zd (Za rfl rfl (Zq rfl aO bF (Zb (Ze (Zc (W_true (Zx (decide_eq_true (by omega))) (W_skip (Ze (Zc (W_block (Zc (Zd ?_)))))))))))))
   obtain ⟨az, e7, x⟩ := Zg x
   refine Za rfl rfl (Exec.index_rep S32 rfl bE aO (p.mono (Zt (Zt (Zt (Zt (Zt (Zt (Zt d h) n) o) y) ac) ar) bt)) e7 ?_)
   intro fm fX ck
   refine Za rfl rfl (Zw (E := encOp) bg A55 rfl rfl rfl ck ?_)
   intro gE e8
   obtain ⟨ca, cb, rfl, eG, eH⟩ := encOp_val.1 e8
   refine Za rfl rfl (Exec.alloc (cs := [Value.string (⟨#[]⟩), Vi (0), Value.slice none 0 0, Value.slice none 0 0]) bg Z55 rfl rfl ?_)
   intro fn hk db
   refine Za rfl rfl (Exec.store_box (ds := [Value.string (az.Name), Vi (az.Cost), ca, cb]) (es := [Value.string (az.Name), Vi (az.Cost), ca, cb]) db A55 rfl rfl rfl rfl (Zj rfl (Zj rfl (Zj (eG).one (Zj (eH).one one_nil)))) (Nat.le_of_ble_eq_true rfl) rfl ?_)
   intro hl bh
   refine Zb (Ze (Zc (Zd (Za rfl rfl (Zp F55_0 rfl rfl rfl (Za rfl rfl (Zn (bh) A9 rfl rfl rfl ?_)))))))
   obtain ⟨hu, e9, x⟩ := Zg x
   refine Za rfl rfl (Tc rfl rfl rfl (Zi rfl args_nil) (task_named_sim e9 bh ).r ?_)
   rintro _ hn ⟨eS, dI, dc, rfl⟩
   refine Za rfl rfl (Exec.not rfl rfl (Zb (Ze ?_)))
   rcases ite_some x with ⟨an, x⟩ | ⟨an, x⟩
   ·refine W_cond_t rfl an (Zc ?_)
    cases x
   refine W_cond_f rfl an ?_
   replace an := Zk an
   refine W_skip (ib_normal (Ze (Zd (Za rfl rfl (Exec.add rfl aO rfl (Za rfl rfl (Zm (v := Vi (IntKind.i64.wrap ((d7 : Int) + 1))) rfl rfl (Zb (Ze ?_)))))))))
   have ft := Zu x
   subst cq
   refine ⟨_, rfl, ?_⟩; exact ⟨eS, (Zt bt dI), (dc).drop, bE, bF, (Eq.trans rfl (wrap_up dr (SliceRep.le (p.mono (Zt (Zt (Zt (Zt (Zt (Zt d h) n) o) y) ac) ar)))))⟩
  intro g8 fE ho c9 d4
  obtain ⟨eT, dJ, dd, ep, bG, fb⟩ := c9
  refine Zc (Zd (Za rfl rfl (Zq rfl fb bG (Zb (Ze (Zc (W_false (Zx (decide_eq_false (by omega))) (W_exit (at_exit (at_exit (ib_here (Ze ?_))))))))))))
  refine ⟨_, .inl d4, ?_⟩; exact ⟨eT, dJ, dd, ep, bG⟩
 rintro fF hp ⟨g9, bn, cH⟩
 have hm := bn.elim (dy _) (dk _)
 clear bn
 obtain ⟨eU, dK, de, gj, gk⟩ := cH
 refine (Ze (Zc (Zd (Za rfl rfl (Zo (v := errV 44 (none)) rfl rfl (Zb (Ze (W_ret ?_))))))))
 have fu := Zu hm
 subst r
 refine ⟨_, ret1 rfl, ?_⟩
 exact ⟨eU, (Zt (Zt (Zt (Zt (Zt (Zt (Zt d h) n) o) y) ac) ar) dK), de, rfl⟩
theorem encode_Encode_sim {w0 w : World} {s : PHeap} {H : List Res} {i : Ground} {b8 : (List (List Int))} {ba : Value} {aI : Value} {a5 : Value} {au : Value} {av : Value} {aJ : Value} {r : (Option Int) × Encoding} (hm : encode_Encode_p i b8 = some r) (hS : St w0 s (H) w) (c2 : SliceRep encAtom s ba i.Atoms) (c3 : SliceRep encGFluent s aI i.Fluents) (c4 : SliceRep (encInt .i64) s a5 i.Init) (c5 : SliceRep encCond s au i.Goal) (c6 : SliceRep encGOp s av i.Ops) (b3 : SliceRep (encSlice (encInt .i64)) s aJ b8) :
  Calls Tryz.prog 7 #[Value.agg #[ba, aI, a5, au, av], aJ] w fun e w' => ∃ v, e = .returned v ∧ ((un2 fun (eQ : (Option Int)) (aw : Encoding) => ∃ (ae : PHeap) (cq : Value) (cr : Value) (ct : Value) (cu : Value) (cv : Value) (cw : Value) (cx : Value), PHeap.le s ae ∧ St w0 ae (H) w' ∧ v = Value.tuple #[Value.agg #[cq, cr, ct, cu, cv, cw, cx], errV 44 (eQ)] ∧ SliceRep (encInt .i64) ae cq aw.Task.Vars ∧ SliceRep (encInt .i64) ae cr aw.Task.Init ∧ SliceRep encFact ae ct aw.Task.Goal ∧ SliceRep encOp ae cu aw.Task.Ops ∧ SliceRep encFact ae cv aw.Atoms ∧ SliceRep (encInt .i64) ae cw aw.Fluents ∧ SliceRep (encInt .i64) ae cx aw.Ops) r) := by
 unfold encode_Encode_p at hm
 refine calls_of_W Tryz.func7 rfl rfl (Zc (Zd (Za rfl rfl (Exec.box (cs := [ba, aI, a5, au, av]) hS rfl rfl rfl ?_))))
 intro aO gd cK
 obtain ⟨ez, bh, cL, a4⟩ := St.freezeVar (E := encGround) (y := i) cK ⟨[ba], [aI, a5, au, av], rfl, ⟨_, rfl, c2⟩, ⟨[aI], [a5, au, av], rfl, ⟨_, rfl, c3⟩, ⟨[a5], [au, av], rfl, ⟨_, rfl, c4⟩, ⟨[au], [av], rfl, ⟨_, rfl, c5⟩, ⟨_, rfl, c6⟩⟩⟩⟩⟩
 refine Za rfl rfl (Exec.alloc (cs := [Value.slice none 0 0, Value.slice none 0 0, Value.slice none 0 0, Value.slice none 0 0, Value.slice none 0 0, Value.slice none 0 0, Value.slice none 0 0]) cL Z36 rfl rfl ?_)
 intro n gf b9
 refine Za rfl rfl (Zo (v := errV 44 (none)) rfl rfl (Zb (Ze (Zc (Zc ?_)))))
 obtain ⟨aL, ac, hm⟩ := Zg hm
 refine W_mid (M := fun f' w' => (fun (aL : Bool) => ∃ (cg : PHeap) , PHeap.le ez cg ∧ St w0 cg (Res.box n 36 [Value.slice none 0 0, Value.slice none 0 0, Value.slice none 0 0, Value.slice none 0 0, Value.slice none 0 0, Value.slice none 0 0, Value.slice none 0 0] :: H) w' ∧ f' 1 = aJ ∧ f' 2 = Value.pointer (some ⟨aO, 0, none⟩) ∧ f' 4 = Value.pointer (some ⟨n, 0, none⟩) ∧ f' 22 = Value.bool (aL)) aL) ?_ ?_
 ·refine Zd (Za rfl rfl (Zw (E := encGround) b9 A28 rfl rfl rfl a4 ?_))
  intro fY dV
  obtain ⟨fT, fU, fV, fW, fX, rfl, eo, ep, er, et, eu⟩ := encGround_val.1 dV
  obtain ⟨eO, dW, ac⟩ := Zg ac
  refine Za rfl rfl (Tc rfl rfl rfl (Zi rfl args_nil) (ground_Valid_sim dW b9 eo ep er et eu).r ?_)
  rintro _ gg ⟨e0, aR, bA, rfl⟩
  refine Za rfl rfl (Exec.not rfl rfl (Za rfl rfl (Zm (v := Value.bool (!eO)) rfl rfl ?_)))
  rcases ite_some ac with ⟨af, ac⟩ | ⟨af, ac⟩
  ·refine WL_passes 4 (by rw [af]; rfl) ?_
   refine Zb (Ze ?_)
   have eX := Zu ac
   subst aL
   exact ⟨e0, aR, bA, rfl, rfl, rfl, rfl⟩
  replace af := Zk af
  refine WL_run rfl (Zf rfl (Zx af)) rfl (Zm (v := aJ) rfl rfl (WL_run rfl (Zf rfl (Zx af)) rfl (Exec.makeFunc rfl (Zi rfl args_nil) ?_)))
  obtain ⟨eP, dX, ac⟩ := Zg ac
  refine WL_run rfl (Zf rfl (Zx af)) rfl (Tc rfl rfl rfl (Zi rfl (Zi rfl args_nil)) (slices_ContainsFunc_int_Encode_c1_sim dX bA (b3.mono (Zt bh aR)) (a4.mono aR)).r ?_)
  rintro _ gh ⟨e1, dz, cM, rfl⟩
  refine Za rfl rfl (Exec.pick_f (v := Value.bool (eP)) rfl (Zx af) rfl (Zb (Ze ?_)))
  have eY := Zu ac
  subst aL
  exact ⟨e1, (Zt aR dz), cM, rfl, rfl, rfl, rfl⟩
 intro fc gi cH
 obtain ⟨fE, az, bB, d6, aT, bk, bR⟩ := cH
 refine (Ze ?_)
 rcases ite_some hm with ⟨a8, hm⟩ | ⟨a8, hm⟩
 ·refine W_cond_t bR a8 (Zc ?_)
  cases hm
 refine W_cond_f bR a8 ?_
 replace a8 := Zk a8
 refine W_skip (Ze (Zc (Zd (Za rfl rfl (Zw (E := encGround) bB A28 rfl aT rfl (a4.mono az) ?_)))))
 intro fZ dY
 obtain ⟨ah, ai, aj, ak, al, rfl, aU, aV, aW, aX, aY⟩ := encGround_val.1 dY
 refine Za rfl rfl (Exec.build rfl (parts_cons (c := [ah, ai, aj, ak, al]) (cells_of rfl rfl) parts_nil) (v := Value.agg #[ah, ai, aj, ak, al, Value.slice none 0 0, Value.slice none 0 0, Value.slice none 0 0, Value.slice none 0 0]) (fun _ => by kernel_rfl) (Za rfl rfl (Exec.box (cs := [ah, ai, aj, ak, al, Value.slice none 0 0, Value.slice none 0 0, Value.slice none 0 0, Value.slice none 0 0]) bB rfl rfl rfl ?_)))
 intro b gj cN
 have cO := cN.nilArr (encInt .i64) 3
 have cP := cO.nilArr encFact 46
 have cQ := cP.nilArr encBool 4
 have cR := cQ.nilArr (encInt .i64) 3
 refine Za rfl rfl (Zo (v := Value.pointer (some ⟨b, 0, none⟩)) rfl rfl (Zb (Ze (Zc (Zd (Za rfl rfl (Zm (v := Value.pointer (some ⟨b, 0, none⟩)) rfl rfl (Za rfl rfl (Zm (v := aJ) rfl d6 ?_)))))))))
 obtain ⟨e9, dZ, hm⟩ := Zg hm
 obtain ⟨aM, aN, aD⟩ := e9
 replace hm := un3_eq hm
 refine Za rfl rfl (Tc rfl rfl rfl (Zi rfl (Zi rfl args_nil)) (encode_encoder_variables_sim dZ ((((cR).f1).f2).f3).f4 aU aV aW aX aY (b3.mono (Zt bh az))).r ?_)
 rintro _ gk ⟨fF, x, a, z, d, cS, rfl⟩
 refine Zb (Ze (Zc (Zc (Zd (Za rfl rfl (Zm (v := Value.pointer (some ⟨b, 0, none⟩)) rfl rfl ?_))))))
 obtain ⟨gG, ea, hm⟩ := Zg hm
 refine Za rfl rfl (Tc rfl rfl rfl (Zi rfl args_nil) (encode_encoder_large_sim ea (((((cS).f4).f6).f6).f4).f4 (aU.mono d) (aV.mono d) (aW.mono d) (aX.mono d) (aY.mono d)).r ?_)
 rintro _ gl ⟨e2, j, aP, rfl⟩
 refine Zb (Ze ?_)
 rcases ite_some hm with ⟨a9, hm⟩ | ⟨a9, hm⟩
 ·refine W_cond_t rfl a9 (Zc ?_)
  cases hm
 refine W_cond_f rfl a9 ?_
 replace a9 := Zk a9
 refine W_skip (Ze (Zc (W_dl (n0 := 10) (qs 0 9 (.e 9 [0, 1, 2, 3, 4, 5, 6, 7, 8] .done)) hmix (by kernel_rfl) (by kernel_rfl) (DL_q rfl rfl (Zm (v := Value.pointer (some ⟨b, 0, none⟩)) rfl rfl ⟨rfl, ?_⟩)))))
 refine DL_q rfl rfl (Exec.nilCheck_ptr rfl rfl ⟨rfl, ?_⟩)
 refine DL_q rfl rfl (Zp F66_2 rfl rfl rfl ⟨rfl, ?_⟩)
 refine DL_q rfl rfl (Zn (aP.drew) A31 rfl rfl rfl ⟨rfl, ?_⟩)
 refine DL_q rfl rfl (Zm (v := Value.pointer (some ⟨b, 0, none⟩)) rfl rfl ⟨rfl, ?_⟩)
 refine DL_q rfl rfl (Exec.nilCheck_ptr rfl rfl ⟨rfl, ?_⟩)
 refine DL_q rfl rfl (Zp F66_4 rfl rfl rfl ⟨rfl, ?_⟩)
 refine DL_q rfl rfl (Zn (aP.drew) A24 rfl rfl rfl ⟨rfl, ?_⟩)
 refine DL_q rfl rfl (Exec.build rfl (parts_cons (c := [a]) (cells_of rfl (cells_one ((aP.drew).f2).arr_one)) (parts_cons (c := [(Value.slice none 0 0)]) (cells_of rfl rfl) parts_nil)) (v := Value.agg #[Value.slice none 0 0, Value.slice none 0 0, Value.slice none 0 0, Value.slice none 0 0, a, (Value.slice none 0 0), Value.slice none 0 0]) (fun _ => by kernel_rfl) ⟨rfl, ?_⟩)
 refine DL_e rfl rfl (Exec.alloc (cs := [Value.slice none 0 0, Value.slice none 0 0, Value.slice none 0 0, Value.slice none 0 0, Value.slice none 0 0, Value.slice none 0 0, Value.slice none 0 0]) aP.drew Z36 rfl rfl ?_)
 intro t gm ax
 refine ⟨(ag_cons (ag_r rfl rfl (Zm (v := Value.pointer (some ⟨b, 0, none⟩)) rfl rfl ⟨rfl, rfl⟩)) (ag_cons (ag_r rfl rfl (Exec.nilCheck_ptr rfl rfl ⟨rfl, rfl⟩)) (ag_cons (ag_r rfl rfl (Zp F66_2 rfl rfl rfl ⟨rfl, rfl⟩)) (ag_cons (ag_r rfl rfl (Zn ((ax).f1) A31 rfl rfl rfl ⟨rfl, rfl⟩)) (ag_cons (ag_r rfl rfl (Zm (v := Value.pointer (some ⟨b, 0, none⟩)) rfl rfl ⟨rfl, rfl⟩)) (ag_cons (ag_r rfl rfl (Exec.nilCheck_ptr rfl rfl ⟨rfl, rfl⟩)) (ag_cons (ag_r rfl rfl (Zp F66_4 rfl rfl rfl ⟨rfl, rfl⟩)) (ag_cons (ag_r rfl rfl (Zn ((ax).f1) A24 rfl rfl rfl ⟨rfl, rfl⟩)) (ag_cons (ag_r rfl rfl (Exec.build rfl (parts_cons (c := [a]) (cells_of rfl (cells_one ((ax).f3).arr_one)) (parts_cons (c := [(Value.slice none 0 0)]) (cells_of rfl rfl) parts_nil)) (v := Value.agg #[Value.slice none 0 0, Value.slice none 0 0, Value.slice none 0 0, Value.slice none 0 0, a, (Value.slice none 0 0), Value.slice none 0 0]) (fun _ => by kernel_rfl) ⟨rfl, rfl⟩)) ag_nil))))))))), ?_⟩
 refine DL_done (Za rfl rfl (Exec.store_box (ds := [Value.slice none 0 0, Value.slice none 0 0, Value.slice none 0 0, Value.slice none 0 0, a, (Value.slice none 0 0), Value.slice none 0 0]) (es := [Value.slice none 0 0, Value.slice none 0 0, Value.slice none 0 0, Value.slice none 0 0, a, (Value.slice none 0 0), Value.slice none 0 0]) ax A36 rfl rfl rfl rfl (Zj rfl (Zj rfl (Zj rfl (Zj rfl (Zj ((ax).f3).arr_one (Zj ((ax).f5).arr_one (Zj rfl one_nil))))))) (Nat.le_of_ble_eq_true rfl) rfl ?_))
 intro gn cT
 have cU := cT.nilArr (encInt .i64) 3
 have cV := cU.nilArr (encInt .i64) 3
 have cW := cV.nilArr encFact 46
 have cX := cW.nilArr encOp 55
 have a6 := cX.nilArr (encInt .i64) 3
 refine Zb (Ze (Zc ?_))
 obtain ⟨aK, cd, hm⟩ := Zg hm
 obtain ⟨d0, bn, hm⟩ := Zg hm
 refine W_mid (M := fun f' w' => ∃ (ch : PHeap) (g : Value) (h : Value), PHeap.le e2 ch ∧ St w0 ch (Res.box n 36 [Value.slice none 0 0, Value.slice none 0 0, Value.slice none 0 0, Value.slice none 0 0, Value.slice none 0 0, Value.slice none 0 0, Value.slice none 0 0] :: Res.box b 66 [ah, ai, aj, ak, al, x, a, z, (Value.slice none 0 0)] :: Res.box t 36 [g, h, (Value.slice none 0 0), (Value.slice none 0 0), a, (Value.slice none 0 0), (Value.slice none 0 0)] :: Res.arr (encInt .i64) 3 x aD :: Res.arr encFact 46 a aM :: Res.arr encBool 4 z aN :: Res.arr (encInt .i64) 3 (Value.slice none 0 0) ([] : (List Int)) :: Res.arr (encInt .i64) 3 g aK :: Res.arr (encInt .i64) 3 h d0 :: Res.arr encFact 46 (Value.slice none 0 0) ([] : (List Fact)) :: Res.arr encOp 55 (Value.slice none 0 0) ([] : (List Op)) :: Res.arr (encInt .i64) 3 (Value.slice none 0 0) ([] : (List Int)) :: H) w' ∧ f' 2 = Value.pointer (some ⟨aO, 0, none⟩) ∧ f' 4 = Value.pointer (some ⟨n, 0, none⟩) ∧ f' 6 = Value.pointer (some ⟨b, 0, none⟩) ∧ f' 7 = Value.pointer (some ⟨t, 0, none⟩)) ?_ ?_
 ·refine W_dl (n0 := 14) (qs 0 4 (qs 5 5 (.alt (.e 4 [5, 6, 7, 8, 9] (.q 11 (.q 12 (.alt (.e 10 [11, 12] (.e 13 [] .done)) (.e 13 [9] (.e 10 [] .done)))))) (.e 10 [0, 1, 2, 3] (.e 4 [] (.q 11 (.q 12 (.e 13 [] .done)))))))) hmix (by kernel_rfl) (by kernel_rfl) (DL_q rfl rfl (Zm (v := Value.pointer (some ⟨b, 0, none⟩)) rfl rfl ⟨rfl, ?_⟩))
  refine DL_q rfl rfl (Exec.nilCheck_ptr rfl rfl ⟨rfl, ?_⟩)
  refine DL_q rfl rfl (Zp F66_1 rfl rfl rfl ⟨rfl, ?_⟩)
  refine DL_q rfl rfl (Zn ((a6.drew).f6) A24 rfl rfl rfl ⟨rfl, ?_⟩)
  refine DL_q rfl rfl (Zm (v := Value.pointer (some ⟨b, 0, none⟩)) rfl rfl ⟨rfl, ?_⟩)
  refine DL_q rfl rfl (Exec.nilCheck_ptr rfl rfl ⟨rfl, ?_⟩)
  refine DL_q rfl rfl (Zp F66_1 rfl rfl rfl ⟨rfl, ?_⟩)
  refine DL_q rfl rfl (Zn ((a6.drew).f6) A24 rfl rfl rfl ⟨rfl, ?_⟩)
  refine DL_q rfl rfl (Exec.len_arr ((a6.drew).f7) S24 rfl rfl ⟨rfl, ?_⟩)
  refine DL_alt ?_ ?_
  ·have cY := (a6.drew).f7
   refine DL_e rfl rfl (Tc rfl rfl rfl (Zi rfl args_nil) (slices_Clone_int_o_sim cd cY ).r ?_)
   rintro am go ⟨ci, _, bN, ay, rfl⟩
   refine ⟨(ag_cons (ag_r rfl rfl (Zm (v := Value.pointer (some ⟨b, 0, none⟩)) rfl rfl ⟨rfl, rfl⟩)) (ag_cons (ag_r rfl rfl (Exec.nilCheck_ptr rfl rfl ⟨rfl, rfl⟩)) (ag_cons (ag_r rfl rfl (Zp F66_1 rfl rfl rfl ⟨rfl, rfl⟩)) (ag_cons (ag_r rfl rfl (Zn ((ay).f8) A24 rfl rfl rfl ⟨rfl, rfl⟩)) (ag_cons (ag_r rfl rfl (Exec.len_arr (ay) S24 rfl rfl ⟨rfl, rfl⟩)) ag_nil))))), ?_⟩
   refine DL_q rfl rfl (Zp F36_0 rfl rfl rfl ⟨rfl, ?_⟩)
   refine DL_q rfl rfl (Zp F34_0 rfl rfl rfl ⟨rfl, ?_⟩)
   refine DL_alt ?_ ?_
   ·refine DL_e rfl rfl (Exec.make (E := (encInt .i64)) ay S24 Z3 rfl rfl rfl rfl bn ?_)
    intro bv gp bb
    refine ⟨(ag_cons (ag_r rfl rfl (Zp F36_0 rfl rfl rfl ⟨rfl, rfl⟩)) (ag_cons (ag_r rfl rfl (Zp F34_0 rfl rfl rfl ⟨rfl, rfl⟩)) ag_nil)), ?_⟩
    refine DL_e rfl rfl (Exec.store_box (ds := [am]) (es := [am, (Value.slice none 0 0), (Value.slice none 0 0), (Value.slice none 0 0), a, (Value.slice none 0 0), (Value.slice none 0 0)]) (bb).f8 A24 rfl rfl rfl (cells_one (((bb).f8).f3).arr_one) (Zj (((bb).f8).f3).arr_one one_nil) (Nat.le_of_ble_eq_true rfl) rfl ?_)
    intro gq bc
    refine ⟨ag_nil, ?_⟩
    refine DL_done (Za rfl rfl (Zp F36_0 rfl rfl rfl (Za rfl rfl (Zp F34_1 rfl rfl rfl (Za rfl rfl (Exec.store_box (ds := [bv]) (es := [am, bv, (Value.slice none 0 0), (Value.slice none 0 0), a, (Value.slice none 0 0), (Value.slice none 0 0)]) bc A24 rfl rfl rfl (cells_one ((bc).f1).arr_one) (Zj ((bc).f1).arr_one one_nil) (Nat.le_of_ble_eq_true rfl) rfl ?_))))))
    intro gr cZ
    refine Zb (Ze ?_)
    exact ⟨ci, am, bv, bN, ((((((((((((((((((((cZ).f7).drop).f7).drop).f11).drop).f11).drop).f4).f5).f6).f4).f6).f10).f10).f10).f9).f9).f10).f11, aT, bk, rfl, rfl⟩
   refine DL_e rfl rfl (Exec.store_box (ds := [am]) (es := [am, (Value.slice none 0 0), (Value.slice none 0 0), (Value.slice none 0 0), a, (Value.slice none 0 0), (Value.slice none 0 0)]) (ay).f7 A24 rfl rfl rfl (cells_one (((ay).f7).f2).arr_one) (Zj (((ay).f7).f2).arr_one one_nil) (Nat.le_of_ble_eq_true rfl) rfl ?_)
   intro gs bC
   refine ⟨(ag_cons (ag_r rfl rfl (Exec.len_arr ((bC).f1) S24 rfl rfl ⟨rfl, rfl⟩)) ag_nil), ?_⟩
   refine DL_e rfl rfl (Exec.make (E := (encInt .i64)) bC S24 Z3 rfl rfl rfl rfl bn ?_)
   intro bw gu bd
   refine ⟨ag_nil, ?_⟩
   refine DL_done (Za rfl rfl (Zp F36_0 rfl rfl rfl (Za rfl rfl (Zp F34_1 rfl rfl rfl (Za rfl rfl (Exec.store_box (ds := [bw]) (es := [am, bw, (Value.slice none 0 0), (Value.slice none 0 0), a, (Value.slice none 0 0), (Value.slice none 0 0)]) (bd).f1 A24 rfl rfl rfl (cells_one (((bd).f1).f1).arr_one) (Zj (((bd).f1).f1).arr_one one_nil) (Nat.le_of_ble_eq_true rfl) rfl ?_))))))
   intro gv da
   refine Zb (Ze ?_)
   exact ⟨ci, am, bw, bN, ((((((((((((((((((((da).f7).drop).f7).drop).f11).drop).f11).drop).f4).f5).f6).f4).f6).f10).f10).f10).f9).f9).f10).f11, aT, bk, rfl, rfl⟩
  refine DL_e rfl rfl (Exec.make (E := (encInt .i64)) a6.drew S24 Z3 rfl rfl rfl rfl bn ?_)
  intro bx gw bD
  refine ⟨(ag_cons (ag_r rfl rfl (Zm (v := Value.pointer (some ⟨b, 0, none⟩)) rfl rfl ⟨rfl, rfl⟩)) (ag_cons (ag_r rfl rfl (Exec.nilCheck_ptr rfl rfl ⟨rfl, rfl⟩)) (ag_cons (ag_r rfl rfl (Zp F66_1 rfl rfl rfl ⟨rfl, rfl⟩)) (ag_cons (ag_r rfl rfl (Zn ((bD).f7) A24 rfl rfl rfl ⟨rfl, rfl⟩)) ag_nil)))), ?_⟩
  refine DL_e rfl rfl (Tc rfl rfl rfl (Zi rfl args_nil) (slices_Clone_int_o_sim cd (bD).f8 ).r ?_)
  rintro aZ gx ⟨e3, _, d1, be, rfl⟩
  refine ⟨ag_nil, ?_⟩
  refine DL_q rfl rfl (Zp F36_0 rfl rfl rfl ⟨rfl, ?_⟩)
  refine DL_q rfl rfl (Zp F34_0 rfl rfl rfl ⟨rfl, ?_⟩)
  refine DL_e rfl rfl (Exec.store_box (ds := [aZ]) (es := [aZ, (Value.slice none 0 0), (Value.slice none 0 0), (Value.slice none 0 0), a, (Value.slice none 0 0), (Value.slice none 0 0)]) (be).f8 A24 rfl rfl rfl (cells_one (((be).f8).f2).arr_one) (Zj (((be).f8).f2).arr_one one_nil) (Nat.le_of_ble_eq_true rfl) rfl ?_)
  intro gy bf
  refine ⟨ag_nil, ?_⟩
  refine DL_done (Za rfl rfl (Zp F36_0 rfl rfl rfl (Za rfl rfl (Zp F34_1 rfl rfl rfl (Za rfl rfl (Exec.store_box (ds := [bx]) (es := [aZ, bx, (Value.slice none 0 0), (Value.slice none 0 0), a, (Value.slice none 0 0), (Value.slice none 0 0)]) bf A24 rfl rfl rfl (cells_one ((bf).f3).arr_one) (Zj ((bf).f3).arr_one one_nil) (Nat.le_of_ble_eq_true rfl) rfl ?_))))))
  intro gz db
  refine Zb (Ze ?_)
  exact ⟨e3, aZ, bx, d1, ((((((((((((((((((((db).f7).drop).f7).drop).f11).drop).f11).drop).f4).f5).f6).f6).f6).f10).f10).f10).f9).f9).f10).f11, aT, bk, rfl, rfl⟩
 intro fd g0 cI
 obtain ⟨cj, g, h, l, bE, bS, d7, d8, d9⟩ := cI
 refine (Ze (Zc (Zc (Zd (Za rfl rfl (Zp F28_2 rfl bS rfl (Za rfl rfl (Zw (E := (encSlice (encInt .i64))) bE A24 rfl rfl rfl ((a4.sub (Sub.iso (Sub.snd (Sub.snd (Sub.fst (Sub.refl _)) rfl) rfl)) rfl).mono (Zt (Zt (Zt az d) j) l)) ?_))))))))
 intro eF eb
 have bp : SliceRep _ _ _ (i.Init) := encSlice_val.1 eb
 refine Za rfl rfl (Zr S24 rfl rfl bp (Za rfl rfl (Zm (v := Vi (0)) rfl rfl (Zb (Ze ?_)))))
 obtain ⟨a0, c8, hm⟩ := Zg hm
 refine W_block (W_forS (fun k' s' f' w' => (fun (a0 : (List Int)) => ∃ (ck : PHeap) , PHeap.le cj ck ∧ St w0 ck (Res.box n 36 [Value.slice none 0 0, Value.slice none 0 0, Value.slice none 0 0, Value.slice none 0 0, Value.slice none 0 0, Value.slice none 0 0, Value.slice none 0 0] :: Res.box b 66 [ah, ai, aj, ak, al, x, a, z, (Value.slice none 0 0)] :: Res.box t 36 [g, h, (Value.slice none 0 0), (Value.slice none 0 0), a, (Value.slice none 0 0), (Value.slice none 0 0)] :: Res.arr (encInt .i64) 3 x aD :: Res.arr encFact 46 a aM :: Res.arr encBool 4 z aN :: Res.arr (encInt .i64) 3 (Value.slice none 0 0) ([] : (List Int)) :: Res.arr (encInt .i64) 3 g aK :: Res.arr (encInt .i64) 3 h a0 :: Res.arr encFact 46 (Value.slice none 0 0) ([] : (List Fact)) :: Res.arr encOp 55 (Value.slice none 0 0) ([] : (List Op)) :: Res.arr (encInt .i64) 3 (Value.slice none 0 0) ([] : (List Int)) :: H) w' ∧ f' 2 = Value.pointer (some ⟨aO, 0, none⟩) ∧ f' 4 = Value.pointer (some ⟨n, 0, none⟩) ∧ f' 6 = Value.pointer (some ⟨b, 0, none⟩) ∧ f' 7 = Value.pointer (some ⟨t, 0, none⟩) ∧ f' 60 = eF ∧ f' 61 = Vi ((i.Init.length : Int)) ∧ f' 62 = Vi (k' : Int)) s') c8 ?_ ?_ ?_)
 ·have dc := (bE).f11
  exact ⟨cj, (Zv _), (((((((((((dc).f11).f11).f11).f11).f11).f11).f11).f11).f11).f11).f11, bS, d7, d8, d9, rfl, rfl, rfl⟩
 ·intro dy a0 e4 fe g1 du cB ab
  obtain ⟨e5, bO, bF, dA, dB, bl, bT, bU, bV, bz⟩ := cB
  refine Zc (Zd (Za rfl rfl (Zq rfl bz bV (Zb (Ze (Zc (W_true (Zx (decide_eq_true (by omega))) (W_skip (Ze (Zc (W_block (Zc (Zd ?_)))))))))))))
  obtain ⟨b0, ec, ab⟩ := Zg ab
  refine Za rfl rfl (Exec.index_rep S24 rfl bU bz (bp.mono bO) ec ?_)
  intro eR fv c0
  refine Za rfl rfl (Zw (E := (encInt .i64)) bF A3 rfl rfl rfl c0 ?_)
  intro ga ed
  obtain rfl := encInt_val.1 ed
  refine Za rfl rfl (Zo (v := Vi (b0)) rfl rfl (Zb (Ze (W_dl (n0 := 19) (qs 0 19 .done) hmix (by kernel_rfl) (by kernel_rfl) ?_))))
  have aa := bF.drew
  refine DL_q rfl rfl (Zp F36_0 rfl bT rfl ⟨rfl, ?_⟩)
  refine DL_q rfl rfl (Zp F34_1 rfl rfl rfl ⟨rfl, ?_⟩)
  refine DL_q rfl rfl (Zn ((aa).f2) A24 rfl rfl rfl ⟨rfl, ?_⟩)
  refine DL_q rfl rfl (Zm (v := Value.pointer (some ⟨b, 0, none⟩)) rfl bl ⟨rfl, ?_⟩)
  refine DL_q rfl rfl (Exec.nilCheck_ptr rfl rfl ⟨rfl, ?_⟩)
  refine DL_q rfl rfl (Zp F66_2 rfl rfl rfl ⟨rfl, ?_⟩)
  refine DL_q rfl rfl (Zn ((aa).f1) A31 rfl rfl rfl ⟨rfl, ?_⟩)
  refine DL_q rfl rfl (Zm (v := Vi (b0)) rfl rfl ⟨rfl, ?_⟩)
  obtain ⟨cy, ag, ab⟩ := Zg ab
  obtain ⟨fl, eU, b5⟩ := ((aa).f4).arr_at ag
  refine DL_q rfl rfl (Exec.index_slice S31 rfl b5 rfl (idx_some ag).1 (idx_some ag).2.1 ⟨rfl, ?_⟩)
  refine DL_q rfl rfl (Zp F46_0 rfl rfl rfl ⟨rfl, ?_⟩)
  refine DL_q rfl rfl (Exec.load_arr (F := (encInt .i64)) ((aa).f4) b5 A3 rfl rfl rfl ag (Sub.iso (Sub.fst (Sub.refl _))) ?_)
  intro eG ee
  obtain rfl : eG = Vi (cy.Var) := encInt_val.1 ee
  refine ⟨rfl, ?_⟩
  refine DL_q rfl rfl (Zm (v := Value.pointer (some ⟨b, 0, none⟩)) rfl bl ⟨rfl, ?_⟩)
  refine DL_q rfl rfl (Exec.nilCheck_ptr rfl rfl ⟨rfl, ?_⟩)
  refine DL_q rfl rfl (Zp F66_2 rfl rfl rfl ⟨rfl, ?_⟩)
  refine DL_q rfl rfl (Zn ((aa).f1) A31 rfl rfl rfl ⟨rfl, ?_⟩)
  refine DL_q rfl rfl (Zm (v := Vi (b0)) rfl rfl ⟨rfl, ?_⟩)
  obtain ⟨fm, eV, b6⟩ := ((aa).f4).arr_at ag
  refine DL_q rfl rfl (Exec.index_slice S31 rfl b6 rfl (idx_some ag).1 (idx_some ag).2.1 ⟨rfl, ?_⟩)
  refine DL_q rfl rfl (Zp F46_1 rfl rfl rfl ⟨rfl, ?_⟩)
  refine DL_q rfl rfl (Exec.load_arr (F := (encInt .i64)) ((aa).f4) b6 A3 rfl rfl rfl ag (Sub.iso (Sub.snd (Sub.refl _) rfl)) ?_)
  intro eH ef
  obtain rfl : eH = Vi (cy.Val) := encInt_val.1 ef
  refine ⟨rfl, ?_⟩
  refine DL_done ?_
  obtain ⟨gF, bo, ab⟩ := Zg ab
  obtain ⟨fn, eW, b7⟩ := ((aa).f8).arr_at bo
  refine Za rfl rfl (Exec.index_slice S24 rfl b7 rfl (idx_some bo).1 (idx_some bo).2.1 ?_)
  obtain ⟨fs, eg, ab⟩ := Zg ab
  refine Za rfl rfl (Exec.store_arr (aa).f8 b7 A3 rfl rfl rfl rfl (encInt_val.2 rfl) eg ?_)
  intro g2 dd
  refine Zb (ib_normal (Ze (Zd (Za rfl rfl (Exec.add rfl bz rfl (Za rfl rfl (Zm (v := Vi (IntKind.i64.wrap ((dy : Int) + 1))) rfl rfl (Zb (Ze ?_)))))))))
  have eZ := Zu ab
  subst e4
  exact ⟨e5, bO, ((((((((((((dd).f11).f11).f11).f3).f11).f11).f11).f11).f11).f11).f11).f11, dA, dB, bl, bT, bU, bV, (Eq.trans rfl (wrap_up du (SliceRep.le bp)))⟩
 intro ff g3 cC
 obtain ⟨cl, m, bG, bW, dC, dD, dE, fx, dF, eL⟩ := cC
 refine Zc (Zd (Za rfl rfl (Zq rfl eL dF (Zb (Ze (Zc (W_false (Zx (decide_eq_false (by omega))) (W_exit (at_exit (at_exit (ib_here (Ze (Zc (Zd (Za rfl rfl (Zo (v := Value.slice none 0 0) rfl rfl (Zb (Ze (Zc (Zc (Zd (Za rfl rfl (Zp F28_1 rfl bW rfl (Za rfl rfl (Zw (E := (encSlice encGFluent)) bG A23 rfl rfl rfl ((a4.sub (Sub.iso (Sub.snd (Sub.fst (Sub.refl _)) rfl)) rfl).mono (Zt (Zt (Zt (Zt az d) j) l) m)) ?_)))))))))))))))))))))))))
 intro eI eh
 have ce : SliceRep _ _ _ (i.Fluents) := encSlice_val.1 eh
 refine Za rfl rfl (Zr S23 rfl rfl ce (Za rfl rfl (Zm (v := Vi (0)) rfl rfl (Zb (Ze ?_)))))
 obtain ⟨fR, c9, hm⟩ := Zg hm
 refine W_block (W_forS (fun k' s' f' w' => (fun (_ : Unit) => ∃ (cm : PHeap) , PHeap.le cl cm ∧ St w0 cm (Res.box n 36 [Value.slice none 0 0, Value.slice none 0 0, Value.slice none 0 0, Value.slice none 0 0, Value.slice none 0 0, Value.slice none 0 0, Value.slice none 0 0] :: Res.box b 66 [ah, ai, aj, ak, al, x, a, z, (Value.slice none 0 0)] :: Res.box t 36 [g, h, (Value.slice none 0 0), (Value.slice none 0 0), a, (Value.slice none 0 0), (Value.slice none 0 0)] :: Res.arr (encInt .i64) 3 x aD :: Res.arr encFact 46 a aM :: Res.arr encBool 4 z aN :: Res.arr (encInt .i64) 3 (Value.slice none 0 0) ([] : (List Int)) :: Res.arr (encInt .i64) 3 g aK :: Res.arr (encInt .i64) 3 h a0 :: Res.arr encFact 46 (Value.slice none 0 0) ([] : (List Fact)) :: Res.arr encOp 55 (Value.slice none 0 0) ([] : (List Op)) :: Res.arr (encInt .i64) 3 (Value.slice none 0 0) ([] : (List Int)) :: H) w' ∧ f' 2 = Value.pointer (some ⟨aO, 0, none⟩) ∧ f' 4 = Value.pointer (some ⟨n, 0, none⟩) ∧ f' 6 = Value.pointer (some ⟨b, 0, none⟩) ∧ f' 7 = Value.pointer (some ⟨t, 0, none⟩) ∧ f' 10 = Value.slice none 0 0 ∧ f' 88 = eI ∧ f' 89 = Vi ((i.Fluents.length : Int)) ∧ f' 90 = Vi (k' : Int)) s') c9 ?_ ?_ ?_)
 ·have de := (bG).f11
  exact ⟨cl, (Zv _), (((((((((((de).f11).f11).f11).f11).f11).f11).f11).f11).f11).f11).f11, bW, dC, dD, dE, rfl, rfl, rfl, rfl⟩
 ·intro bM fS fG fg g4 fp cD bg
  obtain ⟨fH, d2, bH, fy, fz, f0, fA, fB, dG, dH, b1⟩ := cD
  refine Zc (Zd (Za rfl rfl (Zq rfl b1 dH (Zb (Ze (Zc (W_true (Zx (decide_eq_true (by omega))) (W_skip (Ze (Zc (W_block (Zc (Zd (Za rfl rfl (Zm (v := Vi ((bM : Int))) rfl b1 ?_)))))))))))))))
  obtain ⟨ao, ei, bg⟩ := Zg bg
  refine Za rfl rfl (Exec.index_rep S23 rfl dG b1 (ce.mono d2) ei ?_)
  intro eS fw c1
  refine Za rfl rfl (Zw (E := encGFluent) bH A73 rfl rfl rfl c1 ?_)
  intro gb ej
  obtain ⟨cp, rfl, ev⟩ := encGFluent_val.1 ej
  refine Za rfl rfl (Exec.alloc (cs := [Value.string (⟨#[]⟩), Value.slice none 0 0, Vi (0), Vi (0), Vi (0)]) bH Z73 rfl rfl ?_)
  intro eT g5 df
  refine Za rfl rfl (Zo (v := Vi ((bM : Int))) rfl rfl (Za rfl rfl (Exec.store_box (ds := [Value.string (ao.Fluent.Name), cp, Vi (ao.Lo), Vi (ao.Hi), Vi (ao.Init)]) (es := [Value.string (ao.Fluent.Name), cp, Vi (ao.Lo), Vi (ao.Hi), Vi (ao.Init)]) df A73 rfl rfl rfl rfl (Zj rfl (Zj (ev).one (Zj rfl (Zj rfl (Zj rfl one_nil))))) (Nat.le_of_ble_eq_true rfl) rfl ?_)))
  intro g6 fo
  refine Zb (Ze (Zc ?_))
  cases bg
 intro fh g7 cE
 obtain ⟨bu, o, bI, dI, dJ, dK, dL, dM, fC, dN, eM⟩ := cE
 refine Zc (Zd (Za rfl rfl (Zq rfl eM dN (Zb (Ze (Zc (W_false (Zx (decide_eq_false (by omega))) (W_exit (at_exit (at_exit (ib_here (Ze (Zc (Zc (Zd (Za rfl rfl (Zp F28_4 rfl dI rfl (Za rfl rfl (Zw (E := (encSlice encGOp)) bI A26 rfl rfl rfl ((a4.sub (Sub.iso (Sub.snd (Sub.snd (Sub.snd (Sub.snd (Sub.refl _) rfl) rfl) rfl) rfl)) rfl).mono (Zt (Zt (Zt (Zt (Zt az d) j) l) m) o)) ?_)))))))))))))))))))
 intro gc ek
 have cf : SliceRep _ _ _ (i.Ops) := encSlice_val.1 ek
 refine Za rfl rfl (Zr S26 rfl rfl cf (Za rfl rfl (Zm (v := Vi (0)) rfl rfl (Zb (Ze ?_)))))
 obtain ⟨b4, cA, fq, dw, dt⟩ := ctl_some hm
 refine W_mid (M := fun f' w' => ∃ s', (b4 = .next s' ∨ b4 = .brk s') ∧ (un2 fun (bP : (List Op)) (bQ : (List Int)) => ∃ (cn : PHeap) (an : Value) (ar : Value), PHeap.le bu cn ∧ St w0 cn (Res.box n 36 [Value.slice none 0 0, Value.slice none 0 0, Value.slice none 0 0, Value.slice none 0 0, Value.slice none 0 0, Value.slice none 0 0, Value.slice none 0 0] :: Res.box b 66 [ah, ai, aj, ak, al, x, a, z, (Value.slice none 0 0)] :: Res.box t 36 [g, h, (Value.slice none 0 0), an, a, (Value.slice none 0 0), ar] :: Res.arr (encInt .i64) 3 x aD :: Res.arr encFact 46 a aM :: Res.arr encBool 4 z aN :: Res.arr (encInt .i64) 3 (Value.slice none 0 0) ([] : (List Int)) :: Res.arr (encInt .i64) 3 g aK :: Res.arr (encInt .i64) 3 h a0 :: Res.arr encFact 46 (Value.slice none 0 0) ([] : (List Fact)) :: Res.arr encOp 55 an bP :: Res.arr (encInt .i64) 3 ar bQ :: H) w' ∧ f' 4 = Value.pointer (some ⟨n, 0, none⟩) ∧ f' 6 = Value.pointer (some ⟨b, 0, none⟩) ∧ f' 7 = Value.pointer (some ⟨t, 0, none⟩) ∧ f' 10 = Value.slice none 0 0 ∧ f' 119 = Vi ((i.Ops.length : Int))) s') ?_ ?_
 ·refine W_block (W_forC (fun k' s' f' w' => (un2 fun (bi : (List Op)) (bj : (List Int)) => ∃ (co : PHeap) (aF : Value) (aG : Value), PHeap.le bu co ∧ St w0 co (Res.box n 36 [Value.slice none 0 0, Value.slice none 0 0, Value.slice none 0 0, Value.slice none 0 0, Value.slice none 0 0, Value.slice none 0 0, Value.slice none 0 0] :: Res.box b 66 [ah, ai, aj, ak, al, x, a, z, (Value.slice none 0 0)] :: Res.box t 36 [g, h, (Value.slice none 0 0), aF, a, (Value.slice none 0 0), aG] :: Res.arr (encInt .i64) 3 x aD :: Res.arr encFact 46 a aM :: Res.arr encBool 4 z aN :: Res.arr (encInt .i64) 3 (Value.slice none 0 0) ([] : (List Int)) :: Res.arr (encInt .i64) 3 g aK :: Res.arr (encInt .i64) 3 h a0 :: Res.arr encFact 46 (Value.slice none 0 0) ([] : (List Fact)) :: Res.arr encOp 55 aF bi :: Res.arr (encInt .i64) 3 aG bj :: H) w' ∧ f' 4 = Value.pointer (some ⟨n, 0, none⟩) ∧ f' 6 = Value.pointer (some ⟨b, 0, none⟩) ∧ f' 7 = Value.pointer (some ⟨t, 0, none⟩) ∧ f' 10 = Value.slice none 0 0 ∧ f' 119 = Vi ((i.Ops.length : Int)) ∧ f' 120 = Vi (k' : Int)) s') cA ?_ ?_ ?_)
  ·have dg := (bI).f11
   exact ⟨bu, (Value.slice none 0 0), (Value.slice none 0 0), (Zv _), (((((((((((dg).f11).f11).f11).f11).f11).f11).f11).f11).f11).f11).f11, dJ, dK, dL, dM, rfl, rfl⟩
  ·intro aQ eA c7 fi g8 dv cF p fr
   obtain ⟨bi, bj⟩ := eA
   replace p := un2_eq p
   obtain ⟨fI, aF, aG, a1, dh, dO, bX, bY, bZ, ca, b2⟩ := cF
   refine Zc (Zd (Za rfl rfl (Zq rfl b2 ca (Zb (Ze (Zc (W_true (Zx (decide_eq_true (by omega))) (W_skip (Ze (Zc (W_block (Zc (Zd (Za rfl rfl (Zm (v := Vi ((aQ : Int))) rfl b2 (Za rfl rfl (Zo (v := Vi ((aQ : Int))) rfl rfl (Zb (Ze (Zc (Zd (Za rfl rfl (Zm (v := Value.pointer (some ⟨b, 0, none⟩)) rfl bX (Za rfl rfl (Zm (v := Vi ((aQ : Int))) rfl rfl (Za rfl rfl (Zm (v := Value.slice none 0 0) rfl bZ ?_)))))))))))))))))))))))))))
   obtain ⟨eB, el, p⟩ := Zg p
   obtain ⟨gH, ft, fu⟩ := eB
   replace p := un3_eq p
   refine Za rfl rfl (Tc rfl rfl rfl (Zi rfl (Zi bY (Zi rfl (Zi rfl args_nil)))) (encode_encoder_operators_sim el (((((((((((dh).f11).f11).f11).f11).f11).f7).f11).f11).f11).f11).f11 (aU.mono (Zt (Zt (Zt (Zt (Zt d j) l) m) o) a1)) (aV.mono (Zt (Zt (Zt (Zt (Zt d j) l) m) o) a1)) (aW.mono (Zt (Zt (Zt (Zt (Zt d j) l) m) o) a1)) (aX.mono (Zt (Zt (Zt (Zt (Zt d j) l) m) o) a1)) (aY.mono (Zt (Zt (Zt (Zt (Zt d j) l) m) o) a1)) (SliceRep.nil _ _)).r ?_)
   rintro _ g9 ⟨e6, eJ, eK, d3, di, rfl⟩
   refine Za rfl rfl (Exec.not rfl rfl (Zb (Ze ?_)))
   rcases ite_some p with ⟨aA, p⟩ | ⟨aA, p⟩
   ·refine W_cond_t rfl aA (Zc ?_)
    cases p
   refine W_cond_f rfl aA ?_
   replace aA := Zk aA
   refine W_skip (ib_normal (Ze (Zd (Za rfl rfl (Exec.add rfl b2 rfl (Za rfl rfl (Zm (v := Vi (IntKind.i64.wrap ((aQ : Int) + 1))) rfl rfl (Zb (Ze ?_)))))))))
   have fa := Zu p
   subst c7
   refine ⟨_, rfl, ?_⟩; exact ⟨e6, eJ, eK, (Zt a1 d3), ((((((((((((di).f10).f10).f10).f10).f10).f9).f9).f9).f9).f10).f10).f11, dO, bX, bY, bZ, ca, (Eq.trans rfl (wrap_up dv (SliceRep.le cf)))⟩
  intro eC fj gA cG dx
  obtain ⟨bi, bj⟩ := eC
  obtain ⟨e7, aF, aG, d4, dj, dP, dQ, dR, dS, cb, eN⟩ := cG
  refine Zc (Zd (Za rfl rfl (Zq rfl eN cb (Zb (Ze (Zc (W_false (Zx (decide_eq_false (by omega))) (W_exit (at_exit (at_exit (ib_here (Ze ?_))))))))))))
  refine ⟨_, .inl dx, ?_⟩; exact ⟨e7, aF, aG, d4, ((((((((((((dj).f11).f11).f11).f11).f11).f11).f11).f11).f11).f11).f11).f11, dP, dQ, dR, dS, cb⟩
 rintro fk gB ⟨eD, bL, cJ⟩
 have hm := bL.elim (dw _) (dt _)
 clear bL
 obtain ⟨bP, bQ⟩ := eD
 replace hm := un2_eq hm
 obtain ⟨fJ, an, ar, a2, dk, cc, dT, bm, dU, fD⟩ := cJ
 refine (Ze (Zc (Zc (Zd (Za rfl rfl (Zm (v := Value.pointer (some ⟨b, 0, none⟩)) rfl dT (Za rfl rfl (Zm (v := Value.slice none 0 0) rfl dU ?_))))))))
 obtain ⟨eE, em, hm⟩ := Zg hm
 obtain ⟨gI, gJ⟩ := eE
 replace hm := un2_eq hm
 refine Za rfl rfl (Tc rfl rfl rfl (Zi rfl (Zi bm (Zi rfl args_nil))) (encode_encoder_goal_sim em (((((((((((dk).f11).f11).f11).f11).f11).f7).f11).f11).f11).f11).f11 (aU.mono (Zt (Zt (Zt (Zt (Zt d j) l) m) o) a2)) (aV.mono (Zt (Zt (Zt (Zt (Zt d j) l) m) o) a2)) (aW.mono (Zt (Zt (Zt (Zt (Zt d j) l) m) o) a2)) (aX.mono (Zt (Zt (Zt (Zt (Zt d j) l) m) o) a2)) (aY.mono (Zt (Zt (Zt (Zt (Zt d j) l) m) o) a2)) (SliceRep.nil _ _)).r ?_)
 rintro _ gC ⟨fK, aH, d5, bJ, rfl, bq⟩
 refine Za rfl rfl (Exec.not rfl rfl (Zb (Ze ?_)))
 rcases ite_some hm with ⟨aB, hm⟩ | ⟨aB, hm⟩
 ·refine W_cond_t rfl aB (Zc ?_)
  cases hm
 refine W_cond_f rfl aB ?_
 replace aB := Zk aB
 refine W_skip (Ze (Zc (Zc (Zd (Za rfl rfl (Zp F36_0 rfl bm rfl (Za rfl rfl (Exec.load_box_agg (ds := [g, h, aH, an]) ((bJ).f5) A34 rfl rfl rfl ?_))))))))
 obtain ⟨fL, aS, dl, br⟩ := (bJ).f6.freezeArr
 obtain ⟨fM, ap, dm, bs⟩ := (dl).f6.freezeArr
 obtain ⟨fN, u, dn, bt⟩ := (dm).f7.freezeArr
 obtain ⟨cz, en, hm⟩ := Zg hm
 refine Za rfl rfl (Tc rfl rfl rfl (Zi rfl args_nil) (task_Check_sim en dn (br.mono (Zt ap u)) (bs.mono u) (bq.mono (Zt (Zt aS ap) u)) bt).r ?_)
 rintro _ gD ⟨fO, ad, a7, rfl⟩
 refine Za rfl rfl (Zo (v := errV 44 (cz)) rfl rfl (Zb (Ze (Zc (Zd (Za rfl rfl (Zm (v := errV 44 (cz)) rfl rfl (Za rfl rfl (Exec.err_neq_nil (T := 44) Tryz.underlying38 rfl rfl rfl (Zb (Ze ?_)))))))))))
 rcases ite_some hm with ⟨aC, hm⟩ | ⟨aC, hm⟩
 ·refine W_cond_t rfl aC (Zc ?_)
  cases hm
 refine W_cond_f rfl aC ?_
 replace aC := Zk aC
 refine W_skip (Ze (Zc (Zd (Za rfl rfl (Exec.load_box_agg (ds := [g, h, aH, an, a, (Value.slice none 0 0), ar]) ((a7).f5) A36 rfl bm rfl (Za rfl rfl (Exec.store_box (ds := [g, h, aH, an, a, (Value.slice none 0 0), ar]) (es := [g, h, aH, an, a, (Value.slice none 0 0), ar]) (a7).f8 A36 rfl cc rfl rfl (Zj ((br.mono (Zt (Zt ap u) ad))).one (Zj ((bs.mono (Zt u ad))).one (Zj ((bq.mono (Zt (Zt (Zt aS ap) u) ad))).one (Zj ((bt.mono ad)).one (Zj (((a7).f8).f3).arr_one (Zj (((a7).f8).f5).arr_one (Zj (((a7).f8).f8).arr_one one_nil))))))) (Nat.le_of_ble_eq_true rfl) rfl ?_)))))))
 intro gE bK
 refine Za rfl rfl (Zo (v := errV 44 (none)) rfl rfl (Zb (Ze (W_ret ?_))))
 have fb := Zu hm
 subst r
 refine ⟨_, retG2 rfl ⟨_, _, cc, cellRes (bK) A36⟩ rfl, ?_⟩
 obtain ⟨fP, aE, dp, ew⟩ := (bK).f3.freezeArr
 obtain ⟨fQ, a3, dq, ex⟩ := (dp).f4.freezeArr
 obtain ⟨e8, aq, dr, ey⟩ := (dq).f6.freezeArr
 exact ⟨e8, g, h, aH, an, a, (Value.slice none 0 0), ar, (Zt (Zt (Zt (Zt (Zt (Zt (Zt (Zt (Zt (Zt (Zt (Zt (Zt (Zt (Zt bh az) d) j) l) m) o) a2) d5) aS) ap) u) ad) aE) a3) aq), ((((((dr).drop).drop).drop).drop).drop).drop, (tup2 rfl rfl), (br.mono (Zt (Zt (Zt (Zt (Zt ap u) ad) aE) a3) aq)), (bs.mono (Zt (Zt (Zt (Zt u ad) aE) a3) aq)), (bq.mono (Zt (Zt (Zt (Zt (Zt (Zt aS ap) u) ad) aE) a3) aq)), (bt.mono (Zt (Zt (Zt ad aE) a3) aq)), (ew.mono (Zt a3 aq)), (ex.mono aq), ey⟩
theorem F36_1 : tyField Tryz.prog 36 1 = some 4 := by kernel_rfl
theorem F36_2 : tyField Tryz.prog 36 2 = some 5 := by kernel_rfl
theorem encode_fits_sim {w0 w : World} {s : PHeap} {H : List Res} {ae : Ground} {d : Encoding} {q : Value} {t : Value} {u : Value} {x : Value} {y : Value} {z : Value} {aa : Value} {ab : Value} {ac : Value} {m : Value} {n : Value} {ad : Value} {r : Bool} (hm : encode_fits_p ae d = some r) (hS : St w0 s (H) w) (az : SliceRep encAtom s q ae.Atoms) (a0 : SliceRep encGFluent s t ae.Fluents) (aQ : SliceRep (encInt .i64) s u ae.Init) (aR : SliceRep encCond s x ae.Goal) (aS : SliceRep encGOp s y ae.Ops) (a1 : SliceRep (encInt .i64) s z d.Task.Vars) (aT : SliceRep (encInt .i64) s aa d.Task.Init) (aU : SliceRep encFact s ab d.Task.Goal) (aV : SliceRep encOp s ac d.Task.Ops) (al : SliceRep encFact s m d.Atoms) (am : SliceRep (encInt .i64) s n d.Fluents) (cb : SliceRep (encInt .i64) s ad d.Ops) :
  Calls Tryz.prog 42 #[Value.agg #[q, t, u, x, y], Value.agg #[z, aa, ab, ac, m, n, ad]] w fun e w' => ∃ v, e = .returned v ∧ ((fun (bZ : Bool) => ∃ (aK : PHeap) , PHeap.le s aK ∧ St w0 aK (H) w' ∧ v = Value.bool (bZ)) r) := by
 unfold encode_fits_p at hm
 refine calls_of_W Tryz.func42 rfl rfl (Zc (Zd (Za rfl rfl (Exec.box (cs := [q, t, u, x, y]) hS rfl rfl rfl ?_))))
 intro j cL bi
 refine Za rfl rfl (Exec.box (cs := [z, aa, ab, ac, m, n, ad]) bi rfl rfl rfl ?_)
 intro l cM a4
 refine Za rfl rfl (Zo (v := Value.bool (false)) rfl rfl (Zb (Ze (Zc (Zc ?_)))))
 obtain ⟨ai, a, hm⟩ := Zg hm
 refine W_mid (M := fun f' w' => (fun (ai : Bool) => ∃ (aL : PHeap) , PHeap.le s aL ∧ St w0 aL (Res.box j 28 [q, t, u, x, y] :: Res.box l 36 [z, aa, ab, ac, m, n, ad] :: H) w' ∧ f' 2 = Value.pointer (some ⟨j, 0, none⟩) ∧ f' 3 = Value.pointer (some ⟨l, 0, none⟩) ∧ f' 35 = Value.bool (ai)) ai) ?_ ?_
 ·refine Zd (Za rfl rfl (Exec.load_box_agg (ds := [q, t, u, x, y]) ((a4).f1) A28 rfl rfl rfl ?_))
  obtain ⟨ca, bJ, a⟩ := Zg a
  refine Za rfl rfl (Tc rfl rfl rfl (Zi rfl args_nil) (ground_Valid_sim bJ a4 az a0 aQ aR aS).r ?_)
  rintro _ cN ⟨bR, i, an, rfl⟩
  refine Za rfl rfl (Exec.not rfl rfl (Za rfl rfl (Zm (v := Value.bool (!ca)) rfl rfl ?_)))
  rcases ite_some a with ⟨o, a⟩ | ⟨o, a⟩
  ·refine WL_passes 23 (by rw [o]; rfl) ?_
   refine Zb (Ze ?_)
   have ch := Zu a
   subst ai
   exact ⟨bR, i, (an).f1, rfl, rfl, rfl⟩
  replace o := Zk o
  refine WL_run rfl (Zf rfl (Zx o)) rfl (Zp F36_0 rfl rfl rfl (WL_run rfl (Zf rfl (Zx o)) rfl (Exec.load_box_agg (ds := [z, aa, ab, ac]) (an) A34 rfl rfl rfl ?_)))
  obtain ⟨da, bK, a⟩ := Zg a
  refine WL_run rfl (Zf rfl (Zx o)) rfl (Tc rfl rfl rfl (Zi rfl args_nil) (task_Check_sim bK an (a1.mono i) (aT.mono i) (aU.mono i) (aV.mono i)).r ?_)
  rintro _ cO ⟨au, ag, af, rfl⟩
  refine WL_run rfl (Zf rfl (Zx o)) rfl (Exec.err_neq_nil (T := 44) Tryz.underlying38 rfl rfl rfl ?_)
  refine WL_passes 2 (by rw [o]; rfl) ?_
  rcases ite_some a with ⟨g, a⟩ | ⟨g, a⟩
  ·refine WL_passes 17 (by rw [g]; rfl) ?_
   refine Zb (Ze ?_)
   have ci := Zu a
   subst ai
   exact ⟨au, (Zt i ag), (af).f1, rfl, rfl, rfl⟩
  replace g := Zk g
  refine WL_run rfl (Zf rfl (Zx g)) rfl (Zp F36_1 rfl rfl rfl (WL_run rfl (Zf rfl (Zx g)) rfl (Zn (af) A31 rfl rfl rfl (WL_run rfl (Zf rfl (Zx g)) rfl (Zr S31 rfl rfl (al.mono (Zt i ag)) (WL_run rfl (Zf rfl (Zx g)) rfl (Zp F28_0 rfl rfl rfl (WL_run rfl (Zf rfl (Zx g)) rfl (Zn ((af).f1) A22 rfl rfl rfl (WL_run rfl (Zf rfl (Zx g)) rfl (Zr S22 rfl rfl (az.mono (Zt i ag)) (WL_run rfl (Zf rfl (Zx g)) rfl (Exec.neq rfl rfl rfl ?_)))))))))))))
  refine WL_passes 2 (by rw [g]; rfl) ?_
  rcases ite_some a with ⟨h, a⟩ | ⟨h, a⟩
  ·refine WL_passes 8 (by rw [h]; rfl) ?_
   refine Zb (Ze ?_)
   have cj := Zu a
   subst ai
   exact ⟨au, (Zt i ag), (af).f1, rfl, rfl, rfl⟩
  replace h := Zk h
  refine WL_run rfl (Zf rfl (Zx h)) rfl (Zp F36_2 rfl rfl rfl (WL_run rfl (Zf rfl (Zx h)) rfl (Zn (af) A24 rfl rfl rfl (WL_run rfl (Zf rfl (Zx h)) rfl (Zr S24 rfl rfl (am.mono (Zt i ag)) (WL_run rfl (Zf rfl (Zx h)) rfl (Zp F28_1 rfl rfl rfl (WL_run rfl (Zf rfl (Zx h)) rfl (Zn ((af).f1) A23 rfl rfl rfl (WL_run rfl (Zf rfl (Zx h)) rfl (Zr S23 rfl rfl (a0.mono (Zt i ag)) (WL_run rfl (Zf rfl (Zx h)) rfl (Exec.neq rfl rfl rfl (Za rfl rfl (Exec.pick_f (v := Value.bool (!decide ((d.Fluents.length : Int) = (ae.Fluents.length : Int)))) rfl (Zx h) rfl (Zb (Ze ?_)))))))))))))))))
  have ck := Zu a
  subst ai
  exact ⟨au, (Zt i ag), (af).f1, rfl, rfl, rfl⟩
 intro cn cP bf
 obtain ⟨av, ah, a5, b8, aC, aD⟩ := bf
 refine (Ze ?_)
 rcases ite_some hm with ⟨aj, hm⟩ | ⟨aj, hm⟩
 ·refine W_cond_t aD aj (Zc ?_)
  cases hm
 refine W_cond_f aD aj ?_
 replace aj := Zk aj
 refine W_skip (Ze (Zc (Zc (Zd (Za rfl rfl (Zp F36_1 rfl aC rfl (Za rfl rfl (Zn ((a5).f1) A31 rfl rfl rfl (Za rfl rfl (Zr S31 rfl rfl (al.mono ah) (Za rfl rfl (Zm (v := Vi (0)) rfl rfl (Zb (Ze ?_))))))))))))))
 obtain ⟨a2, aZ, cw, bx, bu⟩ := ctl_some hm
 refine W_mid (M := fun f' w' => ∃ s', (a2 = .next s' ∨ a2 = .brk s') ∧ (fun (_ : Unit) => ∃ (aM : PHeap) , PHeap.le av aM ∧ St w0 aM (Res.box j 28 [q, t, u, x, y] :: Res.box l 36 [z, aa, ab, ac, m, n, ad] :: H) w' ∧ f' 2 = Value.pointer (some ⟨j, 0, none⟩) ∧ f' 3 = Value.pointer (some ⟨l, 0, none⟩) ∧ f' 37 = m ∧ f' 38 = Vi ((d.Atoms.length : Int))) s') ?_ ?_
 ·refine W_block (W_forC (fun k' s' f' w' => (fun (_ : Unit) => ∃ (aN : PHeap) , PHeap.le av aN ∧ St w0 aN (Res.box j 28 [q, t, u, x, y] :: Res.box l 36 [z, aa, ab, ac, m, n, ad] :: H) w' ∧ f' 2 = Value.pointer (some ⟨j, 0, none⟩) ∧ f' 3 = Value.pointer (some ⟨l, 0, none⟩) ∧ f' 37 = m ∧ f' 38 = Vi ((d.Atoms.length : Int)) ∧ f' 39 = Vi (k' : Int)) s') aZ ?_ ?_ ?_)
  ·have bj := (a5).f1
   exact ⟨av, (Zv _), (bj).f1, b8, aC, rfl, rfl, rfl⟩
  ·intro b2 cD aY co cQ bw bb p cy
   obtain ⟨cA, aq, a6, b9, aE, aF, aG, ax⟩ := bb
   refine Zc (Zd (Za rfl rfl (Zq rfl ax aG (Zb (Ze (Zc (W_true (Zx (decide_eq_true (by omega))) (W_skip (Ze (Zc (W_block (Zc (Zd ?_)))))))))))))
   obtain ⟨b, bL, p⟩ := Zg p
   refine Za rfl rfl (Exec.index_rep S31 rfl aF ax (al.mono (Zt ah aq)) bL ?_)
   intro cc c0 aW
   refine Za rfl rfl (Zw (E := encFact) a6 A46 rfl rfl rfl aW ?_)
   intro cJ bM
   obtain rfl := encFact_val.1 bM
   refine Za rfl rfl (Exec.alloc (cs := [Vi (0), Vi (0)]) a6 Z46 rfl rfl ?_)
   intro cd cR bk
   refine Za rfl rfl (Exec.store_box (ds := [Vi (b.Var), Vi (b.Val)]) (es := [Vi (b.Var), Vi (b.Val)]) bk A46 rfl rfl rfl rfl (Zj rfl (Zj rfl one_nil)) (Nat.le_of_ble_eq_true rfl) rfl ?_)
   intro cS ao
   refine Zb (Ze (Zc (Zd (Za rfl rfl (Zp F36_0 rfl aE rfl (Za rfl rfl (Zp F34_0 rfl rfl rfl (Za rfl rfl (Zn ((ao).f2) A24 rfl rfl rfl (Za rfl rfl (Exec.load_box_agg (ds := [Vi (b.Var), Vi (b.Val)]) (ao) A46 rfl rfl rfl (Za rfl rfl (Exec.buildSlice (Te := 46) (cs := [Vi (b.Var), Vi (b.Val)]) ao rfl (parts_cons (c := [Vi (b.Var), Vi (b.Val)]) (cells_of rfl rfl) parts_nil) (fun _ => by kernel_rfl) ?_)))))))))))))
   intro ce cT bl
   have bm := St.boxArr (E := encFact) (xs := [b]) bl ⟨[Vi (b.Var), Vi (b.Val)], [], rfl, ⟨[Vi (b.Var)], [Vi (b.Val)], rfl, rfl, rfl⟩, rfl⟩ (by simp [maxLen])
   obtain ⟨cB, aB, bn, bQ⟩ := bm.freezeArr
   obtain ⟨db, bN, p⟩ := Zg p
   refine Za rfl rfl (Tc rfl rfl rfl (Zi rfl (Zi rfl args_nil)) (task_Facts_sim bN bn (a1.mono (Zt (Zt ah aq) aB)) bQ).r ?_)
   rintro _ cU ⟨bS, b3, bo, rfl⟩
   refine Za rfl rfl (Exec.not rfl rfl (Zb (Ze ?_)))
   rcases ite_some p with ⟨ak, p⟩ | ⟨ak, p⟩
   ·refine W_cond_t rfl ak (Zc ?_)
    cases p
   refine W_cond_f rfl ak ?_
   replace ak := Zk ak
   refine W_skip (ib_normal (Ze (Zd (Za rfl rfl (Exec.add rfl ax rfl (Za rfl rfl (Zm (v := Vi (IntKind.i64.wrap ((b2 : Int) + 1))) rfl rfl (Zb (Ze ?_)))))))))
   have cl := Zu p
   subst aY
   refine ⟨_, rfl, ?_⟩; exact ⟨bS, (Zt (Zt aq aB) b3), (((bo).drop).f1).f1, b9, aE, aF, aG, (Eq.trans rfl (wrap_up bw (SliceRep.le (al.mono ah))))⟩
  intro cE cp cV bc b0
  obtain ⟨bT, b4, bp, bA, bB, bC, aH, bW⟩ := bc
  refine Zc (Zd (Za rfl rfl (Zq rfl bW aH (Zb (Ze (Zc (W_false (Zx (decide_eq_false (by omega))) (W_exit (at_exit (at_exit (ib_here (Ze ?_))))))))))))
  refine ⟨_, .inl b0, ?_⟩; exact ⟨bT, b4, ((bp).f1).f1, bA, bB, bC, aH⟩
 rintro cq cW ⟨cF, a8, bg⟩
 have hm := a8.elim (bx _) (bu _)
 clear a8
 obtain ⟨aw, ar, a7, bD, aI, c2, c3⟩ := bg
 refine (Ze (Zc (Zc (Zd (Za rfl rfl (Zp F36_2 rfl aI rfl (Za rfl rfl (Zn ((a7).f1) A24 rfl rfl rfl (Za rfl rfl (Zr S24 rfl rfl (am.mono (Zt ah ar)) (Za rfl rfl (Zm (v := Vi (0)) rfl rfl (Zb (Ze ?_))))))))))))))
 obtain ⟨a3, ba, cx, bz, bv⟩ := ctl_some hm
 refine W_mid (M := fun f' w' => ∃ s', (a3 = .next s' ∨ a3 = .brk s') ∧ (fun (_ : Unit) => ∃ (aO : PHeap) , PHeap.le aw aO ∧ St w0 aO (Res.box j 28 [q, t, u, x, y] :: Res.box l 36 [z, aa, ab, ac, m, n, ad] :: H) w' ∧ f' 2 = Value.pointer (some ⟨j, 0, none⟩) ∧ f' 3 = Value.pointer (some ⟨l, 0, none⟩) ∧ f' 52 = n ∧ f' 53 = Vi ((d.Fluents.length : Int))) s') ?_ ?_
 ·refine W_block (W_forC (fun k' s' f' w' => (fun (_ : Unit) => ∃ (aP : PHeap) , PHeap.le aw aP ∧ St w0 aP (Res.box j 28 [q, t, u, x, y] :: Res.box l 36 [z, aa, ab, ac, m, n, ad] :: H) w' ∧ f' 2 = Value.pointer (some ⟨j, 0, none⟩) ∧ f' 3 = Value.pointer (some ⟨l, 0, none⟩) ∧ f' 52 = n ∧ f' 53 = Vi ((d.Fluents.length : Int)) ∧ f' 54 = Vi (k' : Int)) s') ba ?_ ?_ ?_)
  ·have bq := (a7).f1
   exact ⟨aw, (Zv _), (bq).f1, bD, aI, rfl, rfl, rfl⟩
  ·intro aA cG cg cr cX cv bd ap cz
   obtain ⟨cC, b5, br, c4, c5, bE, bF, ay⟩ := bd
   refine Zc (Zd (Za rfl rfl (Zq rfl ay bF (Zb (Ze (Zc (W_true (Zx (decide_eq_true (by omega))) (W_skip (Ze (Zc (W_block (Zc (Zd (Za rfl rfl (Zm (v := Vi ((aA : Int))) rfl ay ?_)))))))))))))))
   obtain ⟨bX, bO, ap⟩ := Zg ap
   refine Za rfl rfl (Exec.index_rep S24 rfl bE ay (am.mono (Zt (Zt ah ar) b5)) bO ?_)
   intro cf c1 aX
   refine Za rfl rfl (Zw (E := (encInt .i64)) br A3 rfl rfl rfl aX ?_)
   intro cK bP
   obtain rfl := encInt_val.1 bP
   refine Za rfl rfl (Zo (v := Vi ((aA : Int))) rfl rfl (Za rfl rfl (Zo (v := Vi (bX)) rfl rfl (Zb (Ze (Zc ?_))))))
   cases ap
  intro cH ct cY be b1
  obtain ⟨bU, b6, bs, bG, bH, bI, aJ, bY⟩ := be
  refine Zc (Zd (Za rfl rfl (Zq rfl bY aJ (Zb (Ze (Zc (W_false (Zx (decide_eq_false (by omega))) (W_exit (at_exit (at_exit (ib_here (Ze ?_))))))))))))
  refine ⟨_, .inl b1, ?_⟩; exact ⟨bU, b6, ((bs).f1).f1, bG, bH, bI, aJ⟩
 rintro cu cZ ⟨cI, a9, bh⟩
 have hm := a9.elim (bz _) (bv _)
 clear a9
 obtain ⟨bV, b7, bt, c6, c7, c8, c9⟩ := bh
 refine (Ze (Zc (Zd (Za rfl rfl (Zo (v := Value.bool (true)) rfl rfl (Zb (Ze (W_ret ?_))))))))
 have cm := Zu hm
 subst r
 refine ⟨_, ret1 rfl, ?_⟩
 exact ⟨bV, (Zt (Zt ah ar) b7), ((bt).drop).drop, rfl⟩
theorem A58 : tyAgg Tryz.prog 58 = some (true, 2) := by kernel_rfl
theorem F58_1 : tyField Tryz.prog 58 1 = some 1 := by kernel_rfl
theorem ground_proper_sim {w0 w : World} {s : PHeap} {H : List Res} {b : Ground} {h : GState} {i : Value} {j : Value} {l : Value} {m : Value} {n : Value} {x : Value} {o : Value} {r : Bool} (hm : ground_proper_p b h = some r) (hS : St w0 s (H) w) (am : SliceRep encAtom s i b.Atoms) (an : SliceRep encGFluent s j b.Fluents) (aQ : SliceRep (encInt .i64) s l b.Init) (aR : SliceRep encCond s m b.Goal) (aS : SliceRep encGOp s n b.Ops) (ao : SliceRep (encInt .i64) s x h.True) (y : SliceRep (encInt .i64) s o h.Values) :
  Calls Tryz.prog 83 #[Value.agg #[i, j, l, m, n], Value.agg #[x, o]] w fun e w' => ∃ v, e = .returned v ∧ ((fun (aO : Bool) => ∃ (ai : PHeap) , PHeap.le s ai ∧ St w0 ai (H) w' ∧ v = Value.bool (aO)) r) := by
 unfold ground_proper_p at hm
 refine calls_of_W Tryz.func83 rfl rfl (Zc (Zd (Za rfl rfl (Exec.box (cs := [i, j, l, m, n]) hS rfl rfl rfl ?_))))
 intro d bq ax
 refine Za rfl rfl (Exec.box (cs := [x, o]) ax rfl rfl rfl ?_)
 intro ac br g
 refine Za rfl rfl (Zo (v := Value.bool (false)) rfl rfl (Zb (Ze (Zc (Zc ?_)))))
 obtain ⟨q, c, hm⟩ := Zg hm
 refine W_mid (M := fun f' w' => (fun (q : Bool) => ∃ (aj : PHeap) , PHeap.le s aj ∧ St w0 aj (Res.box d 28 [i, j, l, m, n] :: Res.box ac 58 [x, o] :: H) w' ∧ f' 2 = Value.pointer (some ⟨d, 0, none⟩) ∧ f' 3 = Value.pointer (some ⟨ac, 0, none⟩) ∧ f' 22 = Value.bool (q)) q) ?_ ?_
 ·refine Zd (Za rfl rfl (Zp F58_1 rfl rfl rfl (Za rfl rfl (Zn (g) A24 rfl rfl rfl (Za rfl rfl (Zr S24 rfl rfl y (Za rfl rfl (Zp F28_1 rfl rfl rfl (Za rfl rfl (Zn ((g).f1) A23 rfl rfl rfl (Za rfl rfl (Zr S23 rfl rfl an (Za rfl rfl (Exec.neq rfl rfl rfl (Za rfl rfl (Zm (v := Value.bool (!decide ((h.Values.length : Int) = (b.Fluents.length : Int)))) rfl rfl ?_))))))))))))))))
  rcases ite_some c with ⟨a, c⟩ | ⟨a, c⟩
  ·refine WL_passes 8 (by rw [a]; rfl) ?_
   refine Zb (Ze ?_)
   have aV := Zu c
   subst q
   exact ⟨s, (Zv _), (g).f1, rfl, rfl, rfl⟩
  replace a := Zk a
  refine WL_run rfl (Zf rfl (Zx a)) rfl (Zp F58_0 rfl rfl rfl (WL_run rfl (Zf rfl (Zx a)) rfl (Zn (g) A24 rfl rfl rfl (WL_run rfl (Zf rfl (Zx a)) rfl (Zp F28_0 rfl rfl rfl (WL_run rfl (Zf rfl (Zx a)) rfl (Zn ((g).f1) A22 rfl rfl rfl (WL_run rfl (Zf rfl (Zx a)) rfl (Zr S22 rfl rfl am ?_)))))))))
  obtain ⟨aP, aG, c⟩ := Zg c
  refine WL_run rfl (Zf rfl (Zx a)) rfl (Tc rfl rfl rfl (Zi rfl (Zi rfl args_nil)) (ground_indices_sim aG g ao).r ?_)
  rintro _ bs ⟨aJ, a6, ay, rfl⟩
  refine WL_run rfl (Zf rfl (Zx a)) rfl (Exec.not rfl rfl (Za rfl rfl (Exec.pick_f (v := Value.bool (!aP)) rfl (Zx a) rfl (Zb (Ze ?_)))))
  have aW := Zu c
  subst q
  exact ⟨aJ, a6, (ay).f1, rfl, rfl, rfl⟩
 intro aZ bt av
 obtain ⟨u, t, z, aA, aB, ag⟩ := av
 refine (Ze ?_)
 rcases ite_some hm with ⟨p, hm⟩ | ⟨p, hm⟩
 ·refine W_cond_t ag p (Zc (Zd (Za rfl rfl (Zo (v := Value.bool (false)) rfl rfl (Zb (Ze (W_ret (at_ret ?_))))))))
  have aX := Zu hm
  subst r
  refine ⟨_, ret1 rfl, ?_⟩
  exact ⟨u, t, ((z).drop).drop, rfl⟩
 refine W_cond_f ag p ?_
 replace p := Zk p
 refine W_skip (Ze (Zc (Zc (Zd (Za rfl rfl (Zp F58_1 rfl aB rfl (Za rfl rfl (Zn ((z).f1) A24 rfl rfl rfl (Za rfl rfl (Zr S24 rfl rfl (y.mono t) (Za rfl rfl (Zm (v := Vi (0)) rfl rfl (Zb (Ze ?_))))))))))))))
 obtain ⟨ad, aq, be, a4, a3⟩ := ctl_some hm
 refine W_mid (M := fun f' w' => ∃ s', (ad = .next s' ∨ ad = .brk s') ∧ (fun (_ : Unit) => ∃ (ak : PHeap) , PHeap.le u ak ∧ St w0 ak (Res.box d 28 [i, j, l, m, n] :: H) w' ∧ f' 2 = Value.pointer (some ⟨d, 0, none⟩) ∧ f' 24 = o ∧ f' 25 = Vi ((h.Values.length : Int))) s') ?_ ?_
 ·refine W_block (W_forC (fun k' s' f' w' => (fun (_ : Unit) => ∃ (al : PHeap) , PHeap.le u al ∧ St w0 al (Res.box d 28 [i, j, l, m, n] :: H) w' ∧ f' 2 = Value.pointer (some ⟨d, 0, none⟩) ∧ f' 24 = o ∧ f' 25 = Vi ((h.Values.length : Int)) ∧ f' 26 = Vi (k' : Int)) s') aq ?_ ?_ ?_)
  ·have az := ((z).f1).drop
   exact ⟨u, (Zv _), az, aA, rfl, rfl, rfl⟩
  ·intro af bm aU ba bu bd ar aa bf
   obtain ⟨bl, a7, a0, bh, aC, aD, ab⟩ := ar
   refine Zc (Zd (Za rfl rfl (Zq rfl ab aD (Zb (Ze (Zc (W_true (Zx (decide_eq_true (by omega))) (W_skip (Ze (Zc (W_block (Zc (Zd (Za rfl rfl (Zm (v := Vi ((af : Int))) rfl ab ?_)))))))))))))))
   obtain ⟨aM, aH, aa⟩ := Zg aa
   refine Za rfl rfl (Exec.index_rep S24 rfl aC ab (y.mono (Zt t a7)) aH ?_)
   intro aT bg ap
   refine Za rfl rfl (Zw (E := (encInt .i64)) a0 A3 rfl rfl rfl ap ?_)
   intro bp aI
   obtain rfl := encInt_val.1 aI
   refine Za rfl rfl (Zo (v := Vi ((af : Int))) rfl rfl (Za rfl rfl (Zo (v := Vi (aM)) rfl rfl (Zb (Ze (Zc ?_))))))
   cases aa
  intro bn bb bv au a5
  obtain ⟨aK, a8, a1, aE, aF, ah, aN⟩ := au
  refine Zc (Zd (Za rfl rfl (Zq rfl aN ah (Zb (Ze (Zc (W_false (Zx (decide_eq_false (by omega))) (W_exit (at_exit (at_exit (ib_here (Ze ?_))))))))))))
  refine ⟨_, .inl a5, ?_⟩; exact ⟨aK, a8, a1, aE, aF, ah⟩
 rintro bc bw ⟨bo, ae, aw⟩
 have hm := ae.elim (a4 _) (a3 _)
 clear ae
 obtain ⟨aL, a9, a2, bi, bj, bk⟩ := aw
 refine (Ze (Zc (Zd (Za rfl rfl (Zo (v := Value.bool (true)) rfl rfl (Zb (Ze (W_ret ?_))))))))
 have aY := Zu hm
 subst r
 refine ⟨_, ret1 rfl, ?_⟩
 exact ⟨aL, (Zt t a9), (a2).drop, rfl⟩
theorem Z161 : tyZero Tryz.prog 161 = some (Value.nilFunc) := by kernel_rfl
theorem A161 : tyAgg Tryz.prog 161 = some (false, 1) := by kernel_rfl
theorem N94 : (Tryz.f94.name == "runtime.NumGoroutine") = false := by kernel_rfl
theorem ground_holds_c1_sim {w0 w : World} {s : PHeap} {H : List Res} {b : Int} {a : GState} {f g : Nat} {r : Bool} (hm : ground_holds_c1_p b a = some r) (hS : St w0 s (H) w) (i : At s f g encGState a) :
  Calls Tryz.prog 94 #[Vi (b), Value.pointer (some ⟨f, g, none⟩)] w fun e w' => ∃ v, e = .returned v ∧ ((fun (q : Bool) => ∃ (h : PHeap) , PHeap.le s h ∧ St w0 h (H) w' ∧ v = Value.bool (q)) r) := by
 unfold ground_holds_c1_p at hm
 refine calls_of_W Tryz.func94 rfl rfl (Zc (Zd (Za rfl rfl (Zo (v := Value.bool (false)) rfl rfl (Zb (Ze (Zc (Zd (Za rfl rfl (Zp F58_0 rfl rfl rfl (Za rfl rfl (Zw (E := (encSlice (encInt .i64))) hS A24 rfl rfl rfl (i.sub (Sub.iso (Sub.fst (Sub.refl _))) rfl) ?_))))))))))))
 intro u l
 have n : SliceRep _ _ _ (a.True) := encSlice_val.1 l
 refine Za rfl rfl (Zm (v := Vi (b)) rfl rfl ?_)
 obtain ⟨p, m, hm⟩ := Zg hm
 obtain ⟨c, d⟩ := p
 replace hm := un2_eq hm
 refine Za rfl rfl (Tc rfl rfl rfl (Zi rfl (Zi rfl args_nil)) (slices_BinarySearch_int_sim m hS n).r ?_)
 rintro _ x ⟨o, k, j, rfl⟩
 refine Za rfl rfl (Zm (v := Value.tuple #[Vi (c), Value.bool (d)]) rfl rfl (Za rfl rfl (Exec.extract (v := Vi (c)) rfl rfl rfl (Za rfl rfl (Exec.extract (v := Value.bool (d)) rfl rfl rfl (Za rfl rfl (Zo (v := Vi (c)) rfl rfl (Za rfl rfl (Zo (v := Value.bool (d)) rfl rfl (Zb (Ze (Zc (Zd (WL_passes 2 rfl (Zb (Ze (W_ret ?_)))))))))))))))))
 have t := Zu hm
 subst r
 refine ⟨_, ret1 rfl, ?_⟩
 exact ⟨o, k, j, rfl⟩
theorem N96 : (Tryz.f96.name == "runtime.NumGoroutine") = false := by kernel_rfl
theorem ground_holds_c2_sim {w0 w : World} {s : PHeap} {H : List Res} {c : Int} {f : GState} {a : Nat} {b d : Nat} {r : Bool} (hm : ground_holds_c2_p c f = some r) (hS : St w0 s (Res.box a 161 [Value.func (.func 94) #[] #[Value.pointer (some ⟨b, d, none⟩)]] :: H) w) (h : At s b d encGState f) :
  Calls Tryz.prog 96 #[Vi (c), Value.pointer (some ⟨a, 0, none⟩)] w fun e w' => ∃ v, e = .returned v ∧ ((fun (m : Bool) => ∃ (g : PHeap) , PHeap.le s g ∧ St w0 g (Res.box a 161 [Value.func (.func 94) #[] #[Value.pointer (some ⟨b, d, none⟩)]] :: H) w' ∧ v = Value.bool (m)) r) := by
 unfold ground_holds_c2_p at hm
 refine calls_of_W Tryz.func96 rfl rfl (Zc (Zd (Za rfl rfl (Zo (v := Value.bool (false)) rfl rfl (Zb (Ze (Zc (Zd (Za rfl rfl (Zn (hS) A161 rfl rfl rfl (Za rfl rfl (Zm (v := Vi (c)) rfl rfl ?_))))))))))))
 obtain ⟨n, k, hm⟩ := Zg hm
 refine Za rfl rfl (Exec.callc rfl rfl Tryz.func94 rfl N94 (Zi rfl args_nil) rfl ((ground_holds_c1_sim k hS h).mono ?_))
 rintro _ p ⟨_, rfl, ⟨l, j, i, rfl⟩⟩
 refine ⟨_, rfl, ?_⟩
 refine Za rfl rfl (Exec.not rfl rfl (Za rfl rfl (Zo (v := Value.bool (!n)) rfl rfl (Zb (Ze (W_ret ?_))))))
 have o := Zu hm
 subst r
 refine ⟨_, ret1 rfl, ?_⟩
 exact ⟨l, j, i, rfl⟩
theorem slices_IndexFunc_int_holds_c2_sim {w0 w : World} {s : PHeap} {H : List Res} {m : (List Int)} {p : GState} {d : Value} {b : Nat} {g j : Nat} {r : Int} (hm : slices_IndexFunc_int_holds_c2_p m p = some r) (hS : St w0 s (Res.box b 161 [Value.func (.func 94) #[] #[Value.pointer (some ⟨g, j, none⟩)]] :: H) w) (n : SliceRep (encInt .i64) s d m) (ai : At s g j encGState p) :
  Calls Tryz.prog 116 #[d, Value.func (.func 96) #[] #[Value.pointer (some ⟨b, 0, none⟩)]] w fun e w' => ∃ v, e = .returned v ∧ ((fun (a9 : Int) => ∃ (ae : PHeap) , PHeap.le s ae ∧ St w0 ae (Res.box b 161 [Value.func (.func 94) #[] #[Value.pointer (some ⟨g, j, none⟩)]] :: H) w' ∧ v = Vi (a9)) r) := by
 unfold slices_IndexFunc_int_holds_c2_p at hm
 refine calls_of_W Tryz.func116 rfl rfl (Zc (Zd (Za rfl rfl (Zo (v := Vi (0)) rfl rfl (Zb (Ze (Zc (Zc (Zd (Za rfl rfl (Zm (v := d) rfl rfl (Za rfl rfl (Zr S24 rfl rfl n (Za rfl rfl (Zm (v := Vi (0)) rfl rfl (Zb (Ze ?_)))))))))))))))))
 obtain ⟨q, ak, aw, au, aq⟩ := ctl_some hm
 refine W_mid (M := fun f' w' => ∃ s', (q = .next s' ∨ q = .brk s') ∧ (fun (_ : Unit) => ∃ (af : PHeap) , PHeap.le s af ∧ St w0 af (Res.box b 161 [Value.func (.func 94) #[] #[Value.pointer (some ⟨g, j, none⟩)]] :: H) w' ∧ f' 0 = d ∧ f' 1 = Value.func (.func 96) #[] #[Value.pointer (some ⟨b, 0, none⟩)] ∧ f' 7 = Vi ((m.length : Int))) s') ?_ ?_
 ·refine W_block (W_forC (fun k' s' f' w' => (fun (_ : Unit) => ∃ (ag : PHeap) , PHeap.le s ag ∧ St w0 ag (Res.box b 161 [Value.func (.func 94) #[] #[Value.pointer (some ⟨g, j, none⟩)]] :: H) w' ∧ f' 0 = d ∧ f' 1 = Value.func (.func 96) #[] #[Value.pointer (some ⟨b, 0, none⟩)] ∧ f' 7 = Vi ((m.length : Int)) ∧ f' 8 = Vi (k' : Int)) s') ak ?_ ?_ ?_)
  ·exact ⟨s, (Zv _), hS, rfl, rfl, rfl, rfl⟩
  ·intro c aN t aF aR ar al a ax
   obtain ⟨aM, l, u, aa, ab, ac, o⟩ := al
   refine Zc (Zd (Za rfl rfl (Zq rfl o ac (Zb (Ze (Zc (W_true (Zx (decide_eq_true (by omega))) (W_skip (Ze (Zc (W_block (Zc (Zd (Za rfl rfl (Zm (v := Vi ((c : Int))) rfl o (Za rfl rfl (Zo (v := Vi ((c : Int))) rfl rfl (Zb (Ze (Zc (Zd (Za rfl rfl (Zm (v := Value.func (.func 96) #[] #[Value.pointer (some ⟨b, 0, none⟩)]) rfl ab (Za rfl rfl (Zm (v := d) rfl aa (Za rfl rfl (Zm (v := Vi ((c : Int))) rfl rfl ?_)))))))))))))))))))))))))))
   obtain ⟨aV, a3, a⟩ := Zg a
   refine Za rfl rfl (Exec.index_rep S24 rfl rfl rfl (n.mono l) a3 ?_)
   intro aA aI aj
   refine Za rfl rfl (Zw (E := (encInt .i64)) u A3 rfl rfl rfl aj ?_)
   intro aQ a4
   obtain rfl := encInt_val.1 a4
   obtain ⟨aW, a5, a⟩ := Zg a
   refine Za rfl rfl (Exec.callc rfl rfl Tryz.func96 rfl N96 (Zi rfl args_nil) rfl ((ground_holds_c2_sim a5 u (ai.mono l)).mono ?_))
   rintro _ aS ⟨_, rfl, ⟨ah, z, x, rfl⟩⟩
   refine ⟨_, rfl, ?_⟩
   refine Zb (Ze ?_)
   rcases ite_some a with ⟨i, a⟩ | ⟨i, a⟩
   ·refine W_cond_t rfl i (Zc (Zd (Za rfl rfl (Zm (v := Vi ((c : Int))) rfl rfl (Za rfl rfl (Zo (v := Vi ((c : Int))) rfl rfl (Zb (Ze (W_ret (ib_ret (at_ret (at_ret (ib_ret (at_ret (at_ret ?_)))))))))))))))
    have aB := Zu a
    subst t
    have av := aw _ (ax (by intro _ h; cases h))
    have aC := Zu av
    subst r
    refine ⟨_, ret1 rfl, ?_⟩
    exact ⟨ah, (Zt l z), x, rfl⟩
   refine W_cond_f rfl i ?_
   replace i := Zk i
   refine W_skip (ib_normal (Ze (Zd (Za rfl rfl (Exec.add rfl o rfl (Za rfl rfl (Zm (v := Vi (IntKind.i64.wrap ((c : Int) + 1))) rfl rfl (Zb (Ze ?_)))))))))
   have aD := Zu a
   subst t
   refine ⟨_, rfl, ?_⟩; exact ⟨ah, (Zt l z), x, aa, ab, ac, (Eq.trans rfl (wrap_up ar (SliceRep.le n)))⟩
  intro aO aG aT am ay
  obtain ⟨a6, az, ao, a1, a2, ad, a8⟩ := am
  refine Zc (Zd (Za rfl rfl (Zq rfl a8 ad (Zb (Ze (Zc (W_false (Zx (decide_eq_false (by omega))) (W_exit (at_exit (at_exit (ib_here (Ze ?_))))))))))))
  refine ⟨_, .inl ay, ?_⟩; exact ⟨a6, az, ao, a1, a2, ad⟩
 rintro aH aU ⟨aP, y, an⟩
 have hm := y.elim (au _) (aq _)
 clear y
 obtain ⟨a7, a0, ap, aJ, aK, aL⟩ := an
 refine (Ze (Zc (Zd (Za rfl rfl (Zo (v := Vi ((-1))) rfl rfl (Zb (Ze (W_ret ?_))))))))
 have aE := Zu hm
 subst r
 refine ⟨_, ret1 rfl, ?_⟩
 exact ⟨a7, a0, ap, rfl⟩
theorem slices_ContainsFunc_int_holds_c2_sim {w0 w : World} {s : PHeap} {H : List Res} {h : (List Int)} {f : GState} {d : Value} {a : Nat} {b c : Nat} {r : Bool} (hm : slices_ContainsFunc_int_holds_c2_p h f = some r) (hS : St w0 s (Res.box a 161 [Value.func (.func 94) #[] #[Value.pointer (some ⟨b, c, none⟩)]] :: H) w) (i : SliceRep (encInt .i64) s d h) (j : At s b c encGState f) :
  Calls Tryz.prog 95 #[d, Value.func (.func 96) #[] #[Value.pointer (some ⟨a, 0, none⟩)]] w fun e w' => ∃ v, e = .returned v ∧ ((fun (o : Bool) => ∃ (g : PHeap) , PHeap.le s g ∧ St w0 g (Res.box a 161 [Value.func (.func 94) #[] #[Value.pointer (some ⟨b, c, none⟩)]] :: H) w' ∧ v = Value.bool (o)) r) := by
 unfold slices_ContainsFunc_int_holds_c2_p at hm
 refine calls_of_W Tryz.func95 rfl rfl (Zc (Zd (Za rfl rfl (Zo (v := Value.bool (false)) rfl rfl (Zb (Ze (Zc (Zd (Za rfl rfl (Zm (v := d) rfl rfl (Za rfl rfl (Zm (v := Value.func (.func 96) #[] #[Value.pointer (some ⟨a, 0, none⟩)]) rfl rfl ?_))))))))))))
 obtain ⟨p, m, hm⟩ := Zg hm
 refine Za rfl rfl (Tc rfl rfl rfl (Zi rfl (Zi rfl args_nil)) (slices_IndexFunc_int_holds_c2_sim m hS i j).r ?_)
 rintro _ t ⟨n, l, k, rfl⟩
 refine Za rfl rfl (Exec.geq rfl rfl rfl (Za rfl rfl (Zo (v := Value.bool (decide (0 ≤ p))) rfl rfl (Zb (Ze (W_ret ?_))))))
 have q := Zu hm
 subst r
 refine ⟨_, ret1 rfl, ?_⟩
 exact ⟨n, l, k, rfl⟩
theorem slices_IndexFunc_int_holds_c1_sim {w0 w : World} {s : PHeap} {H : List Res} {l : (List Int)} {o : GState} {c : Value} {d i : Nat} {r : Int} (hm : slices_IndexFunc_int_holds_c1_p l o = some r) (hS : St w0 s (H) w) (m : SliceRep (encInt .i64) s c l) (ah : At s d i encGState o) :
  Calls Tryz.prog 116 #[c, Value.func (.func 94) #[] #[Value.pointer (some ⟨d, i, none⟩)]] w fun e w' => ∃ v, e = .returned v ∧ ((fun (a8 : Int) => ∃ (ad : PHeap) , PHeap.le s ad ∧ St w0 ad (H) w' ∧ v = Vi (a8)) r) := by
 unfold slices_IndexFunc_int_holds_c1_p at hm
 refine calls_of_W Tryz.func116 rfl rfl (Zc (Zd (Za rfl rfl (Zo (v := Vi (0)) rfl rfl (Zb (Ze (Zc (Zc (Zd (Za rfl rfl (Zm (v := c) rfl rfl (Za rfl rfl (Zr S24 rfl rfl m (Za rfl rfl (Zm (v := Vi (0)) rfl rfl (Zb (Ze ?_)))))))))))))))))
 obtain ⟨p, aj, av, ar, ap⟩ := ctl_some hm
 refine W_mid (M := fun f' w' => ∃ s', (p = .next s' ∨ p = .brk s') ∧ (fun (_ : Unit) => ∃ (ae : PHeap) , PHeap.le s ae ∧ St w0 ae (H) w' ∧ f' 0 = c ∧ f' 1 = Value.func (.func 94) #[] #[Value.pointer (some ⟨d, i, none⟩)] ∧ f' 7 = Vi ((l.length : Int))) s') ?_ ?_
 ·refine W_block (W_forC (fun k' s' f' w' => (fun (_ : Unit) => ∃ (af : PHeap) , PHeap.le s af ∧ St w0 af (H) w' ∧ f' 0 = c ∧ f' 1 = Value.func (.func 94) #[] #[Value.pointer (some ⟨d, i, none⟩)] ∧ f' 7 = Vi ((l.length : Int)) ∧ f' 8 = Vi (k' : Int)) s') aj ?_ ?_ ?_)
  ·exact ⟨s, (Zv _), hS, rfl, rfl, rfl, rfl⟩
  ·intro b aM q aE aQ aq ak a aw
   obtain ⟨aL, j, t, z, aa, ab, n⟩ := ak
   refine Zc (Zd (Za rfl rfl (Zq rfl n ab (Zb (Ze (Zc (W_true (Zx (decide_eq_true (by omega))) (W_skip (Ze (Zc (W_block (Zc (Zd (Za rfl rfl (Zm (v := Vi ((b : Int))) rfl n (Za rfl rfl (Zo (v := Vi ((b : Int))) rfl rfl (Zb (Ze (Zc (Zd (Za rfl rfl (Zm (v := Value.func (.func 94) #[] #[Value.pointer (some ⟨d, i, none⟩)]) rfl aa (Za rfl rfl (Zm (v := c) rfl z (Za rfl rfl (Zm (v := Vi ((b : Int))) rfl rfl ?_)))))))))))))))))))))))))))
   obtain ⟨aU, a2, a⟩ := Zg a
   refine Za rfl rfl (Exec.index_rep S24 rfl rfl rfl (m.mono j) a2 ?_)
   intro a9 aH ai
   refine Za rfl rfl (Zw (E := (encInt .i64)) t A3 rfl rfl rfl ai ?_)
   intro aP a3
   obtain rfl := encInt_val.1 a3
   obtain ⟨aV, a4, a⟩ := Zg a
   refine Za rfl rfl (Exec.callc rfl rfl Tryz.func94 rfl N94 (Zi rfl args_nil) rfl ((ground_holds_c1_sim a4 t (ah.mono j)).mono ?_))
   rintro _ aR ⟨_, rfl, ⟨ag, y, u, rfl⟩⟩
   refine ⟨_, rfl, ?_⟩
   refine Zb (Ze ?_)
   rcases ite_some a with ⟨g, a⟩ | ⟨g, a⟩
   ·refine W_cond_t rfl g (Zc (Zd (Za rfl rfl (Zm (v := Vi ((b : Int))) rfl rfl (Za rfl rfl (Zo (v := Vi ((b : Int))) rfl rfl (Zb (Ze (W_ret (ib_ret (at_ret (at_ret (ib_ret (at_ret (at_ret ?_)))))))))))))))
    have aA := Zu a
    subst q
    have au := av _ (aw (by intro _ h; cases h))
    have aB := Zu au
    subst r
    refine ⟨_, ret1 rfl, ?_⟩
    exact ⟨ag, (Zt j y), u, rfl⟩
   refine W_cond_f rfl g ?_
   replace g := Zk g
   refine W_skip (ib_normal (Ze (Zd (Za rfl rfl (Exec.add rfl n rfl (Za rfl rfl (Zm (v := Vi (IntKind.i64.wrap ((b : Int) + 1))) rfl rfl (Zb (Ze ?_)))))))))
   have aC := Zu a
   subst q
   refine ⟨_, rfl, ?_⟩; exact ⟨ag, (Zt j y), u, z, aa, ab, (Eq.trans rfl (wrap_up aq (SliceRep.le m)))⟩
  intro aN aF aS al ax
  obtain ⟨a5, ay, an, a0, a1, ac, a7⟩ := al
  refine Zc (Zd (Za rfl rfl (Zq rfl a7 ac (Zb (Ze (Zc (W_false (Zx (decide_eq_false (by omega))) (W_exit (at_exit (at_exit (ib_here (Ze ?_))))))))))))
  refine ⟨_, .inl ax, ?_⟩; exact ⟨a5, ay, an, a0, a1, ac⟩
 rintro aG aT ⟨aO, x, am⟩
 have hm := x.elim (ar _) (ap _)
 clear x
 obtain ⟨a6, az, ao, aI, aJ, aK⟩ := am
 refine (Ze (Zc (Zd (Za rfl rfl (Zo (v := Vi ((-1))) rfl rfl (Zb (Ze (W_ret ?_))))))))
 have aD := Zu hm
 subst r
 refine ⟨_, ret1 rfl, ?_⟩
 exact ⟨a6, az, ao, rfl⟩
theorem slices_ContainsFunc_int_holds_c1_sim {w0 w : World} {s : PHeap} {H : List Res} {g : (List Int)} {d : GState} {c : Value} {a b : Nat} {r : Bool} (hm : slices_ContainsFunc_int_holds_c1_p g d = some r) (hS : St w0 s (H) w) (h : SliceRep (encInt .i64) s c g) (i : At s a b encGState d) :
  Calls Tryz.prog 95 #[c, Value.func (.func 94) #[] #[Value.pointer (some ⟨a, b, none⟩)]] w fun e w' => ∃ v, e = .returned v ∧ ((fun (n : Bool) => ∃ (f : PHeap) , PHeap.le s f ∧ St w0 f (H) w' ∧ v = Value.bool (n)) r) := by
 unfold slices_ContainsFunc_int_holds_c1_p at hm
 refine calls_of_W Tryz.func95 rfl rfl (Zc (Zd (Za rfl rfl (Zo (v := Value.bool (false)) rfl rfl (Zb (Ze (Zc (Zd (Za rfl rfl (Zm (v := c) rfl rfl (Za rfl rfl (Zm (v := Value.func (.func 94) #[] #[Value.pointer (some ⟨a, b, none⟩)]) rfl rfl ?_))))))))))))
 obtain ⟨o, l, hm⟩ := Zg hm
 refine Za rfl rfl (Tc rfl rfl rfl (Zi rfl (Zi rfl args_nil)) (slices_IndexFunc_int_holds_c1_sim l hS h i).r ?_)
 rintro _ q ⟨m, k, j, rfl⟩
 refine Za rfl rfl (Exec.geq rfl rfl rfl (Za rfl rfl (Zo (v := Value.bool (decide (0 ≤ o))) rfl rfl (Zb (Ze (W_ret ?_))))))
 have p := Zu hm
 subst r
 refine ⟨_, ret1 rfl, ?_⟩
 exact ⟨m, k, j, rfl⟩
theorem F127_1 : tyField Tryz.prog 127 1 = some 1 := by kernel_rfl
theorem A102 : tyAgg Tryz.prog 102 = some (true, 3) := by kernel_rfl
theorem F102_0 : tyField Tryz.prog 102 0 = some 0 := by kernel_rfl
theorem F102_1 : tyField Tryz.prog 102 1 = some 1 := by kernel_rfl
theorem F102_2 : tyField Tryz.prog 102 2 = some 2 := by kernel_rfl
theorem A100 : tyAgg Tryz.prog 100 = some (false, 1) := by kernel_rfl
theorem S100 : tySlice Tryz.prog 100 = some (102, 3, 48) := by kernel_rfl
theorem ground_combine_sim {w0 w : World} {s : PHeap} {H : List Res} {p : ByteArray} {a : Int} {b : Int}  {r : Int × Bool} (hm : ground_combine_p p a b = some r) (hS : St w0 s (H) w)  :
  Calls Tryz.prog 127 #[Value.string (p), Vi (a), Vi (b)] w fun e w' => ∃ v, e = .returned v ∧ ((un2 fun (a5 : Int) (a6 : Bool) => ∃ (ac : PHeap) , PHeap.le s ac ∧ St w0 ac (H) w' ∧ v = Value.tuple #[Vi (a5), Value.bool (a6)]) r) := by
 unfold ground_combine_p at hm
 refine calls_of_W Tryz.func127 rfl rfl (Zc (Zd (Za rfl rfl (Zo (v := Vi (0)) rfl rfl (Za rfl rfl (Zo (v := Value.bool (false)) rfl rfl (Zb (Ze (Zc (Zd (Za rfl rfl (Zo (v := Vi (0)) rfl rfl (Zb (Ze (Zc (Zc (Zd (Za rfl rfl (Zm (v := Value.string (p)) rfl rfl (Zb (Ze (W_block (Zc (Zd (Za rfl rfl (Exec.str_eql rfl rfl rfl (Za rfl rfl (Zo (v := Value.bool (decide (p = (⟨#[43]⟩)))) rfl rfl (Zb (Ze ?_))))))))))))))))))))))))))))))
 rcases ite_some hm with ⟨j, hm⟩ | ⟨j, hm⟩
 ·refine W_cond_t rfl j (Zd (Za rfl rfl (Zm (v := Vi (a)) rfl rfl (Za rfl rfl (Zm (v := Vi (b)) rfl rfl (Za rfl rfl (Exec.add rfl rfl rfl (Za rfl rfl (Zo (v := Vi (IntKind.i64.wrap (a + b))) rfl rfl (Zb (ib_normal (Ze (Zc ?_)))))))))))))
  obtain ⟨q, m, hm⟩ := Zg hm
  refine W_mid (M := fun f' w' => (fun (q : Bool) => ∃ (ad : PHeap) , PHeap.le s ad ∧ St w0 ad (H) w' ∧ f' 6 = Vi (IntKind.i64.wrap (a + b)) ∧ f' 7 = Value.bool (q)) q) ?_ ?_
  ·refine Zd (Za rfl rfl (Zm (v := Vi (IntKind.i64.wrap (a + b))) rfl rfl (Za rfl rfl (Zm (v := Vi (IntKind.i64.wrap (a + b))) rfl rfl (Za rfl rfl (Exec.geq rfl rfl rfl (Za rfl rfl (Zm (v := Value.bool (decide ((-1099511627776) ≤ (IntKind.i64.wrap (a + b))))) rfl rfl ?_))))))))
   rcases ite_some m with ⟨d, m⟩ | ⟨d, m⟩
   ·refine WL_run rfl (Zf rfl (Zx d)) rfl (Zm (v := Vi (IntKind.i64.wrap (a + b))) rfl rfl (WL_run rfl (Zf rfl (Zx d)) rfl (Exec.leq rfl rfl rfl (Za rfl rfl (Zs (v := Value.bool (decide ((IntKind.i64.wrap (a + b)) ≤ 1099511627776))) rfl (Zx d) rfl (Za rfl rfl (Zo (v := Vi (IntKind.i64.wrap (a + b))) rfl rfl (Za rfl rfl (Zo (v := Value.bool (decide ((IntKind.i64.wrap (a + b)) ≤ 1099511627776))) rfl rfl (Zb (Ze ?_)))))))))))
    have a7 := Zu m
    subst q
    exact ⟨s, (Zv _), hS, rfl, rfl⟩
   replace d := Zk d
   refine WL_passes 3 (by rw [d]; rfl) ?_
   refine Za rfl rfl (Zo (v := Vi (IntKind.i64.wrap (a + b))) rfl rfl (Za rfl rfl (Zo (v := Value.bool (false)) rfl rfl (Zb (Ze ?_)))))
   have a8 := Zu m
   subst q
   exact ⟨s, (Zv _), hS, rfl, rfl⟩
  intro aJ aO ah
  obtain ⟨a2, ao, al, ar, au⟩ := ah
  refine (Ze (W_ret ?_))
  have a9 := Zu hm
  subst r
  refine ⟨_, ret2 rfl, ?_⟩
  exact ⟨a2, ao, al, (tup2 ar au)⟩
 refine W_cond_f rfl j ?_
 replace j := Zk j
 refine Zc (Zd (Za rfl rfl (Exec.str_eql rfl rfl rfl (Za rfl rfl (Zo (v := Value.bool (decide (p = (⟨#[45]⟩)))) rfl rfl (Zb (Ze ?_)))))))
 rcases ite_some hm with ⟨k, hm⟩ | ⟨k, hm⟩
 ·refine W_cond_t rfl k (Zd (Za rfl rfl (Zm (v := Vi (a)) rfl rfl (Za rfl rfl (Zm (v := Vi (b)) rfl rfl (Za rfl rfl (Exec.sub rfl rfl rfl (Za rfl rfl (Zo (v := Vi (IntKind.i64.wrap (a - b))) rfl rfl (Zb (ib_normal (Ze (Zc ?_)))))))))))))
  obtain ⟨t, n, hm⟩ := Zg hm
  refine W_mid (M := fun f' w' => (fun (t : Bool) => ∃ (ae : PHeap) , PHeap.le s ae ∧ St w0 ae (H) w' ∧ f' 6 = Vi (IntKind.i64.wrap (a - b)) ∧ f' 7 = Value.bool (t)) t) ?_ ?_
  ·refine Zd (Za rfl rfl (Zm (v := Vi (IntKind.i64.wrap (a - b))) rfl rfl (Za rfl rfl (Zm (v := Vi (IntKind.i64.wrap (a - b))) rfl rfl (Za rfl rfl (Exec.geq rfl rfl rfl (Za rfl rfl (Zm (v := Value.bool (decide ((-1099511627776) ≤ (IntKind.i64.wrap (a - b))))) rfl rfl ?_))))))))
   rcases ite_some n with ⟨g, n⟩ | ⟨g, n⟩
   ·refine WL_run rfl (Zf rfl (Zx g)) rfl (Zm (v := Vi (IntKind.i64.wrap (a - b))) rfl rfl (WL_run rfl (Zf rfl (Zx g)) rfl (Exec.leq rfl rfl rfl (Za rfl rfl (Zs (v := Value.bool (decide ((IntKind.i64.wrap (a - b)) ≤ 1099511627776))) rfl (Zx g) rfl (Za rfl rfl (Zo (v := Vi (IntKind.i64.wrap (a - b))) rfl rfl (Za rfl rfl (Zo (v := Value.bool (decide ((IntKind.i64.wrap (a - b)) ≤ 1099511627776))) rfl rfl (Zb (Ze ?_)))))))))))
    have aA := Zu n
    subst t
    exact ⟨s, (Zv _), hS, rfl, rfl⟩
   replace g := Zk g
   refine WL_passes 3 (by rw [g]; rfl) ?_
   refine Za rfl rfl (Zo (v := Vi (IntKind.i64.wrap (a - b))) rfl rfl (Za rfl rfl (Zo (v := Value.bool (false)) rfl rfl (Zb (Ze ?_)))))
   have aB := Zu n
   subst t
   exact ⟨s, (Zv _), hS, rfl, rfl⟩
  intro aK aP ai
  obtain ⟨a3, ap, am, av, aw⟩ := ai
  refine (Ze (W_ret ?_))
  have aC := Zu hm
  subst r
  refine ⟨_, ret2 rfl, ?_⟩
  exact ⟨a3, ap, am, (tup2 av aw)⟩
 refine W_cond_f rfl k ?_
 replace k := Zk k
 refine Zc (Zc ?_)
 obtain ⟨u, i, hm⟩ := Zg hm
 refine W_mid (M := fun f' w' => (fun (u : Bool) => ∃ (af : PHeap) , PHeap.le s af ∧ St w0 af (H) w' ∧ f' 1 = Vi (a) ∧ f' 2 = Vi (b) ∧ f' 23 = Value.bool (u)) u) ?_ ?_
 ·refine Zd (Za rfl rfl (Zm (v := Vi (a)) rfl rfl (Za rfl rfl (Exec.neq rfl rfl rfl (Za rfl rfl (Zm (v := Value.bool (!decide (a = 0))) rfl rfl ?_))))))
  rcases ite_some i with ⟨c, i⟩ | ⟨c, i⟩
  ·refine WL_run rfl (Zf rfl (Zx c)) rfl (Zm (v := Vi (b)) rfl rfl (WL_run rfl (Zf rfl (Zx c)) rfl (Zm (v := Vi (b)) rfl rfl (WL_run rfl (Zf rfl (Zx c)) rfl (Exec.neg rfl rfl (WL_run rfl (Zf rfl (Zx c)) rfl (Exec.max2 rfl rfl rfl (WL_run rfl (Zf rfl (Zx c)) rfl (Zm (v := Vi (a)) rfl rfl (WL_run rfl (Zf rfl (Zx c)) rfl (Zm (v := Vi (a)) rfl rfl (WL_run rfl (Zf rfl (Zx c)) rfl (Exec.neg rfl rfl (WL_run rfl (Zf rfl (Zx c)) rfl (Exec.max2 rfl rfl rfl ?_)))))))))))))))
   obtain ⟨aN, a1, i⟩ := Zg i
   refine WL_run rfl (Zf rfl (Zx c)) rfl (Exec.quo rfl rfl rfl (by simpa using must_some a1) (WL_run rfl (Zf rfl (Zx c)) rfl (Exec.gtr rfl rfl rfl (Za rfl rfl (Zs (v := Value.bool (decide ((IntKind.i64.wrap ((1099511627776 : Int).tdiv (max a (IntKind.i64.wrap (0 - a))))) < (max b (IntKind.i64.wrap (0 - b)))))) rfl (Zx c) rfl (Zb (Ze ?_)))))))
   have aD := Zu i
   subst u
   exact ⟨s, (Zv _), hS, rfl, rfl, rfl⟩
  replace c := Zk c
  refine WL_passes 11 (by rw [c]; rfl) ?_
  refine Zb (Ze ?_)
  have aE := Zu i
  subst u
  exact ⟨s, (Zv _), hS, rfl, rfl, rfl⟩
 intro aL aQ aj
 obtain ⟨y, aa, z, ax, ay, ab⟩ := aj
 refine (Ze ?_)
 rcases ite_some hm with ⟨l, hm⟩ | ⟨l, hm⟩
 ·refine W_cond_t ab l (Zc (Zd (Za rfl rfl (Zo (v := Vi (0)) rfl rfl (Za rfl rfl (Zo (v := Value.bool (false)) rfl rfl (Zb (Ze (W_ret (at_ret (ib_ret (at_ret ?_))))))))))))
  have aF := Zu hm
  subst r
  refine ⟨_, ret2 rfl, ?_⟩
  exact ⟨y, aa, z, (tup2 rfl rfl)⟩
 refine W_cond_f ab l ?_
 replace l := Zk l
 refine W_skip (Ze (Zd (Za rfl rfl (Zm (v := Vi (a)) rfl ax (Za rfl rfl (Zm (v := Vi (b)) rfl ay (Za rfl rfl (Exec.mul rfl rfl rfl (Za rfl rfl (Zo (v := Vi (IntKind.i64.wrap (a * b))) rfl rfl (Zb (ib_normal (Ze (Zc ?_))))))))))))))
 obtain ⟨x, o, hm⟩ := Zg hm
 refine W_mid (M := fun f' w' => (fun (x : Bool) => ∃ (ag : PHeap) , PHeap.le y ag ∧ St w0 ag (H) w' ∧ f' 6 = Vi (IntKind.i64.wrap (a * b)) ∧ f' 7 = Value.bool (x)) x) ?_ ?_
 ·refine Zd (Za rfl rfl (Zm (v := Vi (IntKind.i64.wrap (a * b))) rfl rfl (Za rfl rfl (Zm (v := Vi (IntKind.i64.wrap (a * b))) rfl rfl (Za rfl rfl (Exec.geq rfl rfl rfl (Za rfl rfl (Zm (v := Value.bool (decide ((-1099511627776) ≤ (IntKind.i64.wrap (a * b))))) rfl rfl ?_))))))))
  rcases ite_some o with ⟨h, o⟩ | ⟨h, o⟩
  ·refine WL_run rfl (Zf rfl (Zx h)) rfl (Zm (v := Vi (IntKind.i64.wrap (a * b))) rfl rfl (WL_run rfl (Zf rfl (Zx h)) rfl (Exec.leq rfl rfl rfl (Za rfl rfl (Zs (v := Value.bool (decide ((IntKind.i64.wrap (a * b)) ≤ 1099511627776))) rfl (Zx h) rfl (Za rfl rfl (Zo (v := Vi (IntKind.i64.wrap (a * b))) rfl rfl (Za rfl rfl (Zo (v := Value.bool (decide ((IntKind.i64.wrap (a * b)) ≤ 1099511627776))) rfl rfl (Zb (Ze ?_)))))))))))
   have aG := Zu o
   subst x
   exact ⟨y, (Zv _), z, rfl, rfl⟩
  replace h := Zk h
  refine WL_passes 3 (by rw [h]; rfl) ?_
  refine Za rfl rfl (Zo (v := Vi (IntKind.i64.wrap (a * b))) rfl rfl (Za rfl rfl (Zo (v := Value.bool (false)) rfl rfl (Zb (Ze ?_)))))
  have aH := Zu o
  subst x
  exact ⟨y, (Zv _), z, rfl, rfl⟩
 intro aM aR ak
 obtain ⟨a4, aq, an, az, a0⟩ := ak
 refine (Ze (W_ret ?_))
 have aI := Zu hm
 subst r
 refine ⟨_, ret2 rfl, ?_⟩
 exact ⟨a4, (Zt aa aq), an, (tup2 az a0)⟩
theorem ground_value_step {fu : Nat} (ih : ∀ {w0 w : World} {s : PHeap} {H : List Res} {f : GState} {a : GExpr} {c : Value} {d : Value} {h : Value} {r : Int × Bool} (hm : ground_value_p fu f a = some r) (hS : St w0 s (H) w) (x : SliceRep (encInt .i64) s c f.True) (o : SliceRep (encInt .i64) s d f.Values) (y : SliceRep encGExpr s h a.Kids), Calls Tryz.prog 105 #[Value.agg #[c, d], Value.agg #[Value.string (a.Op), Vi (a.N), h]] w fun e w' => ∃ v, e = .returned v ∧ ((un2 fun (aa : Int) (ab : Bool) => ∃ (n : PHeap) , PHeap.le s n ∧ St w0 n (H) w' ∧ v = Value.tuple #[Vi (aa), Value.bool (ab)]) r)) {w0 w : World} {s : PHeap} {H : List Res} {f : GState} {a : GExpr} {c : Value} {d : Value} {h : Value} {r : Int × Bool} (hm : ground_value_p (fu + 1) f a = some r) (hS : St w0 s (H) w) (x : SliceRep (encInt .i64) s c f.True) (o : SliceRep (encInt .i64) s d f.Values) (y : SliceRep encGExpr s h a.Kids) :
  Calls Tryz.prog 105 #[Value.agg #[c, d], Value.agg #[Value.string (a.Op), Vi (a.N), h]] w fun e w' => ∃ v, e = .returned v ∧ ((un2 fun (aa : Int) (ab : Bool) => ∃ (n : PHeap) , PHeap.le s n ∧ St w0 n (H) w' ∧ v = Value.tuple #[Vi (aa), Value.bool (ab)]) r) := by
 rw [ground_value_p] at hm
 refine calls_of_W Tryz.func105 rfl rfl (Zc (Zd (Za rfl rfl (Exec.box (cs := [c, d]) hS rfl rfl rfl ?_))))
 intro a5 aP ai
 refine Za rfl rfl (Exec.box (cs := [Value.string (a.Op), Vi (a.N), h]) ai rfl rfl rfl ?_)
 intro a6 aQ b
 refine Za rfl rfl (Zo (v := Vi (0)) rfl rfl (Za rfl rfl (Zo (v := Value.bool (false)) rfl rfl (Zb (Ze (Zc (Zc (Zd (Za rfl rfl (Zp F102_0 rfl rfl rfl (Za rfl rfl (Zn (b) A9 rfl rfl rfl (Zb (Ze (W_block (Zc (Zd (Za rfl rfl (Exec.str_eql rfl rfl rfl (Za rfl rfl (Zo (v := Value.bool (decide (a.Op = (⟨#[110, 117, 109, 98, 101, 114]⟩)))) rfl rfl (Zb (Ze ?_)))))))))))))))))))))))
 rcases ite_some hm with ⟨j, hm⟩ | ⟨j, hm⟩
 ·refine W_cond_t rfl j (Zc (Zd (Za rfl rfl (Zp F102_1 rfl rfl rfl (Za rfl rfl (Zn (b) A3 rfl rfl rfl (Za rfl rfl (Zo (v := Vi (a.N)) rfl rfl (Za rfl rfl (Zo (v := Value.bool (true)) rfl rfl (Zb (Ze (W_ret (ib_ret (at_ret ?_)))))))))))))))
  have aA := Zu hm
  subst r
  refine ⟨_, ret2 rfl, ?_⟩
  exact ⟨s, (Zv _), ((b).drop).drop, (tup2 rfl rfl)⟩
 refine W_cond_f rfl j ?_
 replace j := Zk j
 refine Zc (Zd (Za rfl rfl (Exec.str_eql rfl rfl rfl (Za rfl rfl (Zo (v := Value.bool (decide (a.Op = (⟨#[102, 108, 117, 101, 110, 116]⟩)))) rfl rfl (Zb (Ze ?_)))))))
 rcases ite_some hm with ⟨k, hm⟩ | ⟨k, hm⟩
 ·refine W_cond_t rfl k (Zc (Zd (Za rfl rfl (Zp F58_1 rfl rfl rfl (Za rfl rfl (Zn ((b).f1) A24 rfl rfl rfl (Za rfl rfl (Zp F102_1 rfl rfl rfl (Za rfl rfl (Zn (b) A3 rfl rfl rfl ?_))))))))))
  obtain ⟨a4, al, hm⟩ := Zg hm
  refine Za rfl rfl (Exec.index_rep S24 rfl rfl rfl o al ?_)
  intro a7 aH af
  refine Za rfl rfl (Zw (E := (encInt .i64)) b A3 rfl rfl rfl af ?_)
  intro aM am
  obtain rfl := encInt_val.1 am
  refine Za rfl rfl (Zo (v := Vi (a4)) rfl rfl (Za rfl rfl (Zo (v := Value.bool (true)) rfl rfl (Zb (Ze (W_ret (ib_ret (at_ret ?_))))))))
  have aB := Zu hm
  subst r
  refine ⟨_, ret2 rfl, ?_⟩
  exact ⟨s, (Zv _), ((b).drop).drop, (tup2 rfl rfl)⟩
 refine W_cond_f rfl k ?_
 replace k := Zk k
 refine W_skip (ib_normal (Ze (Zc (W_dl (n0 := 10) (qs 0 5 (.e 5 [] (qs 6 4 .done))) hmix (by kernel_rfl) (by kernel_rfl) (DL_q rfl rfl (Exec.load_box_agg (ds := [c, d]) ((b.drew).f1) A58 rfl rfl rfl ⟨rfl, ?_⟩))))))
 refine DL_q rfl rfl (Zp F102_2 rfl rfl rfl ⟨rfl, ?_⟩)
 refine DL_q rfl rfl (Zn (b.drew) A100 rfl rfl rfl ⟨rfl, ?_⟩)
 obtain ⟨aU, an, hm⟩ := Zg hm
 refine DL_q rfl rfl (Exec.index_repE S100 rfl rfl rfl y an ?_)
 intro a8 aI ag aC
 refine ⟨rfl, ?_⟩
 refine DL_q rfl rfl (Zw (E := encGExpr) b.drew A102 rfl rfl rfl ag ?_)
 intro aN ao
 obtain ⟨aK, rfl, aw⟩ := encGExpr_val.1 ao
 refine ⟨rfl, ?_⟩
 obtain ⟨a1, ap, hm⟩ := Zg hm
 obtain ⟨p, q⟩ := a1
 replace hm := un2_eq hm
 refine DL_e rfl rfl (Tc rfl rfl rfl (Zi rfl (Zi rfl args_nil)) (ih ap b.drew x o aw).r ?_)
 rintro _ aR ⟨ay, g, i, rfl⟩
 refine ⟨ag_nil, ?_⟩
 refine DL_q rfl rfl (Zm (v := Value.tuple #[Vi (p), Value.bool (q)]) rfl rfl ⟨rfl, ?_⟩)
 refine DL_q rfl rfl (Exec.extract (v := Vi (p)) rfl rfl rfl ⟨rfl, ?_⟩)
 refine DL_q rfl rfl (Exec.extract (v := Value.bool (q)) rfl rfl rfl ⟨rfl, ?_⟩)
 refine DL_q rfl rfl (Zo (v := Vi (p)) rfl rfl ⟨rfl, ?_⟩)
 refine DL_done (Za rfl rfl (Zo (v := Value.bool (q)) rfl rfl (Zb (Ze (Zc (Zc (Zd (Za rfl rfl (Zm (v := Value.bool (q)) rfl rfl (Za rfl rfl (Exec.not rfl rfl (Zb (Ze ?_)))))))))))))
 rcases ite_some hm with ⟨l, hm⟩ | ⟨l, hm⟩
 ·refine W_cond_t rfl l (Zc (Zd (Za rfl rfl (Zo (v := Vi (0)) rfl rfl (Za rfl rfl (Zo (v := Value.bool (false)) rfl rfl (Zb (Ze (W_ret (at_ret ?_))))))))))
  have aD := Zu hm
  subst r
  refine ⟨_, ret2 rfl, ?_⟩
  exact ⟨ay, g, ((i).drop).drop, (tup2 rfl rfl)⟩
 refine W_cond_f rfl l ?_
 replace l := Zk l
 refine W_skip (Ze (Zc (W_dl (n0 := 10) (qs 0 5 (.e 5 [] (qs 6 4 .done))) hmix (by kernel_rfl) (by kernel_rfl) (DL_q rfl rfl (Exec.load_box_agg (ds := [c, d]) ((i.drew).f1) A58 rfl rfl rfl ⟨rfl, ?_⟩)))))
 refine DL_q rfl rfl (Zp F102_2 rfl rfl rfl ⟨rfl, ?_⟩)
 refine DL_q rfl rfl (Zn (i.drew) A100 rfl rfl rfl ⟨rfl, ?_⟩)
 obtain ⟨aV, aq, hm⟩ := Zg hm
 refine DL_q rfl rfl (Exec.index_repE S100 rfl rfl rfl (y.mono g) aq ?_)
 intro a9 aJ ah aE
 refine ⟨rfl, ?_⟩
 refine DL_q rfl rfl (Zw (E := encGExpr) i.drew A102 rfl rfl rfl ah ?_)
 intro aO ar
 obtain ⟨aL, rfl, ax⟩ := encGExpr_val.1 ar
 refine ⟨rfl, ?_⟩
 obtain ⟨a2, au, hm⟩ := Zg hm
 obtain ⟨t, u⟩ := a2
 replace hm := un2_eq hm
 refine DL_e rfl rfl (Tc rfl rfl rfl (Zi rfl (Zi rfl args_nil)) (ih au i.drew (x.mono g) (o.mono g) ax).r ?_)
 rintro _ aS ⟨az, ac, z, rfl⟩
 refine ⟨ag_nil, ?_⟩
 refine DL_q rfl rfl (Zm (v := Value.tuple #[Vi (t), Value.bool (u)]) rfl rfl ⟨rfl, ?_⟩)
 refine DL_q rfl rfl (Exec.extract (v := Vi (t)) rfl rfl rfl ⟨rfl, ?_⟩)
 refine DL_q rfl rfl (Exec.extract (v := Value.bool (u)) rfl rfl rfl ⟨rfl, ?_⟩)
 refine DL_q rfl rfl (Zo (v := Vi (t)) rfl rfl ⟨rfl, ?_⟩)
 refine DL_done (Za rfl rfl (Zo (v := Value.bool (u)) rfl rfl (Zb (Ze (Zc (Zc (Zd (Za rfl rfl (Zm (v := Value.bool (u)) rfl rfl (Za rfl rfl (Exec.not rfl rfl (Zb (Ze ?_)))))))))))))
 rcases ite_some hm with ⟨m, hm⟩ | ⟨m, hm⟩
 ·refine W_cond_t rfl m (Zc (Zd (Za rfl rfl (Zo (v := Vi (0)) rfl rfl (Za rfl rfl (Zo (v := Value.bool (false)) rfl rfl (Zb (Ze (W_ret (at_ret ?_))))))))))
  have aF := Zu hm
  subst r
  refine ⟨_, ret2 rfl, ?_⟩
  exact ⟨az, (Zt g ac), ((z).drop).drop, (tup2 rfl rfl)⟩
 refine W_cond_f rfl m ?_
 replace m := Zk m
 refine W_skip (Ze (Zc (Zd (Za rfl rfl (Zp F102_0 rfl rfl rfl (Za rfl rfl (Zn (z) A9 rfl rfl rfl (Za rfl rfl (Zm (v := Vi (p)) rfl rfl (Za rfl rfl (Zm (v := Vi (t)) rfl rfl ?_)))))))))))
 obtain ⟨a3, av, hm⟩ := Zg hm
 obtain ⟨ad, ae⟩ := a3
 replace hm := un2_eq hm
 refine Za rfl rfl (Tc rfl rfl rfl (Zi rfl (Zi rfl (Zi rfl args_nil))) (ground_combine_sim av z ).r ?_)
 rintro _ aT ⟨a0, ak, aj, rfl⟩
 refine Za rfl rfl (Exec.extract (v := Vi (ad)) rfl rfl rfl (Za rfl rfl (Exec.extract (v := Value.bool (ae)) rfl rfl rfl (Za rfl rfl (Zo (v := Vi (ad)) rfl rfl (Za rfl rfl (Zo (v := Value.bool (ae)) rfl rfl (Zb (Ze (W_ret ?_))))))))))
 have aG := Zu hm
 subst r
 refine ⟨_, ret2 rfl, ?_⟩
 exact ⟨a0, (Zt (Zt g ac) ak), ((aj).drop).drop, (tup2 rfl rfl)⟩
theorem ground_value_sim {fu : Nat} : ∀ {w0 w : World} {s : PHeap} {H : List Res} {b : GState} {a : GExpr} {d : Value} {f : Value} {g : Value} {r : Int × Bool} (hm : ground_value_p fu b a = some r) (hS : St w0 s (H) w) (j : SliceRep (encInt .i64) s d b.True) (k : SliceRep (encInt .i64) s f b.Values) (l : SliceRep encGExpr s g a.Kids), Calls Tryz.prog 105 #[Value.agg #[d, f], Value.agg #[Value.string (a.Op), Vi (a.N), g]] w fun e w' => ∃ v, e = .returned v ∧ ((un2 fun (h : Int) (i : Bool) => ∃ (c : PHeap) , PHeap.le s c ∧ St w0 c (H) w' ∧ v = Value.tuple #[Vi (h), Value.bool (i)]) r) := by
 induction fu with
 | zero => intros; rename_i hm _ _ _ _; rw [ground_value_p] at hm; cases hm
 | succ fu ih => exact ground_value_step ih
theorem F127_2 : tyField Tryz.prog 127 2 = some 4 := by kernel_rfl
theorem F127_0 : tyField Tryz.prog 127 0 = some 0 := by kernel_rfl
theorem ground_test_sim {w0 w : World} {s : PHeap} {H : List Res} {fu : Nat} {ag : GState} {b : GTest} {y : Value} {z : Value} {ac : Value} {ad : Value} {r : Bool} (hm : ground_test_p fu ag b = some r) (hS : St w0 s (H) w) (ah : SliceRep (encInt .i64) s y ag.True) (ai : SliceRep (encInt .i64) s z ag.Values) (al : SliceRep encGExpr s ac b.A.Kids) (am : SliceRep encGExpr s ad b.B.Kids) :
  Calls Tryz.prog 99 #[Value.agg #[y, z], Value.agg #[Value.string (b.Op), Value.string (b.A.Op), Vi (b.A.N), ac, Value.string (b.B.Op), Vi (b.B.N), ad]] w fun e w' => ∃ v, e = .returned v ∧ ((fun (a0 : Bool) => ∃ (aj : PHeap) , PHeap.le s aj ∧ St w0 aj (H) w' ∧ v = Value.bool (a0)) r) := by
 unfold ground_test_p at hm
 refine calls_of_W Tryz.func99 rfl rfl (Zc (Zd (Za rfl rfl (Exec.box (cs := [y, z]) hS rfl rfl rfl ?_))))
 intro a1 a6 ao
 refine Za rfl rfl (Exec.box (cs := [Value.string (b.Op), Value.string (b.A.Op), Vi (b.A.N), ac, Value.string (b.B.Op), Vi (b.B.N), ad]) ao rfl rfl rfl ?_)
 intro a2 a7 ae
 refine Za rfl rfl (Zo (v := Value.bool (false)) rfl rfl (Zb (Ze (Zc (Zd (Za rfl rfl (Exec.load_box_agg (ds := [y, z]) ((ae).f1) A58 rfl rfl rfl (Za rfl rfl (Zp F127_1 rfl rfl rfl (Za rfl rfl (Exec.load_box_agg (ds := [Value.string (b.A.Op), Vi (b.A.N), ac]) (ae) A102 rfl rfl rfl ?_)))))))))))
 obtain ⟨ay, av, hm⟩ := Zg hm
 obtain ⟨c, aa⟩ := ay
 replace hm := un2_eq hm
 refine Za rfl rfl (Tc rfl rfl rfl (Zi rfl (Zi rfl args_nil)) (ground_value_sim av ae ah ai al).r ?_)
 rintro _ a8 ⟨a5, ab, af, rfl⟩
 refine Za rfl rfl (Zm (v := Value.tuple #[Vi (c), Value.bool (aa)]) rfl rfl (Za rfl rfl (Exec.extract (v := Vi (c)) rfl rfl rfl (Za rfl rfl (Exec.extract (v := Value.bool (aa)) rfl rfl rfl (Za rfl rfl (Zo (v := Vi (c)) rfl rfl (Za rfl rfl (Zo (v := Value.bool (aa)) rfl rfl (Zb (Ze (Zc (Zd (Za rfl rfl (Exec.load_box_agg (ds := [y, z]) ((af).f1) A58 rfl rfl rfl (Za rfl rfl (Zp F127_2 rfl rfl rfl (Za rfl rfl (Exec.load_box_agg (ds := [Value.string (b.B.Op), Vi (b.B.N), ad]) (af) A102 rfl rfl rfl ?_)))))))))))))))))))
 obtain ⟨az, aw, hm⟩ := Zg hm
 obtain ⟨d, x⟩ := az
 replace hm := un2_eq hm
 refine Za rfl rfl (Tc rfl rfl rfl (Zi rfl (Zi rfl args_nil)) (ground_value_sim aw af (ah.mono ab) (ai.mono ab) (am.mono ab)).r ?_)
 rintro _ a9 ⟨m, aq, g, rfl⟩
 refine Za rfl rfl (Zm (v := Value.tuple #[Vi (d), Value.bool (x)]) rfl rfl (Za rfl rfl (Exec.extract (v := Vi (d)) rfl rfl rfl (Za rfl rfl (Exec.extract (v := Value.bool (x)) rfl rfl rfl (Za rfl rfl (Zo (v := Vi (d)) rfl rfl (Za rfl rfl (Zo (v := Value.bool (x)) rfl rfl (Zb (Ze (Zc (W_mid (M := fun f' w' => ∃ (ak : PHeap) , PHeap.le m ak ∧ St w0 ak (H) w' ∧ f' 4 = Value.bool ((aa && (x && (bif (decide (b.Op = (⟨#[60]⟩))) then ((decide (c < d)) || (bif (decide (b.Op = (⟨#[60, 61]⟩))) then ((decide (c ≤ d)) || ((decide (b.Op = (⟨#[61]⟩))) && decide (c = d))) else ((decide (b.Op = (⟨#[61]⟩))) && decide (c = d)))) else (bif (decide (b.Op = (⟨#[60, 61]⟩))) then ((decide (c ≤ d)) || ((decide (b.Op = (⟨#[61]⟩))) && decide (c = d))) else ((decide (b.Op = (⟨#[61]⟩))) && decide (c = d)))))))) ?_ ?_)))))))))))))
 ·refine Zd (WL_passes 2 rfl ?_)
  by_cases h : aa = true
  ·refine WL_run rfl (Zf rfl (Zx h)) rfl (Zm (v := Value.bool (x)) rfl rfl ?_)
   refine WL_passes 2 (by rw [h]; rfl) ?_
   by_cases a : x = true
   ·refine WL_run rfl (Zf rfl (Zx a)) rfl (Zp F127_0 rfl rfl rfl (WL_run rfl (Zf rfl (Zx a)) rfl (Zn (g) A9 rfl rfl rfl (WL_run rfl (Zf rfl (Zx a)) rfl (Exec.str_eql rfl rfl rfl (WL_run rfl (Zf rfl (Zx a)) rfl (Zm (v := Value.bool (decide (b.Op = (⟨#[60]⟩)))) rfl rfl ?_)))))))
    by_cases i : (decide (b.Op = (⟨#[60]⟩))) = true
    ·refine WL_run rfl (Zf rfl (Zx i)) rfl (Zm (v := Vi (c)) rfl rfl (WL_run rfl (Zf rfl (Zx i)) rfl (Zm (v := Vi (d)) rfl rfl (WL_run rfl (Zf rfl (Zx i)) rfl (Zq rfl rfl rfl (WL_run rfl (Zf rfl (Zx a)) rfl (Zs (v := Value.bool (decide (c < d))) rfl (Zx i) rfl (WL_run rfl (Zf rfl (Zx a)) rfl (Zm (v := Value.bool (decide (c < d))) rfl rfl ?_)))))))))
     by_cases j : (decide (c < d)) = true
     ·refine WL_passes 8 (by rw [j]; rfl) ?_
      refine WL_run rfl (Zf rfl (Zx a)) rfl (Zs (v := Value.bool (true)) rfl rfl rfl (WL_run rfl (Zf rfl (Zx a)) rfl (Zm (v := Value.bool (true)) rfl rfl (WL_passes 8 rfl (WL_run rfl (Zf rfl (Zx a)) rfl (Zs (v := Value.bool (true)) rfl rfl rfl ?_))))))
      refine WL_passes 2 (by rw [a]; rfl) ?_
      refine Zb (Ze ?_)
      exact ⟨m, (Zv _), ((g).drop).drop, (Zx (Eq.trans (and_t h) (Eq.trans (and_t a) (Eq.trans (cnd_t i) (or_t j))))).symm⟩
     replace j := Zk j
     refine WL_run rfl (Zf rfl (Zx j)) rfl (Zp F127_0 rfl rfl rfl (WL_run rfl (Zf rfl (Zx j)) rfl (Zn (g) A9 rfl rfl rfl (WL_run rfl (Zf rfl (Zx j)) rfl (Exec.str_eql rfl rfl rfl (WL_run rfl (Zf rfl (Zx j)) rfl (Zm (v := Value.bool (decide (b.Op = (⟨#[60, 61]⟩)))) rfl rfl ?_)))))))
     by_cases n : (decide (b.Op = (⟨#[60, 61]⟩))) = true
     ·refine WL_run rfl (Zf rfl (Zx n)) rfl (Zm (v := Vi (c)) rfl rfl (WL_run rfl (Zf rfl (Zx n)) rfl (Zm (v := Vi (d)) rfl rfl (WL_run rfl (Zf rfl (Zx n)) rfl (Exec.leq rfl rfl rfl (WL_run rfl (Zf rfl (Zx j)) rfl (Zs (v := Value.bool (decide (c ≤ d))) rfl (Zx n) rfl (WL_run rfl (Zf rfl (Zx a)) rfl (Exec.pick_f (v := Value.bool (decide (c ≤ d))) rfl (Zx j) rfl (WL_run rfl (Zf rfl (Zx a)) rfl (Zm (v := Value.bool (decide (c ≤ d))) rfl rfl ?_)))))))))))
      by_cases k : (decide (c ≤ d)) = true
      ·refine WL_passes 8 (by rw [k]; rfl) ?_
       refine WL_run rfl (Zf rfl (Zx a)) rfl (Zs (v := Value.bool (true)) rfl rfl rfl ?_)
       refine WL_passes 2 (by rw [a]; rfl) ?_
       refine Zb (Ze ?_)
       exact ⟨m, (Zv _), ((g).drop).drop, (Zx (Eq.trans (and_t h) (Eq.trans (and_t a) (Eq.trans (cnd_t i) (Eq.trans (or_f j) (Eq.trans (cnd_t n) (or_t k))))))).symm⟩
      replace k := Zk k
      refine WL_run rfl (Zf rfl (Zx k)) rfl (Zp F127_0 rfl rfl rfl (WL_run rfl (Zf rfl (Zx k)) rfl (Zn (g) A9 rfl rfl rfl (WL_run rfl (Zf rfl (Zx k)) rfl (Exec.str_eql rfl rfl rfl (WL_run rfl (Zf rfl (Zx k)) rfl (Zm (v := Value.bool (decide (b.Op = (⟨#[61]⟩)))) rfl rfl ?_)))))))
      by_cases p : (decide (b.Op = (⟨#[61]⟩))) = true
      ·refine WL_run rfl (Zf rfl (Zx p)) rfl (Zm (v := Vi (c)) rfl rfl (WL_run rfl (Zf rfl (Zx p)) rfl (Zm (v := Vi (d)) rfl rfl (WL_run rfl (Zf rfl (Zx p)) rfl (Exec.eql rfl rfl rfl (WL_run rfl (Zf rfl (Zx k)) rfl (Zs (v := Value.bool (decide (c = d))) rfl (Zx p) rfl (WL_run rfl (Zf rfl (Zx a)) rfl (Exec.pick_f (v := Value.bool (decide (c = d))) rfl (Zx k) rfl ?_)))))))))
       refine WL_passes 2 (by rw [a]; rfl) ?_
       refine Zb (Ze ?_)
       exact ⟨m, (Zv _), ((g).drop).drop, (Zx (Eq.trans (and_t h) (Eq.trans (and_t a) (Eq.trans (cnd_t i) (Eq.trans (or_f j) (Eq.trans (cnd_t n) (Eq.trans (or_f k) (and_t p)))))))).symm⟩
      replace p := Zk p
      refine WL_passes 3 (by rw [p]; rfl) ?_
      refine WL_run rfl (Zf rfl (Zx k)) rfl (Exec.pick_f (v := Value.bool (false)) rfl rfl rfl (WL_run rfl (Zf rfl (Zx a)) rfl (Exec.pick_f (v := Value.bool (false)) rfl (Zx k) rfl ?_)))
      refine WL_passes 2 (by rw [a]; rfl) ?_
      refine Zb (Ze ?_)
      exact ⟨m, (Zv _), ((g).drop).drop, (Zx (Eq.trans (and_t h) (Eq.trans (and_t a) (Eq.trans (cnd_t i) (Eq.trans (or_f j) (Eq.trans (cnd_t n) (Eq.trans (or_f k) (and_f p)))))))).symm⟩
     replace n := Zk n
     refine WL_passes 3 (by rw [n]; rfl) ?_
     refine WL_run rfl (Zf rfl (Zx j)) rfl (Exec.pick_f (v := Value.bool (false)) rfl rfl rfl (WL_run rfl (Zf rfl (Zx a)) rfl (Exec.pick_f (v := Value.bool (false)) rfl (Zx j) rfl (WL_run rfl (Zf rfl (Zx a)) rfl (Zm (v := Value.bool (false)) rfl rfl (WL_run rfl (Zf rfl rfl) rfl (Zp F127_0 rfl rfl rfl (WL_run rfl (Zf rfl rfl) rfl (Zn (g) A9 rfl rfl rfl (WL_run rfl (Zf rfl rfl) rfl (Exec.str_eql rfl rfl rfl (WL_run rfl (Zf rfl rfl) rfl (Zm (v := Value.bool (decide (b.Op = (⟨#[61]⟩)))) rfl rfl ?_)))))))))))))
     by_cases q : (decide (b.Op = (⟨#[61]⟩))) = true
     ·refine WL_run rfl (Zf rfl (Zx q)) rfl (Zm (v := Vi (c)) rfl rfl (WL_run rfl (Zf rfl (Zx q)) rfl (Zm (v := Vi (d)) rfl rfl (WL_run rfl (Zf rfl (Zx q)) rfl (Exec.eql rfl rfl rfl (WL_run rfl (Zf rfl rfl) rfl (Zs (v := Value.bool (decide (c = d))) rfl (Zx q) rfl (WL_run rfl (Zf rfl (Zx a)) rfl (Exec.pick_f (v := Value.bool (decide (c = d))) rfl rfl rfl ?_)))))))))
      refine WL_passes 2 (by rw [a]; rfl) ?_
      refine Zb (Ze ?_)
      exact ⟨m, (Zv _), ((g).drop).drop, (Zx (Eq.trans (and_t h) (Eq.trans (and_t a) (Eq.trans (cnd_t i) (Eq.trans (or_f j) (Eq.trans (cnd_f n) (and_t q))))))).symm⟩
     replace q := Zk q
     refine WL_passes 3 (by rw [q]; rfl) ?_
     refine WL_run rfl (Zf rfl rfl) rfl (Exec.pick_f (v := Value.bool (false)) rfl rfl rfl (WL_run rfl (Zf rfl (Zx a)) rfl (Exec.pick_f (v := Value.bool (false)) rfl rfl rfl ?_)))
     refine WL_passes 2 (by rw [a]; rfl) ?_
     refine Zb (Ze ?_)
     exact ⟨m, (Zv _), ((g).drop).drop, (Zx (Eq.trans (and_t h) (Eq.trans (and_t a) (Eq.trans (cnd_t i) (Eq.trans (or_f j) (Eq.trans (cnd_f n) (and_f q))))))).symm⟩
    replace i := Zk i
    refine WL_passes 3 (by rw [i]; rfl) ?_
    refine WL_run rfl (Zf rfl (Zx a)) rfl (Exec.pick_f (v := Value.bool (false)) rfl rfl rfl (WL_run rfl (Zf rfl (Zx a)) rfl (Zm (v := Value.bool (false)) rfl rfl (WL_run rfl (Zf rfl rfl) rfl (Zp F127_0 rfl rfl rfl (WL_run rfl (Zf rfl rfl) rfl (Zn (g) A9 rfl rfl rfl (WL_run rfl (Zf rfl rfl) rfl (Exec.str_eql rfl rfl rfl (WL_run rfl (Zf rfl rfl) rfl (Zm (v := Value.bool (decide (b.Op = (⟨#[60, 61]⟩)))) rfl rfl ?_)))))))))))
    by_cases o : (decide (b.Op = (⟨#[60, 61]⟩))) = true
    ·refine WL_run rfl (Zf rfl (Zx o)) rfl (Zm (v := Vi (c)) rfl rfl (WL_run rfl (Zf rfl (Zx o)) rfl (Zm (v := Vi (d)) rfl rfl (WL_run rfl (Zf rfl (Zx o)) rfl (Exec.leq rfl rfl rfl (WL_run rfl (Zf rfl rfl) rfl (Zs (v := Value.bool (decide (c ≤ d))) rfl (Zx o) rfl (WL_run rfl (Zf rfl (Zx a)) rfl (Exec.pick_f (v := Value.bool (decide (c ≤ d))) rfl rfl rfl (WL_run rfl (Zf rfl (Zx a)) rfl (Zm (v := Value.bool (decide (c ≤ d))) rfl rfl ?_)))))))))))
     by_cases l : (decide (c ≤ d)) = true
     ·refine WL_passes 8 (by rw [l]; rfl) ?_
      refine WL_run rfl (Zf rfl (Zx a)) rfl (Zs (v := Value.bool (true)) rfl rfl rfl ?_)
      refine WL_passes 2 (by rw [a]; rfl) ?_
      refine Zb (Ze ?_)
      exact ⟨m, (Zv _), ((g).drop).drop, (Zx (Eq.trans (and_t h) (Eq.trans (and_t a) (Eq.trans (cnd_f i) (Eq.trans (cnd_t o) (or_t l)))))).symm⟩
     replace l := Zk l
     refine WL_run rfl (Zf rfl (Zx l)) rfl (Zp F127_0 rfl rfl rfl (WL_run rfl (Zf rfl (Zx l)) rfl (Zn (g) A9 rfl rfl rfl (WL_run rfl (Zf rfl (Zx l)) rfl (Exec.str_eql rfl rfl rfl (WL_run rfl (Zf rfl (Zx l)) rfl (Zm (v := Value.bool (decide (b.Op = (⟨#[61]⟩)))) rfl rfl ?_)))))))
     by_cases t : (decide (b.Op = (⟨#[61]⟩))) = true
     ·refine WL_run rfl (Zf rfl (Zx t)) rfl (Zm (v := Vi (c)) rfl rfl (WL_run rfl (Zf rfl (Zx t)) rfl (Zm (v := Vi (d)) rfl rfl (WL_run rfl (Zf rfl (Zx t)) rfl (Exec.eql rfl rfl rfl (WL_run rfl (Zf rfl (Zx l)) rfl (Zs (v := Value.bool (decide (c = d))) rfl (Zx t) rfl (WL_run rfl (Zf rfl (Zx a)) rfl (Exec.pick_f (v := Value.bool (decide (c = d))) rfl (Zx l) rfl ?_)))))))))
      refine WL_passes 2 (by rw [a]; rfl) ?_
      refine Zb (Ze ?_)
      exact ⟨m, (Zv _), ((g).drop).drop, (Zx (Eq.trans (and_t h) (Eq.trans (and_t a) (Eq.trans (cnd_f i) (Eq.trans (cnd_t o) (Eq.trans (or_f l) (and_t t))))))).symm⟩
     replace t := Zk t
     refine WL_passes 3 (by rw [t]; rfl) ?_
     refine WL_run rfl (Zf rfl (Zx l)) rfl (Exec.pick_f (v := Value.bool (false)) rfl rfl rfl (WL_run rfl (Zf rfl (Zx a)) rfl (Exec.pick_f (v := Value.bool (false)) rfl (Zx l) rfl ?_)))
     refine WL_passes 2 (by rw [a]; rfl) ?_
     refine Zb (Ze ?_)
     exact ⟨m, (Zv _), ((g).drop).drop, (Zx (Eq.trans (and_t h) (Eq.trans (and_t a) (Eq.trans (cnd_f i) (Eq.trans (cnd_t o) (Eq.trans (or_f l) (and_f t))))))).symm⟩
    replace o := Zk o
    refine WL_passes 3 (by rw [o]; rfl) ?_
    refine WL_run rfl (Zf rfl rfl) rfl (Exec.pick_f (v := Value.bool (false)) rfl rfl rfl (WL_run rfl (Zf rfl (Zx a)) rfl (Exec.pick_f (v := Value.bool (false)) rfl rfl rfl (WL_run rfl (Zf rfl (Zx a)) rfl (Zm (v := Value.bool (false)) rfl rfl (WL_run rfl (Zf rfl rfl) rfl (Zp F127_0 rfl rfl rfl (WL_run rfl (Zf rfl rfl) rfl (Zn (g) A9 rfl rfl rfl (WL_run rfl (Zf rfl rfl) rfl (Exec.str_eql rfl rfl rfl (WL_run rfl (Zf rfl rfl) rfl (Zm (v := Value.bool (decide (b.Op = (⟨#[61]⟩)))) rfl rfl ?_)))))))))))))
    by_cases u : (decide (b.Op = (⟨#[61]⟩))) = true
    ·refine WL_run rfl (Zf rfl (Zx u)) rfl (Zm (v := Vi (c)) rfl rfl (WL_run rfl (Zf rfl (Zx u)) rfl (Zm (v := Vi (d)) rfl rfl (WL_run rfl (Zf rfl (Zx u)) rfl (Exec.eql rfl rfl rfl (WL_run rfl (Zf rfl rfl) rfl (Zs (v := Value.bool (decide (c = d))) rfl (Zx u) rfl (WL_run rfl (Zf rfl (Zx a)) rfl (Exec.pick_f (v := Value.bool (decide (c = d))) rfl rfl rfl ?_)))))))))
     refine WL_passes 2 (by rw [a]; rfl) ?_
     refine Zb (Ze ?_)
     exact ⟨m, (Zv _), ((g).drop).drop, (Zx (Eq.trans (and_t h) (Eq.trans (and_t a) (Eq.trans (cnd_f i) (Eq.trans (cnd_f o) (and_t u)))))).symm⟩
    replace u := Zk u
    refine WL_passes 3 (by rw [u]; rfl) ?_
    refine WL_run rfl (Zf rfl rfl) rfl (Exec.pick_f (v := Value.bool (false)) rfl rfl rfl (WL_run rfl (Zf rfl (Zx a)) rfl (Exec.pick_f (v := Value.bool (false)) rfl rfl rfl ?_)))
    refine WL_passes 2 (by rw [a]; rfl) ?_
    refine Zb (Ze ?_)
    exact ⟨m, (Zv _), ((g).drop).drop, (Zx (Eq.trans (and_t h) (Eq.trans (and_t a) (Eq.trans (cnd_f i) (Eq.trans (cnd_f o) (and_f u)))))).symm⟩
   replace a := Zk a
   refine WL_passes 30 (by rw [a]; rfl) ?_
   refine Zb (Ze ?_)
   exact ⟨m, (Zv _), ((g).drop).drop, (Zx (Eq.trans (and_t h) (and_f a))).symm⟩
  replace h := Zk h
  refine WL_passes 33 (by rw [h]; rfl) ?_
  refine Zb (Ze ?_)
  exact ⟨m, (Zv _), ((g).drop).drop, (Zx (and_f h)).symm⟩
 intro a4 aA an
 obtain ⟨ax, ar, ap, au⟩ := an
 refine (Ze (W_ret ?_))
 have a3 := Zu hm
 subst r
 refine ⟨_, ret1 rfl, ?_⟩
 exact ⟨ax, (Zt (Zt ab aq) ar), ap, au⟩
theorem N98 : (Tryz.f98.name == "runtime.NumGoroutine") = false := by kernel_rfl
theorem ground_holds_c3_sim {w0 w : World} {s : PHeap} {H : List Res} {fu : Nat} {a : GTest} {g : GState} {b : Value} {c : Value} {f h : Nat} {r : Bool} (hm : ground_holds_c3_p fu a g = some r) (hS : St w0 s (H) w) (j : SliceRep encGExpr s b a.A.Kids) (k : SliceRep encGExpr s c a.B.Kids) (l : At s f h encGState g) :
  Calls Tryz.prog 98 #[Value.agg #[Value.string (a.Op), Value.string (a.A.Op), Vi (a.A.N), b, Value.string (a.B.Op), Vi (a.B.N), c], Value.pointer (some ⟨f, h, none⟩)] w fun e w' => ∃ v, e = .returned v ∧ ((fun (x : Bool) => ∃ (i : PHeap) , PHeap.le s i ∧ St w0 i (H) w' ∧ v = Value.bool (x)) r) := by
 unfold ground_holds_c3_p at hm
 refine calls_of_W Tryz.func98 rfl rfl (Zc (Zd (Za rfl rfl (Exec.box (cs := [Value.string (a.Op), Value.string (a.A.Op), Vi (a.A.N), b, Value.string (a.B.Op), Vi (a.B.N), c]) hS rfl rfl rfl ?_))))
 intro z ae d
 refine Za rfl rfl (Zo (v := Value.bool (false)) rfl rfl (Zb (Ze (Zc (Zd (Za rfl rfl (Zw (E := encGState) d A58 rfl rfl rfl l ?_)))))))
 intro ad o
 obtain ⟨ab, ac, rfl, q, t⟩ := encGState_val.1 o
 refine Za rfl rfl (Exec.load_box_agg (ds := [Value.string (a.Op), Value.string (a.A.Op), Vi (a.A.N), b, Value.string (a.B.Op), Vi (a.B.N), c]) (d) A127 rfl rfl rfl ?_)
 obtain ⟨y, p, hm⟩ := Zg hm
 refine Za rfl rfl (Tc rfl rfl rfl (Zi rfl (Zi rfl args_nil)) (ground_test_sim p d q t j k).r ?_)
 rintro _ af ⟨u, n, m, rfl⟩
 refine Za rfl rfl (Exec.not rfl rfl (Za rfl rfl (Zo (v := Value.bool (!y)) rfl rfl (Zb (Ze (W_ret ?_))))))
 have aa := Zu hm
 subst r
 refine ⟨_, ret1 rfl, ?_⟩
 exact ⟨u, n, (m).drop, rfl⟩
theorem slices_IndexFunc_apiGTest_holds_c3_sim {w0 w : World} {s : PHeap} {H : List Res} {fu : Nat} {l : (List GTest)} {o : GState} {c : Value} {d i : Nat} {r : Int} (hm : slices_IndexFunc_apiGTest_holds_c3_p fu l o = some r) (hS : St w0 s (H) w) (m : SliceRep encGTest s c l) (ah : At s d i encGState o) :
  Calls Tryz.prog 117 #[c, Value.func (.func 98) #[] #[Value.pointer (some ⟨d, i, none⟩)]] w fun e w' => ∃ v, e = .returned v ∧ ((fun (aA : Int) => ∃ (ad : PHeap) , PHeap.le s ad ∧ St w0 ad (H) w' ∧ v = Vi (aA)) r) := by
 unfold slices_IndexFunc_apiGTest_holds_c3_p at hm
 refine calls_of_W Tryz.func117 rfl rfl (Zc (Zd (Za rfl rfl (Zo (v := Vi (0)) rfl rfl (Zb (Ze (Zc (Zc (Zd (Za rfl rfl (Zm (v := c) rfl rfl (Za rfl rfl (Zr S82 rfl rfl m (Za rfl rfl (Zm (v := Vi (0)) rfl rfl (Zb (Ze ?_)))))))))))))))))
 obtain ⟨p, aj, av, ar, ap⟩ := ctl_some hm
 refine W_mid (M := fun f' w' => ∃ s', (p = .next s' ∨ p = .brk s') ∧ (fun (_ : Unit) => ∃ (ae : PHeap) , PHeap.le s ae ∧ St w0 ae (H) w' ∧ f' 0 = c ∧ f' 1 = Value.func (.func 98) #[] #[Value.pointer (some ⟨d, i, none⟩)] ∧ f' 7 = Vi ((l.length : Int))) s') ?_ ?_
 ·refine W_block (W_forC (fun k' s' f' w' => (fun (_ : Unit) => ∃ (af : PHeap) , PHeap.le s af ∧ St w0 af (H) w' ∧ f' 0 = c ∧ f' 1 = Value.func (.func 98) #[] #[Value.pointer (some ⟨d, i, none⟩)] ∧ f' 7 = Vi ((l.length : Int)) ∧ f' 8 = Vi (k' : Int)) s') aj ?_ ?_ ?_)
  ·exact ⟨s, (Zv _), hS, rfl, rfl, rfl, rfl⟩
  ·intro b aO q aG aU aq ak a aw
   obtain ⟨aN, j, t, z, aa, ab, n⟩ := ak
   refine Zc (Zd (Za rfl rfl (Zq rfl n ab (Zb (Ze (Zc (W_true (Zx (decide_eq_true (by omega))) (W_skip (Ze (Zc (W_block (Zc (Zd (Za rfl rfl (Zm (v := Vi ((b : Int))) rfl n (Za rfl rfl (Zo (v := Vi ((b : Int))) rfl rfl (Zb (Ze (Zc (Zd (Za rfl rfl (Zm (v := Value.func (.func 98) #[] #[Value.pointer (some ⟨d, i, none⟩)]) rfl aa (Za rfl rfl (Zm (v := c) rfl z (Za rfl rfl (Zm (v := Vi ((b : Int))) rfl rfl ?_)))))))))))))))))))))))))))
   obtain ⟨aY, a2, a⟩ := Zg a
   refine Za rfl rfl (Exec.index_rep S82 rfl rfl rfl (m.mono j) a2 ?_)
   intro aB aJ ai
   refine Za rfl rfl (Zw (E := encGTest) t A127 rfl rfl rfl ai ?_)
   intro aT a3
   obtain ⟨aR, aS, rfl, a5, a6⟩ := encGTest_val.1 a3
   obtain ⟨aZ, a4, a⟩ := Zg a
   refine Za rfl rfl (Exec.callc rfl rfl Tryz.func98 rfl N98 (Zi rfl args_nil) rfl ((ground_holds_c3_sim a4 t a5 a6 (ah.mono j)).mono ?_))
   rintro _ aV ⟨_, rfl, ⟨ag, y, u, rfl⟩⟩
   refine ⟨_, rfl, ?_⟩
   refine Zb (Ze ?_)
   rcases ite_some a with ⟨g, a⟩ | ⟨g, a⟩
   ·refine W_cond_t rfl g (Zc (Zd (Za rfl rfl (Zm (v := Vi ((b : Int))) rfl rfl (Za rfl rfl (Zo (v := Vi ((b : Int))) rfl rfl (Zb (Ze (W_ret (ib_ret (at_ret (at_ret (ib_ret (at_ret (at_ret ?_)))))))))))))))
    have aC := Zu a
    subst q
    have au := av _ (aw (by intro _ h; cases h))
    have aD := Zu au
    subst r
    refine ⟨_, ret1 rfl, ?_⟩
    exact ⟨ag, (Zt j y), u, rfl⟩
   refine W_cond_f rfl g ?_
   replace g := Zk g
   refine W_skip (ib_normal (Ze (Zd (Za rfl rfl (Exec.add rfl n rfl (Za rfl rfl (Zm (v := Vi (IntKind.i64.wrap ((b : Int) + 1))) rfl rfl (Zb (Ze ?_)))))))))
   have aE := Zu a
   subst q
   refine ⟨_, rfl, ?_⟩; exact ⟨ag, (Zt j y), u, z, aa, ab, (Eq.trans rfl (wrap_up aq (SliceRep.le m)))⟩
  intro aP aH aW al ax
  obtain ⟨a7, ay, an, a0, a1, ac, a9⟩ := al
  refine Zc (Zd (Za rfl rfl (Zq rfl a9 ac (Zb (Ze (Zc (W_false (Zx (decide_eq_false (by omega))) (W_exit (at_exit (at_exit (ib_here (Ze ?_))))))))))))
  refine ⟨_, .inl ax, ?_⟩; exact ⟨a7, ay, an, a0, a1, ac⟩
 rintro aI aX ⟨aQ, x, am⟩
 have hm := x.elim (ar _) (ap _)
 clear x
 obtain ⟨a8, az, ao, aK, aL, aM⟩ := am
 refine (Ze (Zc (Zd (Za rfl rfl (Zo (v := Vi ((-1))) rfl rfl (Zb (Ze (W_ret ?_))))))))
 have aF := Zu hm
 subst r
 refine ⟨_, ret1 rfl, ?_⟩
 exact ⟨a8, az, ao, rfl⟩
theorem slices_ContainsFunc_apiGTest_holds_c3_sim {w0 w : World} {s : PHeap} {H : List Res} {fu : Nat} {g : (List GTest)} {d : GState} {c : Value} {a b : Nat} {r : Bool} (hm : slices_ContainsFunc_apiGTest_holds_c3_p fu g d = some r) (hS : St w0 s (H) w) (h : SliceRep encGTest s c g) (i : At s a b encGState d) :
  Calls Tryz.prog 97 #[c, Value.func (.func 98) #[] #[Value.pointer (some ⟨a, b, none⟩)]] w fun e w' => ∃ v, e = .returned v ∧ ((fun (n : Bool) => ∃ (f : PHeap) , PHeap.le s f ∧ St w0 f (H) w' ∧ v = Value.bool (n)) r) := by
 unfold slices_ContainsFunc_apiGTest_holds_c3_p at hm
 refine calls_of_W Tryz.func97 rfl rfl (Zc (Zd (Za rfl rfl (Zo (v := Value.bool (false)) rfl rfl (Zb (Ze (Zc (Zd (Za rfl rfl (Zm (v := c) rfl rfl (Za rfl rfl (Zm (v := Value.func (.func 98) #[] #[Value.pointer (some ⟨a, b, none⟩)]) rfl rfl ?_))))))))))))
 obtain ⟨o, l, hm⟩ := Zg hm
 refine Za rfl rfl (Tc rfl rfl rfl (Zi rfl (Zi rfl args_nil)) (slices_IndexFunc_apiGTest_holds_c3_sim l hS h i).r ?_)
 rintro _ q ⟨m, k, j, rfl⟩
 refine Za rfl rfl (Exec.geq rfl rfl rfl (Za rfl rfl (Zo (v := Value.bool (decide (0 ≤ o))) rfl rfl (Zb (Ze (W_ret ?_))))))
 have p := Zu hm
 subst r
 refine ⟨_, ret1 rfl, ?_⟩
 exact ⟨m, k, j, rfl⟩
theorem ground_holds_sim {w0 w : World} {s : PHeap} {H : List Res} {fu : Nat} {l : GState} {h : Cond} {m : Value} {n : Value} {q : Value} {t : Value} {u : Value} {r : Bool} (hm : ground_holds_p fu l h = some r) (hS : St w0 s (H) w) (ac : SliceRep (encInt .i64) s m l.True) (ad : SliceRep (encInt .i64) s n l.Values) (ae : SliceRep (encInt .i64) s q h.Pos) (af : SliceRep (encInt .i64) s t h.Neg) (ag : SliceRep encGTest s u h.Tests) :
  Calls Tryz.prog 84 #[Value.agg #[m, n], Value.agg #[q, t, u]] w fun e w' => ∃ v, e = .returned v ∧ ((fun (a1 : Bool) => ∃ (aa : PHeap) , PHeap.le s aa ∧ St w0 aa (H) w' ∧ v = Value.bool (a1)) r) := by
 unfold ground_holds_p at hm
 refine calls_of_W Tryz.func84 rfl rfl (Zc (Zd (Za rfl rfl (Exec.box (cs := [m, n]) hS rfl rfl rfl ?_))))
 intro x aA ai
 refine Za rfl rfl (Exec.box (cs := [q, t, u]) ai rfl rfl rfl ?_)
 intro a3 aB aj
 refine Za rfl rfl (Zo (v := Value.bool (false)) rfl rfl (Zb (Ze (Zc (Zd ?_)))))
 obtain ⟨aw, j, ak, p⟩ := St.freezeVar (E := encGState) (y := l) (aj).f1 ⟨[m], [n], rfl, ⟨_, rfl, ac⟩, ⟨_, rfl, ad⟩⟩
 refine Za rfl rfl (Exec.makeFunc rfl (Zi rfl args_nil) (Za rfl rfl (Exec.alloc (cs := [Value.nilFunc]) ak Z161 rfl rfl ?_)))
 intro a4 aC al
 refine Za rfl rfl (Exec.store_box (ds := [Value.func (.func 94) #[] #[Value.pointer (some ⟨x, 0, none⟩)]]) (es := [Value.func (.func 94) #[] #[Value.pointer (some ⟨x, 0, none⟩)]]) al A161 rfl rfl rfl rfl (Zj rfl one_nil) (Nat.le_of_ble_eq_true rfl) rfl ?_)
 intro aD z
 refine Zb (Ze (Zc ?_))
 obtain ⟨g, a, hm⟩ := Zg hm
 refine W_mid (M := fun f' w' => (fun (g : Bool) => ∃ (ab : PHeap) , PHeap.le aw ab ∧ St w0 ab (H) w' ∧ f' 4 = Value.bool (g)) g) ?_ ?_
 ·refine Zd (Za rfl rfl (Zp F84_0 rfl rfl rfl (Za rfl rfl (Zn ((z).f1) A24 rfl rfl rfl (Za rfl rfl (Exec.makeFunc rfl (Zi rfl args_nil) ?_))))))
  obtain ⟨a2, ar, a⟩ := Zg a
  refine Za rfl rfl (Tc rfl rfl rfl (Zi rfl (Zi rfl args_nil)) (slices_ContainsFunc_int_holds_c2_sim ar z (ae.mono j) p).r ?_)
  rintro _ aE ⟨ax, d, i, rfl⟩
  refine Za rfl rfl (Exec.not rfl rfl (Za rfl rfl (Zm (v := Value.bool (!a2)) rfl rfl ?_)))
  rcases ite_some a with ⟨b, a⟩ | ⟨b, a⟩
  ·refine WL_run rfl (Zf rfl (Zx b)) rfl (Zp F84_1 rfl rfl rfl (WL_run rfl (Zf rfl (Zx b)) rfl (Zn ((i).f1) A24 rfl rfl rfl (WL_run rfl (Zf rfl (Zx b)) rfl (Zn (i) A161 rfl rfl rfl ?_)))))
   obtain ⟨aI, au, a⟩ := Zg a
   refine WL_run rfl (Zf rfl (Zx b)) rfl (Tc rfl rfl rfl (Zi rfl (Zi rfl args_nil)) (slices_ContainsFunc_int_holds_c1_sim au i (af.mono (Zt j d)) (p.mono d)).r ?_)
   rintro _ aF ⟨ay, k, o, rfl⟩
   refine WL_run rfl (Zf rfl (Zx b)) rfl (Exec.not rfl rfl ?_)
   refine WL_passes 2 (by rw [b]; rfl) ?_
   rcases ite_some a with ⟨c, a⟩ | ⟨c, a⟩
   ·refine WL_run rfl (Zf rfl (Zx c)) rfl (Zp F84_2 rfl rfl rfl (WL_run rfl (Zf rfl (Zx c)) rfl (Zn ((o).f1) A82 rfl rfl rfl (WL_run rfl (Zf rfl (Zx c)) rfl (Exec.makeFunc rfl (Zi rfl args_nil) ?_)))))
    obtain ⟨aJ, av, a⟩ := Zg a
    refine WL_run rfl (Zf rfl (Zx c)) rfl (Tc rfl rfl rfl (Zi rfl (Zi rfl args_nil)) (slices_ContainsFunc_apiGTest_holds_c3_sim av o (ag.mono (Zt (Zt j d) k)) (p.mono (Zt d k))).r ?_)
    rintro _ aG ⟨az, ao, am, rfl⟩
    refine WL_run rfl (Zf rfl (Zx c)) rfl (Exec.not rfl rfl ?_)
    refine WL_passes 2 (by rw [c]; rfl) ?_
    refine Zb (Ze ?_)
    have a5 := Zu a
    subst g
    exact ⟨az, (Zt (Zt d k) ao), ((am).drop).drop, rfl⟩
   replace c := Zk c
   refine WL_passes 7 (by rw [c]; rfl) ?_
   refine Zb (Ze ?_)
   have a6 := Zu a
   subst g
   exact ⟨ay, (Zt d k), ((o).drop).drop, rfl⟩
  replace b := Zk b
  refine WL_passes 14 (by rw [b]; rfl) ?_
  refine Zb (Ze ?_)
  have a7 := Zu a
  subst g
  exact ⟨ax, d, ((i).drop).drop, rfl⟩
 intro a9 aH ah
 obtain ⟨a0, ap, an, aq⟩ := ah
 refine (Ze (W_ret ?_))
 have a8 := Zu hm
 subst r
 refine ⟨_, ret1 rfl, ?_⟩
 exact ⟨a0, (Zt j ap), an, aq⟩
theorem ground_Holds_sim {w0 w : World} {s : PHeap} {H : List Res} {fu : Nat} {k : Ground} {ai : GState} {z : Cond} {l : Value} {m : Value} {n : Value} {o : Value} {p : Value} {q : Value} {t : Value} {u : Value} {x : Value} {y : Value} {r : Bool} (hm : ground_Holds_p fu k ai z = some r) (hS : St w0 s (H) w) (ad : SliceRep encAtom s l k.Atoms) (ae : SliceRep encGFluent s m k.Fluents) (af : SliceRep (encInt .i64) s n k.Init) (ag : SliceRep encCond s o k.Goal) (ah : SliceRep encGOp s p k.Ops) (aj : SliceRep (encInt .i64) s q ai.True) (ak : SliceRep (encInt .i64) s t ai.Values) (al : SliceRep (encInt .i64) s u z.Pos) (am : SliceRep (encInt .i64) s x z.Neg) (an : SliceRep encGTest s y z.Tests) :
  Calls Tryz.prog 68 #[Value.agg #[l, m, n, o, p], Value.agg #[q, t], Value.agg #[u, x, y]] w fun e w' => ∃ v, e = .returned v ∧ ((fun (aA : Bool) => ∃ (ap : PHeap) , PHeap.le s ap ∧ St w0 ap (H) w' ∧ v = Value.bool (aA)) r) := by
 unfold ground_Holds_p at hm
 refine calls_of_W Tryz.func68 rfl rfl (Zc (Zd (Za rfl rfl (Exec.box (cs := [l, m, n, o, p]) hS rfl rfl rfl ?_))))
 intro aC aL au
 refine Za rfl rfl (Exec.box (cs := [q, t]) au rfl rfl rfl ?_)
 intro aD aM av
 refine Za rfl rfl (Exec.box (cs := [u, x, y]) av rfl rfl rfl ?_)
 intro aE aN ao
 refine Za rfl rfl (Zo (v := Value.bool (false)) rfl rfl (Zb (Ze (Zc ?_))))
 obtain ⟨j, b, hm⟩ := Zg hm
 refine W_mid (M := fun f' w' => (fun (j : Bool) => ∃ (aq : PHeap) , PHeap.le s aq ∧ St w0 aq (H) w' ∧ f' 6 = Value.bool (j)) j) ?_ ?_
 ·refine Zd (Za rfl rfl (Exec.load_box_agg (ds := [l, m, n, o, p]) ((ao).f2) A28 rfl rfl rfl ?_))
  obtain ⟨aB, a1, b⟩ := Zg b
  refine Za rfl rfl (Tc rfl rfl rfl (Zi rfl args_nil) (ground_Valid_sim a1 ao ad ae af ag ah).r ?_)
  rintro _ aO ⟨a5, a, aa, rfl⟩
  refine Za rfl rfl (Zm (v := Value.bool (aB)) rfl rfl ?_)
  rcases ite_some b with ⟨d, b⟩ | ⟨d, b⟩
  ·refine WL_run rfl (Zf rfl (Zx d)) rfl (Exec.load_box_agg (ds := [l, m, n, o, p]) ((aa).f2) A28 rfl rfl rfl (WL_run rfl (Zf rfl (Zx d)) rfl (Exec.load_box_agg (ds := [q, t]) ((aa).f1) A58 rfl rfl rfl ?_)))
   obtain ⟨aT, a2, b⟩ := Zg b
   refine WL_run rfl (Zf rfl (Zx d)) rfl (Tc rfl rfl rfl (Zi rfl (Zi rfl args_nil)) (ground_proper_sim a2 aa (ad.mono a) (ae.mono a) (af.mono a) (ag.mono a) (ah.mono a) (aj.mono a) (ak.mono a)).r ?_)
   rintro _ aP ⟨a6, c, ab, rfl⟩
   refine WL_passes 2 (by rw [d]; rfl) ?_
   rcases ite_some b with ⟨g, b⟩ | ⟨g, b⟩
   ·refine WL_run rfl (Zf rfl (Zx g)) rfl (Exec.load_box_agg (ds := [l, m, n, o, p]) ((ab).f2) A28 rfl rfl rfl (WL_run rfl (Zf rfl (Zx g)) rfl (Exec.load_box_agg (ds := [u, x, y]) (ab) A84 rfl rfl rfl ?_)))
    obtain ⟨aU, a3, b⟩ := Zg b
    refine WL_run rfl (Zf rfl (Zx g)) rfl (Tc rfl rfl rfl (Zi rfl (Zi rfl args_nil)) (ground_condition_sim a3 ab (ad.mono (Zt a c)) (ae.mono (Zt a c)) (af.mono (Zt a c)) (ag.mono (Zt a c)) (ah.mono (Zt a c)) (al.mono (Zt a c)) (am.mono (Zt a c)) (an.mono (Zt a c))).r ?_)
    rintro _ aQ ⟨a7, i, ac, rfl⟩
    refine WL_passes 2 (by rw [g]; rfl) ?_
    rcases ite_some b with ⟨h, b⟩ | ⟨h, b⟩
    ·refine WL_run rfl (Zf rfl (Zx h)) rfl (Exec.load_box_agg (ds := [q, t]) ((ac).f1) A58 rfl rfl rfl (WL_run rfl (Zf rfl (Zx h)) rfl (Exec.load_box_agg (ds := [u, x, y]) (ac) A84 rfl rfl rfl ?_)))
     obtain ⟨aV, a4, b⟩ := Zg b
     refine WL_run rfl (Zf rfl (Zx h)) rfl (Tc rfl rfl rfl (Zi rfl (Zi rfl args_nil)) (ground_holds_sim a4 ac (aj.mono (Zt (Zt a c) i)) (ak.mono (Zt (Zt a c) i)) (al.mono (Zt (Zt a c) i)) (am.mono (Zt (Zt a c) i)) (an.mono (Zt (Zt a c) i))).r ?_)
     rintro _ aR ⟨a8, ay, aw, rfl⟩
     refine WL_passes 2 (by rw [h]; rfl) ?_
     refine Zb (Ze ?_)
     have aF := Zu b
     subst j
     exact ⟨a8, (Zt (Zt (Zt a c) i) ay), (((aw).drop).drop).drop, rfl⟩
    replace h := Zk h
    refine WL_passes 5 (by rw [h]; rfl) ?_
    refine Zb (Ze ?_)
    have aG := Zu b
    subst j
    exact ⟨a7, (Zt (Zt a c) i), (((ac).drop).drop).drop, rfl⟩
   replace g := Zk g
   refine WL_passes 10 (by rw [g]; rfl) ?_
   refine Zb (Ze ?_)
   have aH := Zu b
   subst j
   exact ⟨a6, (Zt a c), (((ab).drop).drop).drop, rfl⟩
  replace d := Zk d
  refine WL_passes 15 (by rw [d]; rfl) ?_
  refine Zb (Ze ?_)
  have aI := Zu b
  subst j
  exact ⟨a5, a, (((aa).drop).drop).drop, rfl⟩
 intro aK aS ar
 obtain ⟨a9, az, ax, a0⟩ := ar
 refine (Ze (W_ret ?_))
 have aJ := Zu hm
 subst r
 refine ⟨_, ret1 rfl, ?_⟩
 exact ⟨a9, az, ax, a0⟩
theorem encode_proper_sim {w0 w : World} {s : PHeap} {H : List Res} {fu : Nat} {a : Ground} {k : GState} {b : Value} {c : Value} {d : Value} {f : Value} {g : Value} {h : Value} {i : Value} {r : Bool} (hm : encode_proper_p fu a k = some r) (hS : St w0 s (H) w) (m : SliceRep encAtom s b a.Atoms) (n : SliceRep encGFluent s c a.Fluents) (o : SliceRep (encInt .i64) s d a.Init) (p : SliceRep encCond s f a.Goal) (q : SliceRep encGOp s g a.Ops) (t : SliceRep (encInt .i64) s h k.True) (u : SliceRep (encInt .i64) s i k.Values) :
  Calls Tryz.prog 43 #[Value.agg #[b, c, d, f, g], Value.agg #[h, i]] w fun e w' => ∃ v, e = .returned v ∧ ((fun (ac : Bool) => ∃ (l : PHeap) , PHeap.le s l ∧ St w0 l (H) w' ∧ v = Value.bool (ac)) r) := by
 unfold encode_proper_p at hm
 refine calls_of_W Tryz.func43 rfl rfl (Zc (Zd (Za rfl rfl (Exec.box (cs := [b, c, d, f, g]) hS rfl rfl rfl ?_))))
 intro ae ah x
 refine Za rfl rfl (Exec.box (cs := [h, i]) x rfl rfl rfl ?_)
 intro af ai j
 refine Za rfl rfl (Zo (v := Value.bool (false)) rfl rfl (Zb (Ze (Zc (Zd (Za rfl rfl (Exec.load_box_agg (ds := [b, c, d, f, g]) ((j).f1) A28 rfl rfl rfl (Za rfl rfl (Exec.load_box_agg (ds := [h, i]) (j) A58 rfl rfl rfl (Za rfl rfl (Exec.build rfl parts_nil (v := Value.agg #[Value.slice none 0 0, Value.slice none 0 0, Value.slice none 0 0]) (fun _ => by kernel_rfl) ?_)))))))))))
 obtain ⟨ad, aa, hm⟩ := Zg hm
 refine Za rfl rfl (Tc rfl rfl rfl (Zi rfl (Zi rfl (Zi rfl args_nil))) (ground_Holds_sim aa j m n o p q t u (SliceRep.nil _ _) (SliceRep.nil _ _) (SliceRep.nil _ _)).r ?_)
 rintro _ aj ⟨ab, z, y, rfl⟩
 refine Za rfl rfl (Zo (v := Value.bool (ad)) rfl rfl (Zb (Ze (W_ret ?_))))
 have ag := Zu hm
 subst r
 refine ⟨_, ret1 rfl, ?_⟩
 exact ⟨ab, z, ((y).drop).drop, rfl⟩
end Go.Pw
