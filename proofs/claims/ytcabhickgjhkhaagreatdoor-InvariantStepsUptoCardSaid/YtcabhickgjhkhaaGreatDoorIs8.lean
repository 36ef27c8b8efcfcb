/-
  The walks (printed by my generator).
-/
import Derived.Test.YtcabhickgjhkhaaGreatDoorL29
import Derived.Test.YtcabhickgjhkhaaGreatDoorL27
import Derived.Test.YtcabhickgjhkhaaGreatDoorIs7
set_option maxRecDepth 100000
set_option maxHeartbeats 4000000
set_option linter.unusedVariables false
namespace Go.Pw
open Go.Proofs
theorem ground_Apply_sim {w0 w : World} {s : PHeap} {H : List Res} {fu : Nat} {q : Ground} {ba : GState} {az : Int} {af : Value} {ag : Value} {ah : Value} {ai : Value} {aj : Value} {o : Value} {p : Value} {r : (Option Int) × GState} (hm : ground_Apply_p fu q ba az = some r) (hS : St w0 s (H) w) (aJ : SliceRep encAtom s af q.Atoms) (bJ : SliceRep encGFluent s ag q.Fluents) (bK : SliceRep (encInt .i64) s ah q.Init) (bL : SliceRep encCond s ai q.Goal) (bh : SliceRep encGOp s aj q.Ops) (aK : SliceRep (encInt .i64) s o ba.True) (bi : SliceRep (encInt .i64) s p ba.Values) :
  Calls Tryz.prog 19 #[Value.agg #[af, ag, ah, ai, aj], Value.agg #[o, p], Vi (az)] w fun e w' => ∃ v, e = .returned v ∧ ((un2 fun (dg : (Option Int)) (bI : GState) => ∃ (aC : PHeap) (bF : Value) (bG : Value), PHeap.le s aC ∧ St w0 aC (H) w' ∧ v = Value.tuple #[Value.agg #[bF, bG], errV 45 (dg)] ∧ SliceRep (encInt .i64) aC bF bI.True ∧ SliceRep (encInt .i64) aC bG bI.Values) r) := by
 unfold ground_Apply_p at hm
 refine calls_of_W Tryz.func19 rfl rfl (Zc (Zd (Za rfl rfl (Exec.box (cs := [af, ag, ah, ai, aj]) hS rfl rfl rfl ?_))))
 intro ay dJ bX
 refine Za rfl rfl (Exec.box (cs := [o, p]) bX rfl rfl rfl ?_)
 intro l dK bY
 refine Za rfl rfl (Exec.alloc (cs := [Value.slice none 0 0, Value.slice none 0 0]) bY Z33 rfl rfl ?_)
 intro m dL aL
 refine Za rfl rfl (Zo (v := errV 45 (none)) rfl rfl (Zb (Ze (Zc (Zd (Za rfl rfl (Exec.load_box_agg (ds := [af, ag, ah, ai, aj]) ((aL).f2) A28 rfl rfl rfl (Za rfl rfl (Exec.load_box_agg (ds := [o, p]) ((aL).f1) A33 rfl rfl rfl (Za rfl rfl (Zm (v := Vi (az)) rfl rfl ?_)))))))))))
 obtain ⟨da, cI, hm⟩ := Zg hm
 obtain ⟨ej, ak⟩ := da
 replace hm := un2_eq hm
 refine Za rfl rfl (Tc rfl rfl rfl (Zi rfl (Zi rfl (Zi rfl args_nil))) (ground_assigned_sim cI aL aJ bJ bK bL bh aK bi).r ?_)
 rintro _ dM ⟨aY, a, y, bj, rfl, aA⟩
 refine Za rfl rfl (Zm (v := Value.tuple #[a, errV 45 (ak)]) rfl rfl (Za rfl rfl (Exec.extract (v := a) rfl rfl rfl (Za rfl rfl (Exec.extract (v := errV 45 (ak)) rfl rfl rfl (Za rfl rfl (Zo (v := a) rfl rfl (Za rfl rfl (Zo (v := errV 45 (ak)) rfl rfl (Zb (Ze (Zc (Zc (Zd (Za rfl rfl (Zm (v := errV 45 (ak)) rfl rfl (Za rfl rfl (Exec.err_neq_nil (T := 45) Tryz.underlying38 rfl rfl rfl (Zb (Ze ?_))))))))))))))))))))
 rcases ite_some hm with ⟨an, hm⟩ | ⟨an, hm⟩
 ·refine W_cond_t rfl an (Zc (Zd (Za rfl rfl (Exec.build rfl parts_nil (v := Value.agg #[Value.slice none 0 0, Value.slice none 0 0]) (fun _ => by kernel_rfl) (Za rfl rfl (Zm (v := errV 45 (ak)) rfl rfl (Za rfl rfl (Exec.store_box (ds := [Value.slice none 0 0, Value.slice none 0 0]) (es := [Value.slice none 0 0, Value.slice none 0 0]) bj A33 rfl rfl rfl rfl (Zj rfl (Zj rfl one_nil)) (Nat.le_of_ble_eq_true rfl) rfl ?_))))))))
  intro dN bk
  refine Za rfl rfl (Zo (v := errV 45 (ak)) rfl rfl (Zb (Ze (W_ret (at_ret ?_)))))
  have dl := Zu hm
  subst r
  refine ⟨_, retG2 rfl ⟨_, _, rfl, cellRes (bk) A33⟩ rfl, ?_⟩
  exact ⟨aY, (Value.slice none 0 0), (Value.slice none 0 0), y, (((bk).drop).drop).drop, (tup2 rfl rfl), (SliceRep.nil _ _), (SliceRep.nil _ _)⟩
 refine W_cond_f rfl an ?_
 replace an := Zk an
 refine W_skip (Ze (Zc (Zd (Za rfl rfl (Exec.make_bmap (k := 3) (e := 4) bj rfl ?_)))))
 intro g dO bZ
 refine Za rfl rfl (Exec.make_bmap (k := 3) (e := 4) bZ rfl ?_)
 intro h dP aM
 refine Za rfl rfl (Zo (v := Value.map (some g)) rfl rfl (Za rfl rfl (Zo (v := Value.map (some h)) rfl rfl (Zb (Ze (Zc (Zc (Zd (Za rfl rfl (Zp F28_4 rfl rfl rfl (Za rfl rfl (Zn ((aM).f4) A26 rfl rfl rfl (Za rfl rfl (Zm (v := Vi (az)) rfl rfl ?_))))))))))))))
 obtain ⟨bf, cJ, hm⟩ := Zg hm
 refine Za rfl rfl (Exec.index_rep S26 rfl rfl rfl (bh.mono y) cJ ?_)
 intro dh d9 bM
 refine Za rfl rfl (Zp F63_3 rfl rfl rfl (Za rfl rfl (Zw (E := (encSlice encGChange)) aM A60 rfl rfl rfl (bM.sub (Sub.iso (Sub.snd (Sub.snd (Sub.snd (Sub.fst (Sub.refl _)) rfl) rfl) rfl)) rfl) ?_)))
 intro bH cK
 have aB : SliceRep _ _ _ (bf.Changes) := encSlice_val.1 cK
 refine Za rfl rfl (Zr S60 rfl rfl aB (Za rfl rfl (Zm (v := Vi (0)) rfl rfl (Zb (Ze ?_)))))
 obtain ⟨db, bO, hm⟩ := Zg hm
 refine W_block (W_forS (fun k' s' f' w' => (un2 fun (ad : BMap) (ae : BMap) => ∃ (b8 : PHeap) , PHeap.le aY b8 ∧ St w0 b8 (Res.box ay 28 [af, ag, ah, ai, aj] :: Res.box l 33 [o, p] :: Res.box m 33 [Value.slice none 0 0, Value.slice none 0 0] :: Res.bmap Tryz.prog 3 4 g ad :: Res.bmap Tryz.prog 3 4 h ae :: H) w' ∧ f' 3 = Value.pointer (some ⟨ay, 0, none⟩) ∧ f' 4 = Value.pointer (some ⟨l, 0, none⟩) ∧ f' 6 = Value.pointer (some ⟨m, 0, none⟩) ∧ f' 8 = a ∧ f' 10 = Value.map (some g) ∧ f' 11 = Value.map (some h) ∧ f' 36 = bH ∧ f' 37 = Vi ((bf.Changes.length : Int)) ∧ f' 38 = Vi (k' : Int)) s') bO ?_ ?_ ?_)
 ·have ca := (aM).f1
  exact ⟨aY, (Zv _), (((ca).f2).f3).f4, rfl, rfl, rfl, rfl, rfl, rfl, rfl, rfl, rfl⟩
 ·intro aR dc b9 dz dQ bp bQ b
  obtain ⟨ad, ae⟩ := dc
  replace b := un2_eq b
  obtain ⟨dF, ar, bl, aT, a0, aU, aV, a1, a2, a3, a4, av⟩ := bQ
  refine Zc (Zd (Za rfl rfl (Zq rfl av a4 (Zb (Ze (Zc (W_true (Zx (decide_eq_true (by omega))) (W_skip (Ze (Zc (W_block (Zc (Zd ?_)))))))))))))
  obtain ⟨aH, cL, b⟩ := Zg b
  refine Za rfl rfl (Exec.index_rep S60 rfl a3 av (aB.mono ar) cL ?_)
  intro di dA bN
  refine Za rfl rfl (Zw (E := encGChange) bl A81 rfl rfl rfl bN ?_)
  intro dI cM
  obtain ⟨bb, bc, bd, rfl, b5, b6, b7⟩ := encGChange_val.1 cM
  refine Za rfl rfl (Exec.alloc (cs := [Value.slice none 0 0, Value.slice none 0 0, Value.slice none 0 0, Vi (0), Value.bool (false)]) bl Z81 rfl rfl ?_)
  intro dj dR cb
  refine Za rfl rfl (Exec.store_box (ds := [bb, bc, bd, Vi (aH.Atom), Value.bool (aH.Add)]) (es := [bb, bc, bd, Vi (aH.Atom), Value.bool (aH.Add)]) cb A81 rfl rfl rfl rfl (Zj (b5).one (Zj (b6).one (Zj (b7).one (Zj rfl (Zj rfl one_nil))))) (Nat.le_of_ble_eq_true rfl) rfl ?_)
  intro dS aN
  refine Zb (Ze (Zc (Zc (Zd (Za rfl rfl (Exec.load_box_agg (ds := [o, p]) ((aN).f2) A33 rfl a0 rfl (Za rfl rfl (Zp F81_0 rfl rfl rfl (Za rfl rfl (Exec.load_box_agg (ds := [bb, bc, bd]) (aN) A59 rfl rfl rfl ?_))))))))))
  obtain ⟨ek, cN, b⟩ := Zg b
  refine Za rfl rfl (Tc rfl rfl rfl (Zi rfl (Zi rfl args_nil)) (ground_holds_sim cN aN (aK.mono (Zt y ar)) (bi.mono (Zt y ar)) b5 b6 b7).r ?_)
  rintro _ dT ⟨aD, bq, ac, rfl⟩
  refine Za rfl rfl (Exec.not rfl rfl (Zb (Ze ?_)))
  rcases ite_some b with ⟨ao, b⟩ | ⟨ao, b⟩
  ·refine W_cond_t rfl ao (W_exit (at_exit (ib_here (Ze (Zd (Za rfl rfl (Exec.add rfl av rfl (Za rfl rfl (Zm (v := Vi (IntKind.i64.wrap ((aR : Int) + 1))) rfl rfl (Zb (Ze ?_)))))))))))
   have dm := Zu b
   subst b9
   exact ⟨aD, (Zt ar bq), ((((((ac).drop).f4).f4).f4).f4).f4, aT, a0, aU, aV, a1, a2, a3, a4, (Eq.trans rfl (wrap_up bp (SliceRep.le aB)))⟩
  refine W_cond_f rfl ao ?_
  replace ao := Zk ao
  refine W_skip (Ze (Zc (Zd (Za rfl rfl (Zp F81_2 rfl rfl rfl (Za rfl rfl (Zn (ac) A4 rfl rfl rfl (Zb (Ze ?_)))))))))
  obtain ⟨aF, x, b⟩ := Zg b
  refine W_mid (M := fun f' w' => (un2 fun (br : BMap) (bs : BMap) => ∃ (bA : PHeap) , PHeap.le aD bA ∧ St w0 bA (Res.box ay 28 [af, ag, ah, ai, aj] :: Res.box l 33 [o, p] :: Res.box m 33 [Value.slice none 0 0, Value.slice none 0 0] :: Res.bmap Tryz.prog 3 4 g br :: Res.bmap Tryz.prog 3 4 h bs :: H) w' ∧ f' 3 = Value.pointer (some ⟨ay, 0, none⟩) ∧ f' 4 = Value.pointer (some ⟨l, 0, none⟩) ∧ f' 6 = Value.pointer (some ⟨m, 0, none⟩) ∧ f' 8 = a ∧ f' 10 = Value.map (some g) ∧ f' 11 = Value.map (some h) ∧ f' 36 = bH ∧ f' 37 = Vi ((bf.Changes.length : Int)) ∧ f' 38 = Vi ((aR : Int))) aF) ?_ ?_
  ·rcases ite_some x with ⟨ap, x⟩ | ⟨ap, x⟩
   ·refine W_cond_t rfl ap (Zd (Za rfl rfl (Zm (v := Value.map (some g)) rfl a1 (Za rfl rfl (Zp F81_1 rfl rfl rfl (Za rfl rfl (Zn (ac) A3 rfl rfl rfl ?_)))))))
    obtain ⟨d7, cO, x⟩ := Zg x
    refine Za rfl rfl (Exec.bmap_put (ac).f4 ⟨Tryz.underlying34, Tryz.underlying3, Tryz.underlying4⟩ rfl rfl rfl rfl cO ?_)
    intro dU cc
    refine Zb (Ze ?_)
    have dn := Zu x
    subst aF
    exact ⟨aD, (Zv _), (((((((cc).f1).drop).f4).f1).f4).f4).f4, aT, a0, aU, aV, a1, a2, a3, a4, av⟩
   refine W_cond_f rfl ap ?_
   replace ap := Zk ap
   refine Zd (Za rfl rfl (Zm (v := Value.map (some h)) rfl a2 (Za rfl rfl (Zp F81_1 rfl rfl rfl (Za rfl rfl (Zn (ac) A3 rfl rfl rfl ?_))))))
   obtain ⟨d8, cP, x⟩ := Zg x
   refine Za rfl rfl (Exec.bmap_put (ac).f5 ⟨Tryz.underlying34, Tryz.underlying3, Tryz.underlying4⟩ rfl rfl rfl rfl cP ?_)
   intro dV cd
   refine Zb (Ze ?_)
   have dp := Zu x
   subst aF
   exact ⟨aD, (Zv _), ((((((cd).f1).drop).f4).f4).f4).f4, aT, a0, aU, aV, a1, a2, a3, a4, av⟩
  intro d0 dW bU
  obtain ⟨br, bs⟩ := aF
  replace b := un2_eq b
  obtain ⟨cW, cn, ce, cr, ct, cu, cv, cw, cx, cy, cz, c0⟩ := bU
  refine (ib_normal (Ze (Zd (Za rfl rfl (Exec.add rfl c0 rfl (Za rfl rfl (Zm (v := Vi (IntKind.i64.wrap ((aR : Int) + 1))) rfl rfl (Zb (Ze ?_)))))))))
  have dq := Zu b
  subst b9
  exact ⟨cW, (Zt (Zt ar bq) cn), (((((ce).f4).f4).f4).f4).f4, cr, ct, cu, cv, cw, cx, cy, cz, (Eq.trans rfl (wrap_up bp (SliceRep.le aB)))⟩
 intro d1 dX bR
 obtain ⟨ad, ae⟩ := db
 replace hm := un2_eq hm
 obtain ⟨bB, z, cf, c1, c2, c3, c4, c5, c6, dB, c7, de⟩ := bR
 refine Zc (Zd (Za rfl rfl (Zq rfl de c7 (Zb (Ze (Zc (W_false (Zx (decide_eq_false (by omega))) (W_exit (at_exit (at_exit (ib_here (Ze (Zc (Zd (Za rfl rfl (Zm (v := a) rfl c4 (Za rfl rfl (Exec.build rfl (parts_cons (c := [a]) (cells_of rfl (cells_one ((aA.mono z)).one)) parts_nil) (v := Value.agg #[Value.slice none 0 0, a]) (fun _ => by kernel_rfl) (Za rfl rfl (Exec.alloc (cs := [Value.slice none 0 0, Value.slice none 0 0]) cf Z33 rfl rfl ?_))))))))))))))))))))
 intro ab dY cg
 refine Za rfl rfl (Exec.store_box (ds := [Value.slice none 0 0, a]) (es := [Value.slice none 0 0, a]) cg A33 rfl rfl rfl rfl (Zj rfl (Zj ((aA.mono z)).one one_nil)) (Nat.le_of_ble_eq_true rfl) rfl ?_)
 intro dZ bm
 refine Zb (Ze (Zc (Zc (Zd (Za rfl rfl (Zp F28_0 rfl c1 rfl (Za rfl rfl (Zn ((bm).f1) A22 rfl rfl rfl (Za rfl rfl (Zr S22 rfl rfl (aJ.mono (Zt y z)) (Za rfl rfl (Zm (v := Vi (0)) rfl rfl (Zb (Ze ?_))))))))))))))
 obtain ⟨aI, bP, hm⟩ := Zg hm
 refine W_block (W_forS (fun k' s' f' w' => (fun (aI : (List Int)) => ∃ (bC : PHeap) (j : Value), PHeap.le bB bC ∧ St w0 bC (Res.box l 33 [o, p] :: Res.box m 33 [Value.slice none 0 0, Value.slice none 0 0] :: Res.bmap Tryz.prog 3 4 g ad :: Res.bmap Tryz.prog 3 4 h ae :: Res.box ab 33 [j, a] :: Res.arr (encInt .i64) 3 j aI :: H) w' ∧ f' 4 = Value.pointer (some ⟨l, 0, none⟩) ∧ f' 6 = Value.pointer (some ⟨m, 0, none⟩) ∧ f' 10 = Value.map (some g) ∧ f' 11 = Value.map (some h) ∧ f' 14 = Value.pointer (some ⟨ab, 0, none⟩) ∧ f' 60 = Vi ((q.Atoms.length : Int)) ∧ f' 61 = Vi (k' : Int)) s') bP ?_ ?_ ?_)
 ·have ch := bm.nilArr (encInt .i64) 3
  exact ⟨bB, (Value.slice none 0 0), (Zv _), (((((((ch).f2).drop).f1).f5).f5).f5).f5, c2, c3, c5, c6, rfl, rfl, rfl⟩
 ·intro d aI cX d2 ea cm bS u
  obtain ⟨dG, j, bt, bn, a5, aW, a6, a7, aX, a8, aw⟩ := bS
  refine Zc (Zd (Za rfl rfl (Zq rfl aw a8 (Zb (Ze (Zc (W_true (Zx (decide_eq_true (by omega))) (W_skip (Ze (Zc (W_block (Zc (Zd (Za rfl rfl (Zm (v := Vi ((d : Int))) rfl aw (Za rfl rfl (Zo (v := Vi ((d : Int))) rfl rfl (Zb (Ze (Zc (Zd (Za rfl rfl (Zp F33_0 rfl a5 rfl (Za rfl rfl (Zn (bn) A24 rfl rfl rfl (Za rfl rfl (Zm (v := Vi ((d : Int))) rfl rfl ?_)))))))))))))))))))))))))))
  obtain ⟨dd, cQ, u⟩ := Zg u
  obtain ⟨bg, ax⟩ := dd
  replace u := un2_eq u
  refine Za rfl rfl (Tc rfl rfl rfl (Zi rfl (Zi rfl args_nil)) (slices_BinarySearch_int_sim cQ bn (aK.mono (Zt (Zt y z) bt))).r ?_)
  rintro _ eb ⟨aE, co, am, rfl⟩
  refine Za rfl rfl (Zm (v := Value.tuple #[Vi (bg), Value.bool (ax)]) rfl rfl (Za rfl rfl (Exec.extract (v := Vi (bg)) rfl rfl rfl (Za rfl rfl (Exec.extract (v := Value.bool (ax)) rfl rfl rfl (Za rfl rfl (Zo (v := Vi (bg)) rfl rfl (Za rfl rfl (Zo (v := Value.bool (ax)) rfl rfl (Zb (Ze (Zc ?_))))))))))))
  obtain ⟨al, i, u⟩ := Zg u
  refine W_mid (M := fun f' w' => (fun (al : Bool) => ∃ (bD : PHeap) , PHeap.le aE bD ∧ St w0 bD (Res.box l 33 [o, p] :: Res.box m 33 [Value.slice none 0 0, Value.slice none 0 0] :: Res.bmap Tryz.prog 3 4 g ad :: Res.bmap Tryz.prog 3 4 h ae :: Res.box ab 33 [j, a] :: Res.arr (encInt .i64) 3 j aI :: H) w' ∧ f' 4 = Value.pointer (some ⟨l, 0, none⟩) ∧ f' 6 = Value.pointer (some ⟨m, 0, none⟩) ∧ f' 10 = Value.map (some g) ∧ f' 11 = Value.map (some h) ∧ f' 14 = Value.pointer (some ⟨ab, 0, none⟩) ∧ f' 15 = Vi ((d : Int)) ∧ f' 60 = Vi ((q.Atoms.length : Int)) ∧ f' 61 = Vi ((d : Int)) ∧ f' 82 = Value.bool (al)) al) ?_ ?_
  ·refine Zd (Za rfl rfl (Zm (v := Value.map (some g)) rfl a6 (Za rfl rfl (Zm (v := Vi ((d : Int))) rfl rfl ?_))))
   obtain ⟨cR, cS, i⟩ := Zg i
   refine Za rfl rfl (Exec.bmap_get ((am).f2) ⟨Tryz.underlying34, Tryz.underlying3, Tryz.underlying4⟩ Z4 rfl rfl rfl cS (Za rfl rfl (Zm (v := Value.bool (cR)) rfl rfl ?_)))
   rcases ite_some i with ⟨n, i⟩ | ⟨n, i⟩
   ·refine WL_passes 8 (by rw [n]; rfl) ?_
    refine Zb (Ze ?_)
    have dr := Zu i
    subst al
    exact ⟨aE, (Zv _), ((((((am).f5).f5).f5).f5).f5).f5, a5, aW, a6, a7, aX, rfl, a8, aw, rfl⟩
   replace n := Zk n
   refine WL_run rfl (Zf rfl (Zx n)) rfl (Zm (v := Value.bool (ax)) rfl rfl (WL_run rfl (Zf rfl (Zx n)) rfl (Zm (v := Value.bool (ax)) rfl rfl ?_)))
   rcases ite_some i with ⟨t, i⟩ | ⟨t, i⟩
   ·refine WL_run rfl (Zf rfl (Zx t)) rfl (Zm (v := Value.map (some h)) rfl a7 (WL_run rfl (Zf rfl (Zx t)) rfl (Zm (v := Vi ((d : Int))) rfl rfl ?_)))
    obtain ⟨b4, cT, i⟩ := Zg i
    refine WL_run rfl (Zf rfl (Zx t)) rfl (Exec.bmap_get ((am).f3) ⟨Tryz.underlying34, Tryz.underlying3, Tryz.underlying4⟩ Z4 rfl rfl rfl cT (WL_run rfl (Zf rfl (Zx t)) rfl (Exec.not rfl rfl (WL_run rfl (Zf rfl (Zx n)) rfl (Zs (v := Value.bool (!b4)) rfl (Zx t) rfl (Za rfl rfl (Exec.pick_f (v := Value.bool (!b4)) rfl (Zx n) rfl (Zb (Ze ?_)))))))))
    have dt := Zu i
    subst al
    exact ⟨aE, (Zv _), ((((((am).f5).f5).f5).f5).f5).f5, a5, aW, a6, a7, aX, rfl, a8, aw, rfl⟩
   replace t := Zk t
   refine WL_passes 4 (by rw [t]; rfl) ?_
   refine WL_run rfl (Zf rfl (Zx n)) rfl (Exec.pick_f (v := Value.bool (false)) rfl rfl rfl (Za rfl rfl (Exec.pick_f (v := Value.bool (false)) rfl (Zx n) rfl (Zb (Ze ?_)))))
   have du := Zu i
   subst al
   exact ⟨aE, (Zv _), ((((((am).f5).f5).f5).f5).f5).f5, a5, aW, a6, a7, aX, rfl, a8, aw, rfl⟩
  intro d3 ec bV
  obtain ⟨aZ, cp, aO, bv, bw, bx, bz, a9, c8, b0, b1, b2⟩ := bV
  refine (Ze ?_)
  obtain ⟨au, aa, u⟩ := Zg u
  refine W_mid (M := fun f' w' => (fun (au : (List Int)) => ∃ (bE : PHeap) (aG : Value), PHeap.le aZ bE ∧ St w0 bE (Res.box l 33 [o, p] :: Res.box m 33 [Value.slice none 0 0, Value.slice none 0 0] :: Res.bmap Tryz.prog 3 4 g ad :: Res.bmap Tryz.prog 3 4 h ae :: Res.box ab 33 [aG, a] :: Res.arr (encInt .i64) 3 aG au :: H) w' ∧ f' 4 = Value.pointer (some ⟨l, 0, none⟩) ∧ f' 6 = Value.pointer (some ⟨m, 0, none⟩) ∧ f' 10 = Value.map (some g) ∧ f' 11 = Value.map (some h) ∧ f' 14 = Value.pointer (some ⟨ab, 0, none⟩) ∧ f' 60 = Vi ((q.Atoms.length : Int)) ∧ f' 61 = Vi ((d : Int))) au) ?_ ?_
  ·rcases ite_some aa with ⟨aq, aa⟩ | ⟨aq, aa⟩
   ·refine W_cond_t b2 aq (Zd (Za rfl rfl (Zp F33_0 rfl a9 rfl (Za rfl rfl (Zn ((aO).f4) A24 rfl rfl rfl (Za rfl rfl (Zm (v := Vi ((d : Int))) rfl c8 (Za rfl rfl (Exec.buildSlice (Te := 3) (cs := [Vi ((d : Int))]) aO rfl (parts_cons (c := [Vi ((d : Int))]) (cells_of rfl rfl) parts_nil) (fun _ => by kernel_rfl) ?_)))))))))
    intro dk ed ci
    obtain ⟨d6, cU, aa⟩ := Zg aa
    refine Za rfl rfl (Exec.append_box (E := (encInt .i64)) (ys := [(d : Int)]) (ci).f6 S24 Z3 rfl (by decide) rfl rfl rfl rfl ⟨[Vi ((d : Int))], [], rfl, rfl, rfl⟩ rfl cU ?_)
    intro be ee aP
    refine Za rfl rfl (Zp F33_0 rfl a9 rfl (Za rfl rfl (Exec.store_box (ds := [be]) (es := [be, a]) (aP).f5 A24 rfl rfl rfl (cells_one (((aP).f5).f1).arr_one) (Zj (((aP).f5).f1).arr_one one_nil) (Nat.le_of_ble_eq_true rfl) rfl ?_)))
    intro ef cj
    refine Zb (Ze ?_)
    have dv := Zu aa
    subst au
    exact ⟨aZ, be, (Zv _), ((((((cj).f1).f1).f5).f5).f5).f5, bv, bw, bx, bz, a9, b0, b1⟩
   refine W_cond_f b2 aq ?_
   replace aq := Zk aq
   refine W_skip (Ze ?_)
   have dw := Zu aa
   subst au
   exact ⟨aZ, j, (Zv _), ((((((aO).f5).f5).f5).f5).f5).f5, bv, bw, bx, bz, a9, b0, b1⟩
  intro d4 eg bW
  obtain ⟨cY, aG, cq, ck, c9, cA, cB, cC, cD, cE, cF⟩ := bW
  refine (ib_normal (Ze (Zd (Za rfl rfl (Exec.add rfl cF rfl (Za rfl rfl (Zm (v := Vi (IntKind.i64.wrap ((d : Int) + 1))) rfl rfl (Zb (Ze ?_)))))))))
  have dx := Zu u
  subst cX
  exact ⟨cY, aG, (Zt (Zt (Zt bt co) cp) cq), ((((((ck).f5).f5).f5).f5).f5).f5, c9, cA, cB, cC, cD, cE, (Eq.trans rfl (wrap_up cm (SliceRep.le (aJ.mono (Zt y z)))))⟩
 intro d5 eh bT
 obtain ⟨dH, j, aS, aQ, dC, b3, dD, dE, cG, cH, df⟩ := bT
 refine Zc (Zd (Za rfl rfl (Zq rfl df cH (Zb (Ze (Zc (W_false (Zx (decide_eq_false (by omega))) (W_exit (at_exit (at_exit (ib_here (Ze (Zc (Zd (Za rfl rfl (Exec.load_box_agg (ds := [j, a]) ((aQ).f4) A33 rfl cG rfl (Za rfl rfl (Exec.store_box (ds := [j, a]) (es := [j, a]) (aQ).f1 A33 rfl b3 rfl rfl (Zj (((aQ).f1).f5).arr_one (Zj ((aA.mono (Zt z aS))).one one_nil)) (Nat.le_of_ble_eq_true rfl) rfl ?_))))))))))))))))))
 intro ei bo
 refine Za rfl rfl (Zo (v := errV 45 (none)) rfl rfl (Zb (Ze (W_ret ?_))))
 have dy := Zu hm
 subst r
 refine ⟨_, retG2 rfl ⟨_, _, b3, cellRes (bo) A33⟩ rfl, ?_⟩
 obtain ⟨cZ, bu, cl, cV⟩ := (bo).f5.freezeArr
 exact ⟨cZ, j, a, (Zt (Zt (Zt y z) aS) bu), (((((cl).drop).drop).drop).drop).drop, (tup2 rfl rfl), cV, (aA.mono (Zt (Zt z aS) bu))⟩
theorem law20_InvariantSteps_sim {w0 w : World} {s : PHeap} {H : List Res} {fu : Nat} {g1 : Ground} {steps12 : (List Int)} {v2 : Value} {v4 : Value} {v6 : Value} {v8 : Value} {v10 : Value} {v13 : Value} {r : Bool} (hm : law20_InvariantSteps_p fu g1 steps12 = some r) (hS : St w0 s (H) w) (a3 : SliceRep encAtom s v2 g1.Atoms) (a5 : SliceRep encGFluent s v4 g1.Fluents) (a7 : SliceRep (encInt .i64) s v6 g1.Init) (a9 : SliceRep encCond s v8 g1.Goal) (a11 : SliceRep encGOp s v10 g1.Ops) (a14 : SliceRep (encInt .u8) s v13 steps12) (ht : TabR Tryz.prog w0 s) :
  Calls Tryz.prog 8 #[Value.agg #[v2, v4, v6, v8, v10], v13] w fun e w' => ∃ v, e = .returned v ∧ ((fun (y16 : Bool) => ∃ (bA : PHeap) , PHeap.le s bA ∧ St w0 bA (H) w' ∧ v = Value.bool (y16)) r) := by
 unfold law20_InvariantSteps_p at hm
 refine calls_of_W Tryz.func8 rfl rfl (Zc (Zd (Za rfl rfl (Exec.box (cs := [v2, v4, v6, v8, v10]) hS rfl rfl rfl ?_))))
 intro j e2 cg
 refine Za rfl rfl (Zo (v := Value.bool (false)) rfl rfl (Zb (Ze (Zc (Zc ?_)))))
 obtain ⟨ak, n, hm⟩ := Zg hm
 refine W_mid (M := fun f' w' => (fun (ak : Bool) => ∃ (bB : PHeap) , PHeap.le s bB ∧ St w0 bB (Res.box j 28 [v2, v4, v6, v8, v10] :: H) w' ∧ f' 1 = v13 ∧ f' 2 = Value.pointer (some ⟨j, 0, none⟩) ∧ f' 24 = Value.bool (ak)) ak) ?_ ?_
 ·refine Zd ?_
  obtain ⟨dC, dl, n⟩ := Zg n
  refine Za rfl rfl (Tc rfl rfl rfl args_nil (law20_awake_sim dl cg  ht).r ?_)
  rintro _ e3 ⟨dy, aa, aK, rfl⟩
  refine Za rfl rfl (Exec.not rfl rfl (Za rfl rfl (Zm (v := Value.bool (!dC)) rfl rfl ?_)))
  rcases ite_some n with ⟨ab, n⟩ | ⟨ab, n⟩
  ·refine WL_passes 9 (by rw [ab]; rfl) ?_
   refine Zb (Ze ?_)
   have dG := Zu n
   subst ak
   exact ⟨dy, aa, aK, rfl, rfl, rfl⟩
  replace ab := Zk ab
  refine WL_run rfl (Zf rfl (Zx ab)) rfl (Exec.load_box_agg (ds := [v2, v4, v6, v8, v10]) (aK) A28 rfl rfl rfl ?_)
  obtain ⟨eS, dm, n⟩ := Zg n
  refine WL_run rfl (Zf rfl (Zx ab)) rfl (Tc rfl rfl rfl (Zi rfl args_nil) (law20_few_sim dm aK (a3.mono aa) (a5.mono aa) (a7.mono aa) (a9.mono aa) (a11.mono aa)).r ?_)
  rintro _ e4 ⟨bC, aP, bh, rfl⟩
  refine WL_run rfl (Zf rfl (Zx ab)) rfl (Exec.not rfl rfl ?_)
  refine WL_passes 2 (by rw [ab]; rfl) ?_
  rcases ite_some n with ⟨ac, n⟩ | ⟨ac, n⟩
  ·refine WL_passes 4 (by rw [ac]; rfl) ?_
   refine Zb (Ze ?_)
   have dH := Zu n
   subst ak
   exact ⟨bC, (Zt aa aP), bh, rfl, rfl, rfl⟩
  replace ac := Zk ac
  refine WL_run rfl (Zf rfl (Zx ac)) rfl (Zm (v := v13) rfl rfl (WL_run rfl (Zf rfl (Zx ac)) rfl (Zr S49 rfl rfl (a14.mono (Zt aa aP)) (WL_run rfl (Zf rfl (Zx ac)) rfl (Exec.gtr rfl rfl rfl (Za rfl rfl (Exec.pick_f (v := Value.bool (decide (40 < (steps12.length : Int)))) rfl (Zx ac) rfl (Zb (Ze ?_)))))))))
  have dI := Zu n
  subst ak
  exact ⟨bC, (Zt aa aP), bh, rfl, rfl, rfl⟩
 intro dW e5 ca
 obtain ⟨eu, a, aL, cK, aR, br⟩ := ca
 refine (Ze ?_)
 rcases ite_some hm with ⟨am, hm⟩ | ⟨am, hm⟩
 ·refine W_cond_t br am (Zc (Zd ?_))
  obtain ⟨dD, dn, hm⟩ := Zg hm
  refine Za rfl rfl (Tc rfl rfl rfl args_nil (law20_awake_sim dn aL  (ht.mono a)).r ?_)
  rintro _ e6 ⟨dz, cE, ch, rfl⟩
  refine Za rfl rfl (Zo (v := Value.bool (dD)) rfl rfl (Zb (Ze (W_ret (at_ret ?_)))))
  have dJ := Zu hm
  subst r
  refine ⟨_, ret1 rfl, ?_⟩
  exact ⟨dz, (Zt a cE), (ch).drop, rfl⟩
 refine W_cond_f br am ?_
 replace am := Zk am
 refine W_skip (Ze (Zc (Zd (Za rfl rfl (Exec.load_box_agg (ds := [v2, v4, v6, v8, v10]) (aL) A28 rfl aR rfl ?_)))))
 obtain ⟨d6, dp, hm⟩ := Zg hm
 obtain ⟨bH, aH⟩ := d6
 replace hm := un2_eq hm
 refine Za rfl rfl (Tc rfl rfl rfl (Zi rfl args_nil) (invariant_Groups_sim dp aL (a3.mono a) (a5.mono a) (a7.mono a) (a9.mono a) (a11.mono a) (ht.mono a)).r ?_)
 rintro _ e7 ⟨d0, o, c, aM, rfl, aU⟩
 refine Za rfl rfl (Zm (v := Value.tuple #[o, errV 45 (aH)]) rfl rfl (Za rfl rfl (Exec.extract (v := o) rfl rfl rfl (Za rfl rfl (Exec.extract (v := errV 45 (aH)) rfl rfl rfl (Za rfl rfl (Zo (v := o) rfl rfl (Za rfl rfl (Zo (v := errV 45 (aH)) rfl rfl (Zb (Ze (Zc (Zc (Zd (Za rfl rfl (Zm (v := errV 45 (aH)) rfl rfl (Za rfl rfl (Exec.err_neq_nil (T := 45) Tryz.underlying38 rfl rfl rfl (Zb (Ze ?_))))))))))))))))))))
 rcases ite_some hm with ⟨an, hm⟩ | ⟨an, hm⟩
 ·refine W_cond_t rfl an (Zc (Zd (Za rfl rfl (Zo (v := Value.bool (false)) rfl rfl (Zb (Ze (W_ret (at_ret ?_))))))))
  have dK := Zu hm
  subst r
  refine ⟨_, ret1 rfl, ?_⟩
  exact ⟨d0, (Zt a c), (aM).drop, rfl⟩
 refine W_cond_f rfl an ?_
 replace an := Zk an
 refine W_skip (Ze (Zc (Zd (Za rfl rfl (Exec.load_box_agg (ds := [v2, v4, v6, v8, v10]) (aM) A28 rfl aR rfl ?_)))))
 obtain ⟨eT, dq, hm⟩ := Zg hm
 refine Za rfl rfl (Tc rfl rfl rfl (Zi rfl args_nil) (ground_Initial_sim dq aM (a3.mono (Zt a c)) (a5.mono (Zt a c)) (a7.mono (Zt a c)) (a9.mono (Zt a c)) (a11.mono (Zt a c))).r ?_)
 rintro _ e8 ⟨aV, aY, aZ, g, ci, rfl, b4, b5⟩
 refine Za rfl rfl (Exec.alloc (cs := [Value.slice none 0 0, Value.slice none 0 0]) ci Z33 rfl rfl ?_)
 intro l e9 cj
 refine Za rfl rfl (Exec.store_box (ds := [aY, aZ]) (es := [aY, aZ]) cj A33 rfl rfl rfl rfl (Zj (b4).one (Zj (b5).one one_nil)) (Nat.le_of_ble_eq_true rfl) rfl ?_)
 intro eA ck
 refine Zb (Ze (Zc (Zd (Za rfl rfl (Zo (v := Vi (0)) rfl rfl (Zb (Ze ?_)))))))
 obtain ⟨be, bV, bl, c1, cy⟩ := ctl_some hm
 refine W_mid (M := fun f' w' => ∃ s', (be = .next s' ∨ be = .brk s') ∧ (un3 fun (bp : Int) (bJ : (List Int)) (bK : (List Int)) => ∃ (a1 : PHeap) (ba : Value) (bb : Value), PHeap.le aV a1 ∧ St w0 a1 (Res.box j 28 [v2, v4, v6, v8, v10] :: Res.box l 33 [ba, bb] :: H) w' ∧ f' 1 = v13 ∧ f' 2 = Value.pointer (some ⟨j, 0, none⟩) ∧ f' 5 = o ∧ f' 7 = Value.pointer (some ⟨l, 0, none⟩) ∧ f' 8 = Vi (bp) ∧ SliceRep (encInt .i64) a1 ba bJ ∧ SliceRep (encInt .i64) a1 bb bK) s') ?_ ?_
 ·refine W_block (W_while (fun s' f' w' => (un3 fun (p : Int) (bL : (List Int)) (bM : (List Int)) => ∃ (a2 : PHeap) (u : Value) (x : Value), PHeap.le aV a2 ∧ St w0 a2 (Res.box j 28 [v2, v4, v6, v8, v10] :: Res.box l 33 [u, x] :: H) w' ∧ f' 1 = v13 ∧ f' 2 = Value.pointer (some ⟨j, 0, none⟩) ∧ f' 5 = o ∧ f' 7 = Value.pointer (some ⟨l, 0, none⟩) ∧ f' 8 = Vi (p) ∧ SliceRep (encInt .i64) a2 u bL ∧ SliceRep (encInt .i64) a2 x bM) s') bV ?_ ?_)
  ·have cl := (ck).f1
   exact ⟨aV, aY, aZ, (Zv _), cl, cK, aR, rfl, rfl, rfl, b4, b5⟩
  intro d7 aJ dX eB bX m bo
  obtain ⟨p, bL, bM⟩ := d7
  replace m := un3_eq m
  obtain ⟨aW, u, x, d, cm, cL, cM, bs, cN, cO, au, av⟩ := bX
  refine Zc (W_block (Zc (Zc (Zd (Za rfl rfl (Zm (v := o) rfl bs (Za rfl rfl (Zr S36 rfl rfl (aU.mono (Zt g d)) (Za rfl rfl (Zm (v := Vi (0)) rfl rfl (Zb (Ze ?_))))))))))))
  obtain ⟨bf, bW, c6, c2, cz⟩ := ctl_some m
  refine W_mid (M := fun f' w' => ∃ s', (bf = .next s' ∨ bf = .brk s') ∧ (fun (_ : Unit) => ∃ (bD : PHeap) , PHeap.le aW bD ∧ St w0 bD (Res.box j 28 [v2, v4, v6, v8, v10] :: Res.box l 33 [u, x] :: H) w' ∧ f' 1 = v13 ∧ f' 2 = Value.pointer (some ⟨j, 0, none⟩) ∧ f' 5 = o ∧ f' 7 = Value.pointer (some ⟨l, 0, none⟩) ∧ f' 8 = Vi (p) ∧ f' 37 = o ∧ f' 38 = Vi ((bH.length : Int))) s') ?_ ?_
  ·refine W_block (W_forC (fun k' s' f' w' => (fun (_ : Unit) => ∃ (bE : PHeap) , PHeap.le aW bE ∧ St w0 bE (Res.box j 28 [v2, v4, v6, v8, v10] :: Res.box l 33 [u, x] :: H) w' ∧ f' 1 = v13 ∧ f' 2 = Value.pointer (some ⟨j, 0, none⟩) ∧ f' 5 = o ∧ f' 7 = Value.pointer (some ⟨l, 0, none⟩) ∧ f' 8 = Vi (p) ∧ f' 37 = o ∧ f' 38 = Vi ((bH.length : Int)) ∧ f' 39 = Vi (k' : Int)) s') bW ?_ ?_ ?_)
   ·have cn := (cm).f1
    exact ⟨aW, (Zv _), (cn).f1, cL, cM, bs, cN, cO, rfl, rfl, rfl⟩
   ·intro cD ex bg dY eC c0 bY z cB
    obtain ⟨ev, ax, aN, cP, cQ, cR, bt, cS, bu, bv, bc⟩ := bY
    refine Zc (Zd (Za rfl rfl (Zq rfl bc bv (Zb (Ze (Zc (W_true (Zx (decide_eq_true (by omega))) (W_skip (Ze (Zc (W_block (Zc (Zd ?_)))))))))))))
    obtain ⟨dA, dr, z⟩ := Zg z
    refine Za rfl rfl (Exec.index_rep S36 rfl bu bc (aU.mono (Zt (Zt g d) ax)) dr ?_)
    intro dE ej bR
    refine Za rfl rfl (Zw (E := (encSlice (encInt .i64))) aN A24 rfl rfl rfl bR ?_)
    intro bG dt
    have dx : SliceRep _ _ _ (dA) := encSlice_val.1 dt
    refine Za rfl rfl (Zo (v := bG) rfl rfl (Zb (Ze (Zc (Zd (Za rfl rfl (Exec.load_box_agg (ds := [u, x]) ((aN).f1) A33 rfl bt rfl (Za rfl rfl (Zm (v := bG) rfl rfl ?_)))))))))
    obtain ⟨eU, du, z⟩ := Zg z
    refine Za rfl rfl (Tc rfl rfl rfl (Zi rfl (Zi rfl args_nil)) (invariant_Holds_sim du aN (au.mono ax) (av.mono ax) dx).r ?_)
    rintro _ eD ⟨bF, bq, bi, rfl⟩
    refine Za rfl rfl (Exec.not rfl rfl (Zb (Ze ?_)))
    rcases ite_some z with ⟨ao, z⟩ | ⟨ao, z⟩
    ·refine W_cond_t rfl ao (Zc (Zd (Za rfl rfl (Zo (v := Value.bool (false)) rfl rfl (Zb (Ze (W_ret (ib_ret (at_ret (at_ret (ib_ret (at_ret (at_ret (ib_ret (at_ret (at_ret (ib_ret (at_ret ?_))))))))))))))))))
     have dL := Zu z
     subst bg
     have c3 := c6 _ (cB (by intro _ h; cases h))
     have dM := Zu c3
     subst aJ
     have c4 := bl _ (bo (by intro _ h; cases h))
     have dN := Zu c4
     subst r
     refine ⟨_, ret1 rfl, ?_⟩
     exact ⟨bF, (Zt (Zt (Zt (Zt (Zt a c) g) d) ax) bq), ((bi).drop).drop, rfl⟩
    refine W_cond_f rfl ao ?_
    replace ao := Zk ao
    refine W_skip (ib_normal (Ze (Zd (Za rfl rfl (Exec.add rfl bc rfl (Za rfl rfl (Zm (v := Vi (IntKind.i64.wrap ((cD : Int) + 1))) rfl rfl (Zb (Ze ?_)))))))))
    have dO := Zu z
    subst bg
    refine ⟨_, rfl, ?_⟩; exact ⟨bF, (Zt ax bq), ((bi).f1).f1, cP, cQ, cR, bt, cS, bu, bv, (Eq.trans rfl (wrap_up c0 (SliceRep.le (aU.mono (Zt g d)))))⟩
   intro ey dZ eE bZ cC
   obtain ⟨d1, cF, co, cT, cU, cV, cW, cX, cY, bw, dB⟩ := bZ
   refine Zc (Zd (Za rfl rfl (Zq rfl dB bw (Zb (Ze (Zc (W_false (Zx (decide_eq_false (by omega))) (W_exit (at_exit (at_exit (ib_here (Ze ?_))))))))))))
   refine ⟨_, .inl cC, ?_⟩; exact ⟨d1, cF, ((co).f1).f1, cT, cU, cV, cW, cX, cY, bw⟩
  rintro ea eF ⟨ez, bj, cb⟩
  have m := bj.elim (c2 _) (cz _)
  clear bj
  obtain ⟨a4, b, y, ai, ad, aS, ay, aj, el, em⟩ := cb
  refine (Ze (Zc (Zc (Zd (Za rfl rfl (Zm (v := Vi (p)) rfl aj (Za rfl rfl (Zm (v := v13) rfl ai (Za rfl rfl (Zr S49 rfl rfl (a14.mono (Zt (Zt (Zt (Zt a c) g) d) b)) (Za rfl rfl (Exec.eql rfl rfl rfl (Zb (Ze ?_))))))))))))))
  rcases ite_some m with ⟨ap, m⟩ | ⟨ap, m⟩
  ·refine W_cond_t rfl ap (Zc (Zd (Za rfl rfl (Zo (v := Value.bool (true)) rfl rfl (Zb (Ze (W_ret (at_ret (ib_ret (at_ret (at_ret (ib_ret (at_ret ?_)))))))))))))
   have dP := Zu m
   subst aJ
   have c5 := bl _ (bo (by intro _ h; cases h))
   have dQ := Zu c5
   subst r
   refine ⟨_, ret1 rfl, ?_⟩
   exact ⟨a4, (Zt (Zt (Zt (Zt a c) g) d) b), ((y).drop).drop, rfl⟩
  refine W_cond_f rfl ap ?_
  replace ap := Zk ap
  refine W_skip (Ze (Zc (Zd (Za rfl rfl (Zp F28_4 rfl ad rfl (Za rfl rfl (Zn (y) A26 rfl rfl rfl (Za rfl rfl (Zr S26 rfl rfl (a11.mono (Zt (Zt (Zt (Zt a c) g) d) b)) (Za rfl rfl (Exec.gtr rfl rfl rfl (Zb (Ze ?_)))))))))))))
  obtain ⟨aB, i, m⟩ := Zg m
  refine W_mid (M := fun f' w' => (un2 fun (bN : (List Int)) (bO : (List Int)) => ∃ (a6 : PHeap) (aD : Value) (aE : Value), PHeap.le a4 a6 ∧ St w0 a6 (Res.box j 28 [v2, v4, v6, v8, v10] :: Res.box l 33 [aD, aE] :: H) w' ∧ f' 1 = v13 ∧ f' 2 = Value.pointer (some ⟨j, 0, none⟩) ∧ f' 5 = o ∧ f' 7 = Value.pointer (some ⟨l, 0, none⟩) ∧ f' 8 = Vi (p) ∧ SliceRep (encInt .i64) a6 aD bN ∧ SliceRep (encInt .i64) a6 aE bO) aB) ?_ ?_
  ·rcases ite_some i with ⟨aq, i⟩ | ⟨aq, i⟩
   ·refine W_cond_t rfl aq (Zc ?_)
    obtain ⟨eR, dv, i⟩ := Zg i
    obtain ⟨e0, b2, i⟩ := Zg i
    obtain ⟨d8, b3, i⟩ := Zg i
    obtain ⟨t, bI⟩ := d8
    replace i := un2_eq i
    refine W_mid (M := fun f' w' => ∃ (a8 : PHeap) (ae : Value) (af : Value) (aI : Nat), PHeap.le a4 a8 ∧ St w0 a8 (Res.box j 28 [v2, v4, v6, v8, v10] :: Res.box l 33 [u, x] :: Res.box aI 33 [ae, af] :: H) w' ∧ f' 1 = v13 ∧ f' 2 = Value.pointer (some ⟨j, 0, none⟩) ∧ f' 5 = o ∧ f' 7 = Value.pointer (some ⟨l, 0, none⟩) ∧ f' 8 = Vi (p) ∧ f' 11 = Value.pointer (some ⟨aI, 0, none⟩) ∧ f' 12 = errV 45 (t) ∧ SliceRep (encInt .i64) a8 ae bI.True ∧ SliceRep (encInt .i64) a8 af bI.Values) ?_ ?_
    ·refine W_dl (n0 := 17) (qs 0 11 (.alt (.e 11 [] (qs 12 3 (.e 15 [12, 13, 14] (.e 16 [14] .done)))) (.e 15 [0, 1, 2, 3, 4, 5, 6, 7, 8, 9, 10] (.e 11 [] (qs 12 3 (.e 16 [14] .done)))))) hmix (by kernel_rfl) (by kernel_rfl) (DL_q rfl rfl (Exec.load_box_agg (ds := [v2, v4, v6, v8, v10]) (y.drew) A28 rfl ad rfl ⟨rfl, ?_⟩))
     refine DL_q rfl rfl (Exec.load_box_agg (ds := [u, x]) ((y.drew).f1) A33 rfl ay rfl ⟨rfl, ?_⟩)
     refine DL_q rfl rfl (Zm (v := v13) rfl ai ⟨rfl, ?_⟩)
     refine DL_q rfl rfl (Zm (v := Vi (p)) rfl aj ⟨rfl, ?_⟩)
     refine DL_q rfl rfl (Exec.index_repE S49 rfl rfl rfl (a14.mono (Zt (Zt (Zt (Zt a c) g) d) b)) dv ?_)
     intro dF ek bd bU
     refine ⟨rfl, ?_⟩
     refine DL_q rfl rfl (Zw (E := (encInt .u8)) y.drew A5 rfl rfl rfl bd ?_)
     intro e1 dw
     obtain rfl := encInt_val.1 dw
     refine ⟨rfl, ?_⟩
     refine DL_q rfl rfl (Exec.convert_int (by rw [Tryz.underlying5]; rfl) Tryz.underlying3 rfl rfl ⟨rfl, ?_⟩)
     refine DL_q rfl rfl (Zp F28_4 rfl ad rfl ⟨rfl, ?_⟩)
     refine DL_q rfl rfl (Zn (y.drew) A26 rfl rfl rfl ⟨rfl, ?_⟩)
     refine DL_q rfl rfl (Zr S26 rfl rfl (a11.mono (Zt (Zt (Zt (Zt a c) g) d) b)) ⟨rfl, ?_⟩)
     refine DL_q rfl rfl (Exec.rem rfl rfl rfl (by simpa using must_some b2) ⟨rfl, ?_⟩)
     refine DL_alt ?_ ?_
     ·refine DL_e rfl rfl (Tc rfl rfl rfl (Zi rfl (Zi rfl (Zi rfl args_nil))) (ground_Apply_sim b3 y.drew (a3.mono (Zt (Zt (Zt (Zt a c) g) d) b)) (a5.mono (Zt (Zt (Zt (Zt a c) g) d) b)) (a7.mono (Zt (Zt (Zt (Zt a c) g) d) b)) (a9.mono (Zt (Zt (Zt (Zt a c) g) d) b)) (a11.mono (Zt (Zt (Zt (Zt a c) g) d) b)) (au.mono b) (av.mono b)).r ?_)
      rintro _ eG ⟨d2, ag, ah, cG, cp, rfl, b6, b7⟩
      refine ⟨ag_nil, ?_⟩
      refine DL_q rfl rfl (Zm (v := Value.tuple #[Value.agg #[ag, ah], errV 45 (t)]) rfl rfl ⟨rfl, ?_⟩)
      refine DL_q rfl rfl (Exec.extract (v := Value.agg #[ag, ah]) rfl rfl rfl ⟨rfl, ?_⟩)
      refine DL_q rfl rfl (Exec.extract (v := errV 45 (t)) rfl rfl rfl ⟨rfl, ?_⟩)
      refine DL_e rfl rfl (Exec.alloc (cs := [Value.slice none 0 0, Value.slice none 0 0]) cp Z33 rfl rfl ?_)
      intro bS eH cq
      refine ⟨(ag_cons (ag_r rfl rfl (Zm (v := Value.tuple #[Value.agg #[ag, ah], errV 45 (t)]) rfl rfl ⟨rfl, rfl⟩)) (ag_cons (ag_r rfl rfl (Exec.extract (v := Value.agg #[ag, ah]) rfl rfl rfl ⟨rfl, rfl⟩)) (ag_cons (ag_r rfl rfl (Exec.extract (v := errV 45 (t)) rfl rfl rfl ⟨rfl, rfl⟩)) ag_nil))), ?_⟩
      refine DL_e rfl rfl (Exec.store_box (ds := [ag, ah]) (es := [ag, ah]) cq A33 rfl rfl rfl rfl (Zj (b6).one (Zj (b7).one one_nil)) (Nat.le_of_ble_eq_true rfl) rfl ?_)
      intro eI cr
      refine ⟨(ag_cons (ag_r rfl rfl (Exec.extract (v := errV 45 (t)) rfl rfl rfl ⟨rfl, rfl⟩)) ag_nil), ?_⟩
      refine DL_done (Za rfl rfl (Zo (v := errV 45 (t)) rfl rfl (Zb (Ze ?_))))
      exact ⟨d2, ag, ah, bS, cG, ((cr).f2).f2, ai, ad, aS, ay, aj, rfl, rfl, b6, b7⟩
     refine DL_e rfl rfl (Exec.alloc (cs := [Value.slice none 0 0, Value.slice none 0 0]) y.drew Z33 rfl rfl ?_)
     intro bT eJ al
     refine ⟨(ag_cons (ag_r rfl rfl (Exec.load_box_agg (ds := [v2, v4, v6, v8, v10]) ((al).f1) A28 rfl ad rfl ⟨rfl, rfl⟩)) (ag_cons (ag_r rfl rfl (Exec.load_box_agg (ds := [u, x]) ((al).f2) A33 rfl ay rfl ⟨rfl, rfl⟩)) (ag_cons (ag_r rfl rfl (Zm (v := v13) rfl ai ⟨rfl, rfl⟩)) (ag_cons (ag_r rfl rfl (Zm (v := Vi (p)) rfl aj ⟨rfl, rfl⟩)) (ag_cons (ag_r rfl rfl (Exec.index_run rfl rfl rfl bU ⟨rfl, rfl⟩)) (ag_cons (ag_r rfl rfl (Zw (E := (encInt .u8)) al A5 rfl rfl rfl bd (fun _ q => ⟨rfl, encInt_val.1 q⟩))) (ag_cons (ag_r rfl rfl (Exec.convert_int (by rw [Tryz.underlying5]; rfl) Tryz.underlying3 rfl rfl ⟨rfl, rfl⟩)) (ag_cons (ag_r rfl rfl (Zp F28_4 rfl ad rfl ⟨rfl, rfl⟩)) (ag_cons (ag_r rfl rfl (Zn ((al).f1) A26 rfl rfl rfl ⟨rfl, rfl⟩)) (ag_cons (ag_r rfl rfl (Zr S26 rfl rfl (a11.mono (Zt (Zt (Zt (Zt a c) g) d) b)) ⟨rfl, rfl⟩)) (ag_cons (ag_r rfl rfl (Exec.rem rfl rfl rfl (by simpa using must_some b2) ⟨rfl, rfl⟩)) ag_nil))))))))))), ?_⟩
     refine DL_e rfl rfl (Tc rfl rfl rfl (Zi rfl (Zi rfl (Zi rfl args_nil))) (ground_Apply_sim b3 al (a3.mono (Zt (Zt (Zt (Zt a c) g) d) b)) (a5.mono (Zt (Zt (Zt (Zt a c) g) d) b)) (a7.mono (Zt (Zt (Zt (Zt a c) g) d) b)) (a9.mono (Zt (Zt (Zt (Zt a c) g) d) b)) (a11.mono (Zt (Zt (Zt (Zt a c) g) d) b)) (au.mono b) (av.mono b)).r ?_)
     rintro _ eK ⟨d3, az, a0, cH, ct, rfl, b8, b9⟩
     refine ⟨ag_nil, ?_⟩
     refine DL_q rfl rfl (Zm (v := Value.tuple #[Value.agg #[az, a0], errV 45 (t)]) rfl rfl ⟨rfl, ?_⟩)
     refine DL_q rfl rfl (Exec.extract (v := Value.agg #[az, a0]) rfl rfl rfl ⟨rfl, ?_⟩)
     refine DL_q rfl rfl (Exec.extract (v := errV 45 (t)) rfl rfl rfl ⟨rfl, ?_⟩)
     refine DL_e rfl rfl (Exec.store_box (ds := [az, a0]) (es := [az, a0]) ct A33 rfl rfl rfl rfl (Zj (b8).one (Zj (b9).one one_nil)) (Nat.le_of_ble_eq_true rfl) rfl ?_)
     intro eL cu
     refine ⟨(ag_cons (ag_r rfl rfl (Exec.extract (v := errV 45 (t)) rfl rfl rfl ⟨rfl, rfl⟩)) ag_nil), ?_⟩
     refine DL_done (Za rfl rfl (Zo (v := errV 45 (t)) rfl rfl (Zb (Ze ?_))))
     exact ⟨d3, az, a0, bT, cH, ((cu).f2).f2, ai, ad, aS, ay, aj, rfl, rfl, b8, b9⟩
    intro eb eM cc
    obtain ⟨aX, ae, af, aI, aQ, aO, bx, bz, b0, aT, b1, cZ, da, bm, bn⟩ := cc
    refine (Ze (Zc (Zd (Za rfl rfl (Zm (v := errV 45 (t)) rfl da (Za rfl rfl (Exec.err_eql_nil (T := 45) Tryz.underlying38 rfl rfl rfl (Zb (Ze ?_)))))))))
    obtain ⟨aC, aw, i⟩ := Zg i
    refine W_mid (M := fun f' w' => (un2 fun (bP : (List Int)) (bQ : (List Int)) => ∃ (aA : PHeap) (aF : Value) (aG : Value), PHeap.le aX aA ∧ St w0 aA (Res.box j 28 [v2, v4, v6, v8, v10] :: Res.box l 33 [aF, aG] :: H) w' ∧ f' 1 = v13 ∧ f' 2 = Value.pointer (some ⟨j, 0, none⟩) ∧ f' 5 = o ∧ f' 7 = Value.pointer (some ⟨l, 0, none⟩) ∧ f' 8 = Vi (p) ∧ SliceRep (encInt .i64) aA aF bP ∧ SliceRep (encInt .i64) aA aG bQ) aC) ?_ ?_
    ·rcases ite_some aw with ⟨ar, aw⟩ | ⟨ar, aw⟩
     ·refine W_cond_t rfl ar (Zd (Za rfl rfl (Exec.load_box_agg (ds := [ae, af]) ((aO).f2) A33 rfl cZ rfl (Za rfl rfl (Exec.store_box (ds := [ae, af]) (es := [ae, af]) (aO).f1 A33 rfl aT rfl rfl (Zj (bm).one (Zj (bn).one one_nil)) (Nat.le_of_ble_eq_true rfl) rfl ?_)))))
      intro eN cv
      refine Zb (Ze ?_)
      have dR := Zu aw
      subst aC
      exact ⟨aX, ae, af, (Zv _), (((cv).f2).drop).f1, bx, bz, b0, aT, b1, bm, bn⟩
     refine W_cond_f rfl ar ?_
     replace ar := Zk ar
     refine W_skip (Ze ?_)
     have dS := Zu aw
     subst aC
     exact ⟨aX, u, x, (Zv _), ((((aO).f2).drop).f1).f1, bx, bz, b0, aT, b1, (au.mono (Zt b aQ)), (av.mono (Zt b aQ))⟩
    intro ec eO cd
    obtain ⟨bP, bQ⟩ := aC
    replace i := un2_eq i
    obtain ⟨d4, aF, aG, cI, cw, db, dc, dd, de, df, c7, c8⟩ := cd
    refine (Ze ?_)
    have dT := Zu i
    subst aB
    exact ⟨d4, aF, aG, (Zt aQ cI), ((cw).f1).f1, db, dc, dd, de, df, c7, c8⟩
   refine W_cond_f rfl aq ?_
   replace aq := Zk aq
   refine W_skip (Ze ?_)
   have dU := Zu i
   subst aB
   exact ⟨a4, u, x, (Zv _), ((y).f1).f1, ai, ad, aS, ay, aj, (au.mono b), (av.mono b)⟩
  intro ed eP ce
  obtain ⟨bN, bO⟩ := aB
  replace m := un2_eq m
  obtain ⟨d5, aD, aE, cJ, cx, dg, dh, di, dj, dk, c9, cA⟩ := ce
  refine (ib_normal (Ze (Zd (Za rfl rfl (Zm (v := Vi (p)) rfl dk (Za rfl rfl (Exec.add rfl rfl rfl (Za rfl rfl (Zo (v := Vi (IntKind.i64.wrap (p + 1))) rfl rfl (Zb (Ze ?_)))))))))))
  have dV := Zu m
  subst aJ
  refine ⟨_, rfl, ?_⟩; exact ⟨d5, aD, aE, (Zt (Zt d b) cJ), ((cx).f1).f1, dg, dh, di, dj, rfl, c9, cA⟩
 rintro ee eQ ⟨d9, bk, cf⟩
 have hm := bk.elim (c1 _) (cy _)
 clear bk
 obtain ⟨bp, bJ, bK⟩ := d9
 replace hm := un3_eq hm
 obtain ⟨ew, ba, bb, ei, ef, en, eo, ep, er, et, eg, eh⟩ := cf
 refine ?_
 cases hm
end Go.Pw
