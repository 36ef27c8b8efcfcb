/-
  The walks (printed by my generator).
-/
import Derived.Test.YtcabhickgjhkhaaGreatDoorL27
import Derived.Test.YtcabhickgjhkhaaGreatDoorIi6
set_option maxRecDepth 100000
set_option maxHeartbeats 4000000
set_option linter.unusedVariables false
namespace Go.Pw
open Go.Proofs
theorem ground_Apply_sim {w0 w : World} {s : PHeap} {H : List Res} {fu : Nat} {q : Ground} {ba : GState} {az : Int} {af : Value} {ag : Value} {ah : Value} {ai : Value} {aj : Value} {o : Value} {p : Value} {r : (Option Int) × GState} (hm : ground_Apply_p fu q ba az = some r) (hS : St w0 s (H) w) (aJ : SliceRep encAtom s af q.Atoms) (bJ : SliceRep encGFluent s ag q.Fluents) (bK : SliceRep (encInt .i64) s ah q.Init) (bL : SliceRep encCond s ai q.Goal) (bh : SliceRep encGOp s aj q.Ops) (aK : SliceRep (encInt .i64) s o ba.True) (bi : SliceRep (encInt .i64) s p ba.Values) :
  Calls Tryz.prog 19 #[Value.agg #[af, ag, ah, ai, aj], Value.agg #[o, p], Vi (az)] w fun e w' => ∃ v, e = .returned v ∧ ((un2 fun (dg : (Option Int)) (bI : GState) => ∃ (aC : PHeap) (bF : Value) (bG : Value), PHeap.le s aC ∧ St w0 aC (H) w' ∧ v = Value.tuple #[Value.agg #[bF, bG], errV 45 (dg)] ∧ SliceRep (encInt .i64) aC bF bI.True ∧ SliceRep (encInt .i64) aC bG bI.Values) r) := by
 unfold ground_Apply_p at hm
 refine calls_of_W Tryz.func19 rfl rfl (Zc (Zd (Za rfl rfl (Exec.box (cs := [af, ag, ah, ai, aj]) hS rfl rfl rfl ?_))))
 intro ay dJ bX
 refine Za rfl rfl (Exec.box (cs := [o, p]) bX rfl rfl rfl ?_)
 intro l dK bY
 refine Za rfl rfl (Exec.alloc (cs := [Value.slice none 0 0, Value.slice none 0 0]) bY Z33 rfl rfl ?_)
 intro m dL aL
 refine Za rfl rfl (Zo (v := errV 45 (none)) rfl rfl (Zb (Ze (Zc (Zd (Za rfl rfl (Exec.load_box_agg (ds := [af, ag, ah, ai, aj]) ((aL).f2) A28 rfl rfl rfl (Za rfl rfl (Exec.load_box_agg (ds := [o, p]) ((aL).f1) A33 rfl rfl rfl (Za rfl rfl (Zm (v := Vi (az)) rfl rfl ?_)))))))))))
 obtain ⟨da, cI, hm⟩ := Zg hm
 obtain ⟨ej, ak⟩ := da
 replace hm := un2_eq hm
 refine Za rfl rfl (Tc rfl rfl rfl (Zi rfl (Zi rfl (Zi rfl args_nil))) (ground_assigned_sim cI aL aJ bJ bK bL bh aK bi).r ?_)
 rintro _ dM ⟨aY, a, y, bj, rfl, aA⟩
 refine Za rfl rfl (Zm (v := Value.tuple #[a, errV 45 (ak)]) rfl rfl (Za rfl rfl (Exec.extract (v := a) rfl rfl rfl (Za rfl rfl (Exec.extract (v := errV 45 (ak)) rfl rfl rfl (Za rfl rfl (Zo (v := a) rfl rfl (Za rfl rfl (Zo (v := errV 45 (ak)) rfl rfl (Zb (Ze (Zc (Zc (Zd (Za rfl rfl (Zm (v := errV 45 (ak)) rfl rfl (Za rfl rfl (Exec.err_neq_nil (T := 45) Tryz.underlying38 rfl rfl rfl (Zb (Ze ?_))))))))))))))))))))
 rcases ite_some hm with ⟨an, hm⟩ | ⟨an, hm⟩
 ·refine W_cond_t rfl an (Zc (Zd (Za rfl rfl (Exec.build rfl parts_nil (v := Value.agg #[Value.slice none 0 0, Value.slice none 0 0]) (fun _ => by kernel_rfl) (Za rfl rfl (Zm (v := errV 45 (ak)) rfl rfl (Za rfl rfl (Exec.store_box (ds := [Value.slice none 0 0, Value.slice none 0 0]) (es := [Value.slice none 0 0, Value.slice none 0 0]) bj A33 rfl rfl rfl rfl (Zj rfl (Zj rfl one_nil)) (Nat.le_of_ble_eq_true rfl) rfl ?_))))))))
  intro dN bk
  refine Za rfl rfl (Zo (v := errV 45 (ak)) rfl rfl (Zb (Ze (W_ret (at_ret ?_)))))
  have dl := Zu hm
  subst r
  refine ⟨_, retG2 rfl ⟨_, _, rfl, cellRes (bk) A33⟩ rfl, ?_⟩
  exact ⟨aY, (Value.slice none 0 0), (Value.slice none 0 0), y, (((bk).drop).drop).drop, (tup2 rfl rfl), (SliceRep.nil _ _), (SliceRep.nil _ _)⟩
 refine W_cond_f rfl an ?_
 replace an := Zk an
 refine W_skip (Ze (Zc (Zd (Za rfl rfl (Exec.make_bmap (k := 3) (e := 4) bj rfl ?_)))))
 intro g dO bZ
 refine Za rfl rfl (Exec.make_bmap (k := 3) (e := 4) bZ rfl ?_)
 intro h dP aM
 refine Za rfl rfl (Zo (v := Value.map (some g)) rfl rfl (Za rfl rfl (Zo (v := Value.map (some h)) rfl rfl (Zb (Ze (Zc (Zc (Zd (Za rfl rfl (Zp F28_4 rfl rfl rfl (Za rfl rfl (Zn ((aM).f4) A26 rfl rfl rfl (Za rfl rfl (Zm (v := Vi (az)) rfl rfl ?_))))))))))))))
 obtain ⟨bf, cJ, hm⟩ := Zg hm
 refine Za rfl rfl (Exec.index_rep S26 rfl rfl rfl (bh.mono y) cJ ?_)
 intro dh d9 bM
 refine Za rfl rfl (Zp F63_3 rfl rfl rfl (Za rfl rfl (Zw (E := (encSlice encGChange)) aM A60 rfl rfl rfl (bM.sub (Sub.iso (Sub.snd (Sub.snd (Sub.snd (Sub.fst (Sub.refl _)) rfl) rfl) rfl)) rfl) ?_)))
 intro bH cK
 have aB : SliceRep _ _ _ (bf.Changes) := encSlice_val.1 cK
 refine Za rfl rfl (Zr S60 rfl rfl aB (Za rfl rfl (Zm (v := Vi (0)) rfl rfl (Zb (Ze ?_)))))
 obtain ⟨db, bO, hm⟩ := Zg hm
 refine W_block (W_forS (fun k' s' f' w' => (un2 fun (ad : BMap) (ae : BMap) => ∃ (b8 : PHeap) , PHeap.le aY b8 ∧ St w0 b8 (Res.box ay 28 [af, ag, ah, ai, aj] :: Res.box l 33 [o, p] :: Res.box m 33 [Value.slice none 0 0, Value.slice none 0 0] :: Res.bmap Tryz.prog 3 4 g ad :: Res.bmap Tryz.prog 3 4 h ae :: H) w' ∧ f' 3 = Value.pointer (some ⟨ay, 0, none⟩) ∧ f' 4 = Value.pointer (some ⟨l, 0, none⟩) ∧ f' 6 = Value.pointer (some ⟨m, 0, none⟩) ∧ f' 8 = a ∧ f' 10 = Value.map (some g) ∧ f' 11 = Value.map (some h) ∧ f' 36 = bH ∧ f' 37 = Vi ((bf.Changes.length : Int)) ∧ f' 38 = Vi (k' : Int)) s') bO ?_ ?_ ?_)
 ·have ca := (aM).f1
  exact ⟨aY, (Zv _), (((ca).f2).f3).f4, rfl, rfl, rfl, rfl, rfl, rfl, rfl, rfl, rfl⟩
 ·intro aR dc b9 dz dQ bp bQ b
  obtain ⟨ad, ae⟩ := dc
  replace b := un2_eq b
  obtain ⟨dF, ar, bl, aT, a0, aU, aV, a1, a2, a3, a4, av⟩ := bQ
  refine Zc (Zd (Za rfl rfl (Zq rfl av a4 (Zb (Ze (Zc (W_true (Zx (decide_eq_true (by omega))) (W_skip (Ze (Zc (W_block (Zc (Zd ?_)))))))))))))
  obtain ⟨aH, cL, b⟩ := Zg b
  refine Za rfl rfl (Exec.index_rep S60 rfl a3 av (aB.mono ar) cL ?_)
  intro di dA bN
  refine Za rfl rfl (Zw (E := encGChange) bl A81 rfl rfl rfl bN ?_)
  intro dI cM
  obtain ⟨bb, bc, bd, rfl, b5, b6, b7⟩ := encGChange_val.1 cM
  refine Za rfl rfl (Exec.alloc (cs := [Value.slice none 0 0, Value.slice none 0 0, Value.slice none 0 0, Vi (0), Value.bool (false)]) bl Z81 rfl rfl ?_)
  intro dj dR cb
  refine Za rfl rfl (Exec.store_box (ds := [bb, bc, bd, Vi (aH.Atom), Value.bool (aH.Add)]) (es := [bb, bc, bd, Vi (aH.Atom), Value.bool (aH.Add)]) cb A81 rfl rfl rfl rfl (Zj (b5).one (Zj (b6).one (Zj (b7).one (Zj rfl (Zj rfl one_nil))))) (Nat.le_of_ble_eq_true rfl) rfl ?_)
  intro dS aN
  refine Zb (Ze (Zc (Zc (Zd (Za rfl rfl (Exec.load_box_agg (ds := [o, p]) ((aN).f2) A33 rfl a0 rfl (Za rfl rfl (Zp F81_0 rfl rfl rfl (Za rfl rfl (Exec.load_box_agg (ds := [bb, bc, bd]) (aN) A59 rfl rfl rfl ?_))))))))))
  obtain ⟨ek, cN, b⟩ := Zg b
  refine Za rfl rfl (Tc rfl rfl rfl (Zi rfl (Zi rfl args_nil)) (ground_holds_sim cN aN (aK.mono (Zt y ar)) (bi.mono (Zt y ar)) b5 b6 b7).r ?_)
  rintro _ dT ⟨aD, bq, ac, rfl⟩
  refine Za rfl rfl (Exec.not rfl rfl (Zb (Ze ?_)))
  rcases ite_some b with ⟨ao, b⟩ | ⟨ao, b⟩
  ·refine W_cond_t rfl ao (W_exit (at_exit (ib_here (Ze (Zd (Za rfl rfl (Exec.add rfl av rfl (Za rfl rfl (Zm (v := Vi (IntKind.i64.wrap ((aR : Int) + 1))) rfl rfl (Zb (Ze ?_)))))))))))
   have dm := Zu b
   subst b9
   exact ⟨aD, (Zt ar bq), ((((((ac).drop).f4).f4).f4).f4).f4, aT, a0, aU, aV, a1, a2, a3, a4, (Eq.trans rfl (wrap_up bp (SliceRep.le aB)))⟩
  refine W_cond_f rfl ao ?_
  replace ao := Zk ao
  refine W_skip (Ze (Zc (Zd (Za rfl rfl (Zp F81_2 rfl rfl rfl (Za rfl rfl (Zn (ac) A4 rfl rfl rfl (Zb (Ze ?_)))))))))
  obtain ⟨aF, x, b⟩ := Zg b
  refine W_mid (M := fun f' w' => (un2 fun (br : BMap) (bs : BMap) => ∃ (bA : PHeap) , PHeap.le aD bA ∧ St w0 bA (Res.box ay 28 [af, ag, ah, ai, aj] :: Res.box l 33 [o, p] :: Res.box m 33 [Value.slice none 0 0, Value.slice none 0 0] :: Res.bmap Tryz.prog 3 4 g br :: Res.bmap Tryz.prog 3 4 h bs :: H) w' ∧ f' 3 = Value.pointer (some ⟨ay, 0, none⟩) ∧ f' 4 = Value.pointer (some ⟨l, 0, none⟩) ∧ f' 6 = Value.pointer (some ⟨m, 0, none⟩) ∧ f' 8 = a ∧ f' 10 = Value.map (some g) ∧ f' 11 = Value.map (some h) ∧ f' 36 = bH ∧ f' 37 = Vi ((bf.Changes.length : Int)) ∧ f' 38 = Vi ((aR : Int))) aF) ?_ ?_
  ·rcases ite_some x with ⟨ap, x⟩ | ⟨ap, x⟩
   ·refine W_cond_t rfl ap (Zd (Za rfl rfl (Zm (v := Value.map (some g)) rfl a1 (Za rfl rfl (Zp F81_1 rfl rfl rfl (Za rfl rfl (Zn (ac) A3 rfl rfl rfl ?_)))))))
    obtain ⟨d7, cO, x⟩ := Zg x
    refine Za rfl rfl (Exec.bmap_put (ac).f4 ⟨Tryz.underlying34, Tryz.underlying3, Tryz.underlying4⟩ rfl rfl rfl rfl cO ?_)
    intro dU cc
    refine Zb (Ze ?_)
    have dn := Zu x
    subst aF
    exact ⟨aD, (Zv _), (((((((cc).f1).drop).f4).f1).f4).f4).f4, aT, a0, aU, aV, a1, a2, a3, a4, av⟩
   refine W_cond_f rfl ap ?_
   replace ap := Zk ap
   refine Zd (Za rfl rfl (Zm (v := Value.map (some h)) rfl a2 (Za rfl rfl (Zp F81_1 rfl rfl rfl (Za rfl rfl (Zn (ac) A3 rfl rfl rfl ?_))))))
   obtain ⟨d8, cP, x⟩ := Zg x
   refine Za rfl rfl (Exec.bmap_put (ac).f5 ⟨Tryz.underlying34, Tryz.underlying3, Tryz.underlying4⟩ rfl rfl rfl rfl cP ?_)
   intro dV cd
   refine Zb (Ze ?_)
   have dp := Zu x
   subst aF
   exact ⟨aD, (Zv _), ((((((cd).f1).drop).f4).f4).f4).f4, aT, a0, aU, aV, a1, a2, a3, a4, av⟩
  intro d0 dW bU
  obtain ⟨br, bs⟩ := aF
  replace b := un2_eq b
  obtain ⟨cW, cn, ce, cr, ct, cu, cv, cw, cx, cy, cz, c0⟩ := bU
  refine (ib_normal (Ze (Zd (Za rfl rfl (Exec.add rfl c0 rfl (Za rfl rfl (Zm (v := Vi (IntKind.i64.wrap ((aR : Int) + 1))) rfl rfl (Zb (Ze ?_)))))))))
  have dq := Zu b
  subst b9
  exact ⟨cW, (Zt (Zt ar bq) cn), (((((ce).f4).f4).f4).f4).f4, cr, ct, cu, cv, cw, cx, cy, cz, (Eq.trans rfl (wrap_up bp (SliceRep.le aB)))⟩
 intro d1 dX bR
 obtain ⟨ad, ae⟩ := db
 replace hm := un2_eq hm
 obtain ⟨bB, z, cf, c1, c2, c3, c4, c5, c6, dB, c7, de⟩ := bR
 refine Zc (Zd (Za rfl rfl (Zq rfl de c7 (Zb (Ze (Zc (W_false (Zx (decide_eq_false (by omega))) (W_exit (at_exit (at_exit (ib_here (Ze (Zc (Zd (Za rfl rfl (Zm (v := a) rfl c4 (Za rfl rfl (Exec.build rfl (parts_cons (c := [a]) (cells_of rfl (cells_one ((aA.mono z)).one)) parts_nil) (v := Value.agg #[Value.slice none 0 0, a]) (fun _ => by kernel_rfl) (Za rfl rfl (Exec.alloc (cs := [Value.slice none 0 0, Value.slice none 0 0]) cf Z33 rfl rfl ?_))))))))))))))))))))
 intro ab dY cg
 refine Za rfl rfl (Exec.store_box (ds := [Value.slice none 0 0, a]) (es := [Value.slice none 0 0, a]) cg A33 rfl rfl rfl rfl (Zj rfl (Zj ((aA.mono z)).one one_nil)) (Nat.le_of_ble_eq_true rfl) rfl ?_)
 intro dZ bm
 refine Zb (Ze (Zc (Zc (Zd (Za rfl rfl (Zp F28_0 rfl c1 rfl (Za rfl rfl (Zn ((bm).f1) A22 rfl rfl rfl (Za rfl rfl (Zr S22 rfl rfl (aJ.mono (Zt y z)) (Za rfl rfl (Zm (v := Vi (0)) rfl rfl (Zb (Ze ?_))))))))))))))
 obtain ⟨aI, bP, hm⟩ := Zg hm
 refine W_block (W_forS (fun k' s' f' w' => (fun (aI : (List Int)) => ∃ (bC : PHeap) (j : Value), PHeap.le bB bC ∧ St w0 bC (Res.box l 33 [o, p] :: Res.box m 33 [Value.slice none 0 0, Value.slice none 0 0] :: Res.bmap Tryz.prog 3 4 g ad :: Res.bmap Tryz.prog 3 4 h ae :: Res.box ab 33 [j, a] :: Res.arr (encInt .i64) 3 j aI :: H) w' ∧ f' 4 = Value.pointer (some ⟨l, 0, none⟩) ∧ f' 6 = Value.pointer (some ⟨m, 0, none⟩) ∧ f' 10 = Value.map (some g) ∧ f' 11 = Value.map (some h) ∧ f' 14 = Value.pointer (some ⟨ab, 0, none⟩) ∧ f' 60 = Vi ((q.Atoms.length : Int)) ∧ f' 61 = Vi (k' : Int)) s') bP ?_ ?_ ?_)
 ·have ch := bm.nilArr (encInt .i64) 3
  exact ⟨bB, (Value.slice none 0 0), (Zv _), (((((((ch).f2).drop).f1).f5).f5).f5).f5, c2, c3, c5, c6, rfl, rfl, rfl⟩
 ·intro d aI cX d2 ea cm bS u
  obtain ⟨dG, j, bt, bn, a5, aW, a6, a7, aX, a8, aw⟩ := bS
  refine Zc (Zd (Za rfl rfl (Zq rfl aw a8 (Zb (Ze (Zc (W_true (Zx (decide_eq_true (by omega))) (W_skip (Ze (Zc (W_block (Zc (Zd (Za rfl rfl (Zm (v := Vi ((d : Int))) rfl aw (Za rfl rfl (Zo (v := Vi ((d : Int))) rfl rfl (Zb (Ze (Zc (Zd (Za rfl rfl (Zp F33_0 rfl a5 rfl (Za rfl rfl (Zn (bn) A24 rfl rfl rfl (Za rfl rfl (Zm (v := Vi ((d : Int))) rfl rfl ?_)))))))))))))))))))))))))))
  obtain ⟨dd, cQ, u⟩ := Zg u
  obtain ⟨bg, ax⟩ := dd
  replace u := un2_eq u
  refine Za rfl rfl (Tc rfl rfl rfl (Zi rfl (Zi rfl args_nil)) (slices_BinarySearch_int_sim cQ bn (aK.mono (Zt (Zt y z) bt))).r ?_)
  rintro _ eb ⟨aE, co, am, rfl⟩
  refine Za rfl rfl (Zm (v := Value.tuple #[Vi (bg), Value.bool (ax)]) rfl rfl (Za rfl rfl (Exec.extract (v := Vi (bg)) rfl rfl rfl (Za rfl rfl (Exec.extract (v := Value.bool (ax)) rfl rfl rfl (Za rfl rfl (Zo (v := Vi (bg)) rfl rfl (Za rfl rfl (Zo (v := Value.bool (ax)) rfl rfl (Zb (Ze (Zc ?_))))))))))))
  obtain ⟨al, i, u⟩ := Zg u
  refine W_mid (M := fun f' w' => (fun (al : Bool) => ∃ (bD : PHeap) , PHeap.le aE bD ∧ St w0 bD (Res.box l 33 [o, p] :: Res.box m 33 [Value.slice none 0 0, Value.slice none 0 0] :: Res.bmap Tryz.prog 3 4 g ad :: Res.bmap Tryz.prog 3 4 h ae :: Res.box ab 33 [j, a] :: Res.arr (encInt .i64) 3 j aI :: H) w' ∧ f' 4 = Value.pointer (some ⟨l, 0, none⟩) ∧ f' 6 = Value.pointer (some ⟨m, 0, none⟩) ∧ f' 10 = Value.map (some g) ∧ f' 11 = Value.map (some h) ∧ f' 14 = Value.pointer (some ⟨ab, 0, none⟩) ∧ f' 15 = Vi ((d : Int)) ∧ f' 60 = Vi ((q.Atoms.length : Int)) ∧ f' 61 = Vi ((d : Int)) ∧ f' 82 = Value.bool (al)) al) ?_ ?_
  ·refine Zd (Za rfl rfl (Zm (v := Value.map (some g)) rfl a6 (Za rfl rfl (Zm (v := Vi ((d : Int))) rfl rfl ?_))))
   obtain ⟨cR, cS, i⟩ := Zg i
   refine Za rfl rfl (Exec.bmap_get ((am).f2) ⟨Tryz.underlying34, Tryz.underlying3, Tryz.underlying4⟩ Z4 rfl rfl rfl cS (Za rfl rfl (Zm (v := Value.bool (cR)) rfl rfl ?_)))
   rcases ite_some i with ⟨n, i⟩ | ⟨n, i⟩
   ·refine WL_passes 8 (by rw [n]; rfl) ?_
    refine Zb (Ze ?_)
    have dr := Zu i
    subst al
    exact ⟨aE, (Zv _), ((((((am).f5).f5).f5).f5).f5).f5, a5, aW, a6, a7, aX, rfl, a8, aw, rfl⟩
   replace n := Zk n
   refine WL_run rfl (Zf rfl (Zx n)) rfl (Zm (v := Value.bool (ax)) rfl rfl (WL_run rfl (Zf rfl (Zx n)) rfl (Zm (v := Value.bool (ax)) rfl rfl ?_)))
   rcases ite_some i with ⟨t, i⟩ | ⟨t, i⟩
   ·refine WL_run rfl (Zf rfl (Zx t)) rfl (Zm (v := Value.map (some h)) rfl a7 (WL_run rfl (Zf rfl (Zx t)) rfl (Zm (v := Vi ((d : Int))) rfl rfl ?_)))
    obtain ⟨b4, cT, i⟩ := Zg i
    refine WL_run rfl (Zf rfl (Zx t)) rfl (Exec.bmap_get ((am).f3) ⟨Tryz.underlying34, Tryz.underlying3, Tryz.underlying4⟩ Z4 rfl rfl rfl cT (WL_run rfl (Zf rfl (Zx t)) rfl (Exec.not rfl rfl (WL_run rfl (Zf rfl (Zx n)) rfl (Zs (v := Value.bool (!b4)) rfl (Zx t) rfl (Za rfl rfl (Exec.pick_f (v := Value.bool (!b4)) rfl (Zx n) rfl (Zb (Ze ?_)))))))))
    have dt := Zu i
    subst al
    exact ⟨aE, (Zv _), ((((((am).f5).f5).f5).f5).f5).f5, a5, aW, a6, a7, aX, rfl, a8, aw, rfl⟩
   replace t := Zk t
   refine WL_passes 4 (by rw [t]; rfl) ?_
   refine WL_run rfl (Zf rfl (Zx n)) rfl (Exec.pick_f (v := Value.bool (false)) rfl rfl rfl (Za rfl rfl (Exec.pick_f (v := Value.bool (false)) rfl (Zx n) rfl (Zb (Ze ?_)))))
   have du := Zu i
   subst al
   exact ⟨aE, (Zv _), ((((((am).f5).f5).f5).f5).f5).f5, a5, aW, a6, a7, aX, rfl, a8, aw, rfl⟩
  intro d3 ec bV
  obtain ⟨aZ, cp, aO, bv, bw, bx, bz, a9, c8, b0, b1, b2⟩ := bV
  refine (Ze ?_)
  obtain ⟨au, aa, u⟩ := Zg u
  refine W_mid (M := fun f' w' => (fun (au : (List Int)) => ∃ (bE : PHeap) (aG : Value), PHeap.le aZ bE ∧ St w0 bE (Res.box l 33 [o, p] :: Res.box m 33 [Value.slice none 0 0, Value.slice none 0 0] :: Res.bmap Tryz.prog 3 4 g ad :: Res.bmap Tryz.prog 3 4 h ae :: Res.box ab 33 [aG, a] :: Res.arr (encInt .i64) 3 aG au :: H) w' ∧ f' 4 = Value.pointer (some ⟨l, 0, none⟩) ∧ f' 6 = Value.pointer (some ⟨m, 0, none⟩) ∧ f' 10 = Value.map (some g) ∧ f' 11 = Value.map (some h) ∧ f' 14 = Value.pointer (some ⟨ab, 0, none⟩) ∧ f' 60 = Vi ((q.Atoms.length : Int)) ∧ f' 61 = Vi ((d : Int))) au) ?_ ?_
  ·rcases ite_some aa with ⟨aq, aa⟩ | ⟨aq, aa⟩
   ·refine W_cond_t b2 aq (Zd (Za rfl rfl (Zp F33_0 rfl a9 rfl (Za rfl rfl (Zn ((aO).f4) A24 rfl rfl rfl (Za rfl rfl (Zm (v := Vi ((d : Int))) rfl c8 (Za rfl rfl (Exec.buildSlice (Te := 3) (cs := [Vi ((d : Int))]) aO rfl (parts_cons (c := [Vi ((d : Int))]) (cells_of rfl rfl) parts_nil) (fun _ => by kernel_rfl) ?_)))))))))
    intro dk ed ci
    obtain ⟨d6, cU, aa⟩ := Zg aa
    refine Za rfl rfl (Exec.append_box (E := (encInt .i64)) (ys := [(d : Int)]) (ci).f6 S24 Z3 rfl (by decide) rfl rfl rfl rfl ⟨[Vi ((d : Int))], [], rfl, rfl, rfl⟩ rfl cU ?_)
    intro be ee aP
    refine Za rfl rfl (Zp F33_0 rfl a9 rfl (Za rfl rfl (Exec.store_box (ds := [be]) (es := [be, a]) (aP).f5 A24 rfl rfl rfl (cells_one (((aP).f5).f1).arr_one) (Zj (((aP).f5).f1).arr_one one_nil) (Nat.le_of_ble_eq_true rfl) rfl ?_)))
    intro ef cj
    refine Zb (Ze ?_)
    have dv := Zu aa
    subst au
    exact ⟨aZ, be, (Zv _), ((((((cj).f1).f1).f5).f5).f5).f5, bv, bw, bx, bz, a9, b0, b1⟩
   refine W_cond_f b2 aq ?_
   replace aq := Zk aq
   refine W_skip (Ze ?_)
   have dw := Zu aa
   subst au
   exact ⟨aZ, j, (Zv _), ((((((aO).f5).f5).f5).f5).f5).f5, bv, bw, bx, bz, a9, b0, b1⟩
  intro d4 eg bW
  obtain ⟨cY, aG, cq, ck, c9, cA, cB, cC, cD, cE, cF⟩ := bW
  refine (ib_normal (Ze (Zd (Za rfl rfl (Exec.add rfl cF rfl (Za rfl rfl (Zm (v := Vi (IntKind.i64.wrap ((d : Int) + 1))) rfl rfl (Zb (Ze ?_)))))))))
  have dx := Zu u
  subst cX
  exact ⟨cY, aG, (Zt (Zt (Zt bt co) cp) cq), ((((((ck).f5).f5).f5).f5).f5).f5, c9, cA, cB, cC, cD, cE, (Eq.trans rfl (wrap_up cm (SliceRep.le (aJ.mono (Zt y z)))))⟩
 intro d5 eh bT
 obtain ⟨dH, j, aS, aQ, dC, b3, dD, dE, cG, cH, df⟩ := bT
 refine Zc (Zd (Za rfl rfl (Zq rfl df cH (Zb (Ze (Zc (W_false (Zx (decide_eq_false (by omega))) (W_exit (at_exit (at_exit (ib_here (Ze (Zc (Zd (Za rfl rfl (Exec.load_box_agg (ds := [j, a]) ((aQ).f4) A33 rfl cG rfl (Za rfl rfl (Exec.store_box (ds := [j, a]) (es := [j, a]) (aQ).f1 A33 rfl b3 rfl rfl (Zj (((aQ).f1).f5).arr_one (Zj ((aA.mono (Zt z aS))).one one_nil)) (Nat.le_of_ble_eq_true rfl) rfl ?_))))))))))))))))))
 intro ei bo
 refine Za rfl rfl (Zo (v := errV 45 (none)) rfl rfl (Zb (Ze (W_ret ?_))))
 have dy := Zu hm
 subst r
 refine ⟨_, retG2 rfl ⟨_, _, b3, cellRes (bo) A33⟩ rfl, ?_⟩
 obtain ⟨cZ, bu, cl, cV⟩ := (bo).f5.freezeArr
 exact ⟨cZ, j, a, (Zt (Zt (Zt y z) aS) bu), (((((cl).drop).drop).drop).drop).drop, (tup2 rfl rfl), cV, (aA.mono (Zt (Zt z aS) bu))⟩
theorem law20_InvariantInductive_sim {w0 w : World} {s : PHeap} {H : List Res} {fu : Nat} {y : Ground} {aM : GState} {a8 : (List Int)} {i : Value} {j : Value} {l : Value} {m : Value} {n : Value} {u : Value} {x : Value} {o : Value} {r : Bool} (hm : law20_InvariantInductive_p fu y aM a8 = some r) (hS : St w0 s (H) w) (a2 : SliceRep encAtom s i y.Atoms) (a3 : SliceRep encGFluent s j y.Fluents) (a4 : SliceRep (encInt .i64) s l y.Init) (a5 : SliceRep encCond s m y.Goal) (ak : SliceRep encGOp s n y.Ops) (a6 : SliceRep (encInt .i64) s u aM.True) (a7 : SliceRep (encInt .i64) s x aM.Values) (ax : SliceRep (encInt .i64) s o a8) (ht : TabQ Tryz.prog s) :
  Calls Tryz.prog 7 #[Value.agg #[i, j, l, m, n], Value.agg #[u, x], o] w fun e w' => ∃ v, e = .returned v ∧ ((fun (cc : Bool) => ∃ (aZ : PHeap) , PHeap.le s aZ ∧ St w0 aZ (H) w' ∧ v = Value.bool (cc)) r) := by
 unfold law20_InvariantInductive_p at hm
 refine calls_of_W Tryz.func7 rfl rfl (Zc (Zd (Za rfl rfl (Exec.box (cs := [i, j, l, m, n]) hS rfl rfl rfl ?_))))
 intro p cD bo
 refine Za rfl rfl (Exec.box (cs := [u, x]) bo rfl rfl rfl ?_)
 intro q cE bp
 refine Za rfl rfl (Zo (v := Value.bool (false)) rfl rfl (Zb (Ze (Zc (Zc ?_)))))
 obtain ⟨ag, b, hm⟩ := Zg hm
 refine W_mid (M := fun f' w' => (fun (ag : Bool) => ∃ (ba : PHeap) , PHeap.le s ba ∧ St w0 ba (Res.box p 28 [i, j, l, m, n] :: Res.box q 33 [u, x] :: H) w' ∧ f' 2 = o ∧ f' 3 = Value.pointer (some ⟨p, 0, none⟩) ∧ f' 4 = Value.pointer (some ⟨q, 0, none⟩) ∧ f' 33 = Value.bool (ag)) ag) ?_ ?_
 ·refine Zd ?_
  obtain ⟨cd, bL, b⟩ := Zg b
  refine Za rfl rfl (Tc rfl rfl rfl args_nil (law20_awake_sim bL bp  ht).r ?_)
  rintro _ cF ⟨bS, c, a9, rfl⟩
  refine Za rfl rfl (Exec.not rfl rfl (Za rfl rfl (Zm (v := Value.bool (!cd)) rfl rfl ?_)))
  rcases ite_some b with ⟨ae, b⟩ | ⟨ae, b⟩
  ·refine WL_passes 21 (by rw [ae]; rfl) ?_
   refine Zb (Ze ?_)
   have cj := Zu b
   subst ag
   exact ⟨bS, c, (a9).f1, rfl, rfl, rfl, rfl⟩
  replace ae := Zk ae
  refine WL_run rfl (Zf rfl (Zx ae)) rfl (Exec.load_box_agg (ds := [i, j, l, m, n]) ((a9).f1) A28 rfl rfl rfl ?_)
  obtain ⟨cU, bM, b⟩ := Zg b
  refine WL_run rfl (Zf rfl (Zx ae)) rfl (Tc rfl rfl rfl (Zi rfl args_nil) (law20_few_sim bM a9 (a2.mono c) (a3.mono c) (a4.mono c) (a5.mono c) (ak.mono c)).r ?_)
  rintro _ cG ⟨az, ai, aj, rfl⟩
  refine WL_run rfl (Zf rfl (Zx ae)) rfl (Exec.not rfl rfl ?_)
  refine WL_passes 2 (by rw [ae]; rfl) ?_
  rcases ite_some b with ⟨z, b⟩ | ⟨z, b⟩
  ·refine WL_passes 16 (by rw [z]; rfl) ?_
   refine Zb (Ze ?_)
   have ck := Zu b
   subst ag
   exact ⟨az, (Zt c ai), (aj).f1, rfl, rfl, rfl, rfl⟩
  replace z := Zk z
  refine WL_run rfl (Zf rfl (Zx z)) rfl (Zp F33_0 rfl rfl rfl (WL_run rfl (Zf rfl (Zx z)) rfl (Zn (aj) A24 rfl rfl rfl (WL_run rfl (Zf rfl (Zx z)) rfl (Zr S24 rfl rfl (a6.mono (Zt c ai)) (WL_run rfl (Zf rfl (Zx z)) rfl (Exec.gtr rfl rfl rfl ?_)))))))
  refine WL_passes 2 (by rw [z]; rfl) ?_
  rcases ite_some b with ⟨aa, b⟩ | ⟨aa, b⟩
  ·refine WL_passes 10 (by rw [aa]; rfl) ?_
   refine Zb (Ze ?_)
   have cl := Zu b
   subst ag
   exact ⟨az, (Zt c ai), (aj).f1, rfl, rfl, rfl, rfl⟩
  replace aa := Zk aa
  refine WL_run rfl (Zf rfl (Zx aa)) rfl (Zp F33_1 rfl rfl rfl (WL_run rfl (Zf rfl (Zx aa)) rfl (Zn (aj) A24 rfl rfl rfl (WL_run rfl (Zf rfl (Zx aa)) rfl (Zr S24 rfl rfl (a7.mono (Zt c ai)) (WL_run rfl (Zf rfl (Zx aa)) rfl (Exec.gtr rfl rfl rfl ?_)))))))
  refine WL_passes 2 (by rw [aa]; rfl) ?_
  rcases ite_some b with ⟨af, b⟩ | ⟨af, b⟩
  ·refine WL_passes 4 (by rw [af]; rfl) ?_
   refine Zb (Ze ?_)
   have cm := Zu b
   subst ag
   exact ⟨az, (Zt c ai), (aj).f1, rfl, rfl, rfl, rfl⟩
  replace af := Zk af
  refine WL_run rfl (Zf rfl (Zx af)) rfl (Zm (v := o) rfl rfl (WL_run rfl (Zf rfl (Zx af)) rfl (Zr S24 rfl rfl (ax.mono (Zt c ai)) (WL_run rfl (Zf rfl (Zx af)) rfl (Exec.gtr rfl rfl rfl (Za rfl rfl (Exec.pick_f (v := Value.bool (decide (20 < (a8.length : Int)))) rfl (Zx af) rfl (Zb (Ze ?_)))))))))
  have cn := Zu b
  subst ag
  exact ⟨az, (Zt c ai), (aj).f1, rfl, rfl, rfl, rfl⟩
 intro cz cH bk
 obtain ⟨bT, a, aA, ay, aG, aH, aS⟩ := bk
 refine (Ze ?_)
 rcases ite_some hm with ⟨al, hm⟩ | ⟨al, hm⟩
 ·refine W_cond_t aS al (Zc (Zd ?_))
  obtain ⟨ce, bN, hm⟩ := Zg hm
  refine Za rfl rfl (Tc rfl rfl rfl args_nil (law20_awake_sim bN aA  (ht.mono a)).r ?_)
  rintro _ cI ⟨bU, b6, bq, rfl⟩
  refine Za rfl rfl (Zo (v := Value.bool (ce)) rfl rfl (Zb (Ze (W_ret (at_ret ?_)))))
  have co := Zu hm
  subst r
  refine ⟨_, ret1 rfl, ?_⟩
  exact ⟨bU, (Zt a b6), ((bq).drop).drop, rfl⟩
 refine W_cond_f aS al ?_
 replace al := Zk al
 refine W_skip (Ze (Zc (Zc ?_)))
 obtain ⟨av, ad, hm⟩ := Zg hm
 refine W_mid (M := fun f' w' => (fun (av : Bool) => ∃ (bb : PHeap) , PHeap.le bT bb ∧ St w0 bb (Res.box p 28 [i, j, l, m, n] :: Res.box q 33 [u, x] :: H) w' ∧ f' 2 = o ∧ f' 3 = Value.pointer (some ⟨p, 0, none⟩) ∧ f' 4 = Value.pointer (some ⟨q, 0, none⟩) ∧ f' 44 = Value.bool (av)) av) ?_ ?_
 ·refine Zd (Za rfl rfl (Exec.load_box_agg (ds := [i, j, l, m, n]) (aA) A28 rfl aG rfl (Za rfl rfl (Zm (v := o) rfl ay ?_))))
  obtain ⟨cf, bO, ad⟩ := Zg ad
  refine Za rfl rfl (Tc rfl rfl rfl (Zi rfl (Zi rfl args_nil)) (invariant_Balanced_sim bO aA (a2.mono a) (a3.mono a) (a4.mono a) (a5.mono a) (ak.mono a) (ax.mono a)).r ?_)
  rintro _ cJ ⟨bV, ap, aB, rfl⟩
  refine Za rfl rfl (Exec.not rfl rfl (Za rfl rfl (Zm (v := Value.bool (!cf)) rfl rfl ?_)))
  rcases ite_some ad with ⟨ab, ad⟩ | ⟨ab, ad⟩
  ·refine WL_passes 5 (by rw [ab]; rfl) ?_
   refine Zb (Ze ?_)
   have cp := Zu ad
   subst av
   exact ⟨bV, ap, ((aB).f1).f1, ay, aG, aH, rfl⟩
  replace ab := Zk ab
  refine WL_run rfl (Zf rfl (Zx ab)) rfl (Exec.load_box_agg (ds := [u, x]) ((aB).f1) A33 rfl aH rfl (WL_run rfl (Zf rfl (Zx ab)) rfl (Zm (v := o) rfl ay ?_)))
  obtain ⟨cg, bP, ad⟩ := Zg ad
  refine WL_run rfl (Zf rfl (Zx ab)) rfl (Tc rfl rfl rfl (Zi rfl (Zi rfl args_nil)) (invariant_Holds_sim bP aB (a6.mono (Zt a ap)) (a7.mono (Zt a ap)) (ax.mono (Zt a ap))).r ?_)
  rintro _ cK ⟨bW, b7, br, rfl⟩
  refine WL_run rfl (Zf rfl (Zx ab)) rfl (Exec.not rfl rfl (Za rfl rfl (Exec.pick_f (v := Value.bool (!cg)) rfl (Zx ab) rfl (Zb (Ze ?_)))))
  have cq := Zu ad
  subst av
  exact ⟨bW, (Zt ap b7), ((br).f1).f1, ay, aG, aH, rfl⟩
 intro c0 cL bl
 obtain ⟨a0, d, aC, bB, aT, bC, aU⟩ := bl
 refine (Ze ?_)
 rcases ite_some hm with ⟨am, hm⟩ | ⟨am, hm⟩
 ·refine W_cond_t aU am (Zc (Zd (Za rfl rfl (Zo (v := Value.bool (true)) rfl rfl (Zb (Ze (W_ret (at_ret ?_))))))))
  have cr := Zu hm
  subst r
  refine ⟨_, ret1 rfl, ?_⟩
  exact ⟨a0, (Zt a d), ((aC).drop).drop, rfl⟩
 refine W_cond_f aU am ?_
 replace am := Zk am
 refine W_skip (Ze (Zc (Zc (Zd (Za rfl rfl (Zp F28_4 rfl aT rfl (Za rfl rfl (Zn (aC) A26 rfl rfl rfl (Za rfl rfl (Zr S26 rfl rfl (ak.mono (Zt a d)) (Za rfl rfl (Zm (v := Vi (0)) rfl rfl (Zb (Ze ?_))))))))))))))
 obtain ⟨aN, bh, b3, b1, bz⟩ := ctl_some hm
 refine W_mid (M := fun f' w' => ∃ s', (aN = .next s' ∨ aN = .brk s') ∧ (fun (_ : Unit) => ∃ (bc : PHeap) , PHeap.le a0 bc ∧ St w0 bc (Res.box p 28 [i, j, l, m, n] :: Res.box q 33 [u, x] :: H) w' ∧ f' 2 = o ∧ f' 3 = Value.pointer (some ⟨p, 0, none⟩) ∧ f' 4 = Value.pointer (some ⟨q, 0, none⟩) ∧ f' 47 = Vi ((y.Ops.length : Int))) s') ?_ ?_
 ·refine W_block (W_forC (fun k' s' f' w' => (fun (_ : Unit) => ∃ (bd : PHeap) , PHeap.le a0 bd ∧ St w0 bd (Res.box p 28 [i, j, l, m, n] :: Res.box q 33 [u, x] :: H) w' ∧ f' 2 = o ∧ f' 3 = Value.pointer (some ⟨p, 0, none⟩) ∧ f' 4 = Value.pointer (some ⟨q, 0, none⟩) ∧ f' 47 = Vi ((y.Ops.length : Int)) ∧ f' 48 = Vi (k' : Int)) s') bh ?_ ?_ ?_)
  ·have bs := (aC).f1
   exact ⟨a0, (Zv _), (bs).f1, bB, aT, bC, rfl, rfl⟩
  ·intro ao cA aO c1 cM b0 bi g b4
   obtain ⟨c9, t, aD, aI, aJ, aK, aL, a1⟩ := bi
   refine Zc (Zd (Za rfl rfl (Zq rfl a1 aL (Zb (Ze (Zc (W_true (Zx (decide_eq_true (by omega))) (W_skip (Ze (Zc (W_block (Zc (Zd (Za rfl rfl (Zm (v := Vi ((ao : Int))) rfl a1 (Za rfl rfl (Zo (v := Vi ((ao : Int))) rfl rfl (Zb (Ze (Zc (Zd (Za rfl rfl (Exec.load_box_agg (ds := [i, j, l, m, n]) (aD) A28 rfl aJ rfl (Za rfl rfl (Exec.load_box_agg (ds := [u, x]) ((aD).f1) A33 rfl aK rfl (Za rfl rfl (Zm (v := Vi ((ao : Int))) rfl rfl ?_)))))))))))))))))))))))))))
   obtain ⟨ca, bQ, g⟩ := Zg g
   obtain ⟨au, cV⟩ := ca
   replace g := un2_eq g
   refine Za rfl rfl (Tc rfl rfl rfl (Zi rfl (Zi rfl (Zi rfl args_nil))) (ground_Apply_sim bQ aD (a2.mono (Zt (Zt a d) t)) (a3.mono (Zt (Zt a d) t)) (a4.mono (Zt (Zt a d) t)) (a5.mono (Zt (Zt a d) t)) (ak.mono (Zt (Zt a d) t)) (a6.mono (Zt (Zt a d) t)) (a7.mono (Zt (Zt a d) t))).r ?_)
   rintro _ cN ⟨be, aq, ar, aF, bt, rfl, aX, aY⟩
   refine Za rfl rfl (Zm (v := Value.tuple #[Value.agg #[aq, ar], errV 45 (au)]) rfl rfl (Za rfl rfl (Exec.extract (v := Value.agg #[aq, ar]) rfl rfl rfl (Za rfl rfl (Exec.extract (v := errV 45 (au)) rfl rfl rfl (Za rfl rfl (Exec.alloc (cs := [Value.slice none 0 0, Value.slice none 0 0]) bt Z33 rfl rfl ?_)))))))
   intro ci cO bu
   refine Za rfl rfl (Exec.store_box (ds := [aq, ar]) (es := [aq, ar]) bu A33 rfl rfl rfl rfl (Zj (aX).one (Zj (aY).one one_nil)) (Nat.le_of_ble_eq_true rfl) rfl ?_)
   intro cP aE
   refine Za rfl rfl (Zo (v := errV 45 (au)) rfl rfl (Zb (Ze (Zc ?_))))
   obtain ⟨aw, ah, g⟩ := Zg g
   refine W_mid (M := fun f' w' => (fun (aw : Bool) => ∃ (bf : PHeap) , PHeap.le be bf ∧ St w0 bf (Res.box p 28 [i, j, l, m, n] :: Res.box q 33 [u, x] :: H) w' ∧ f' 2 = o ∧ f' 3 = Value.pointer (some ⟨p, 0, none⟩) ∧ f' 4 = Value.pointer (some ⟨q, 0, none⟩) ∧ f' 47 = Vi ((y.Ops.length : Int)) ∧ f' 48 = Vi ((ao : Int)) ∧ f' 65 = Value.bool (aw)) aw) ?_ ?_
   ·refine Zd (Za rfl rfl (Zm (v := errV 45 (au)) rfl rfl (Za rfl rfl (Exec.err_eql_nil (T := 45) Tryz.underlying38 rfl rfl rfl (Za rfl rfl (Zm (v := Value.bool (au.isNone)) rfl rfl ?_))))))
    rcases ite_some ah with ⟨ac, ah⟩ | ⟨ac, ah⟩
    ·refine WL_run rfl (Zf rfl (Zx ac)) rfl (Exec.load_box_agg (ds := [aq, ar]) (aE) A33 rfl rfl rfl (WL_run rfl (Zf rfl (Zx ac)) rfl (Zm (v := o) rfl aI ?_)))
     obtain ⟨ch, bR, ah⟩ := Zg ah
     refine WL_run rfl (Zf rfl (Zx ac)) rfl (Tc rfl rfl rfl (Zi rfl (Zi rfl args_nil)) (invariant_Holds_sim bR aE aX aY (ax.mono (Zt (Zt (Zt a d) t) aF))).r ?_)
     rintro _ cQ ⟨bX, b8, bv, rfl⟩
     refine WL_run rfl (Zf rfl (Zx ac)) rfl (Exec.not rfl rfl (Za rfl rfl (Zs (v := Value.bool (!ch)) rfl (Zx ac) rfl (Zb (Ze ?_)))))
     have ct := Zu ah
     subst aw
     exact ⟨bX, b8, (((bv).drop).f1).f1, aI, aJ, aK, aL, a1, rfl⟩
    replace ac := Zk ac
    refine WL_passes 5 (by rw [ac]; rfl) ?_
    refine Zb (Ze ?_)
    have cu := Zu ah
    subst aw
    exact ⟨be, (Zv _), (((aE).drop).f1).f1, aI, aJ, aK, aL, a1, rfl⟩
   intro c2 cR bm
   obtain ⟨bg, aR, aP, bD, bE, bF, bG, bH, aV⟩ := bm
   refine (Ze ?_)
   rcases ite_some g with ⟨an, g⟩ | ⟨an, g⟩
   ·refine W_cond_t aV an (Zc (Zd (Za rfl rfl (Zo (v := Value.bool (false)) rfl rfl (Zb (Ze (W_ret (ib_ret (at_ret (at_ret (ib_ret (at_ret (at_ret ?_)))))))))))))
    have cv := Zu g
    subst aO
    have b2 := b3 _ (b4 (by intro _ h; cases h))
    have cw := Zu b2
    subst r
    refine ⟨_, ret1 rfl, ?_⟩
    exact ⟨bg, (Zt (Zt (Zt (Zt a d) t) aF) aR), ((aP).drop).drop, rfl⟩
   refine W_cond_f aV an ?_
   replace an := Zk an
   refine W_skip (ib_normal (Ze (Zd (Za rfl rfl (Exec.add rfl bH rfl (Za rfl rfl (Zm (v := Vi (IntKind.i64.wrap ((ao : Int) + 1))) rfl rfl (Zb (Ze ?_)))))))))
   have cx := Zu g
   subst aO
   refine ⟨_, rfl, ?_⟩; exact ⟨bg, (Zt (Zt t aF) aR), ((aP).f1).f1, bD, bE, bF, bG, (Eq.trans rfl (wrap_up b0 (SliceRep.le (ak.mono (Zt a d)))))⟩
  intro cB c3 cS bj b5
  obtain ⟨bY, b9, bw, bI, bJ, bK, aW, cb⟩ := bj
  refine Zc (Zd (Za rfl rfl (Zq rfl cb aW (Zb (Ze (Zc (W_false (Zx (decide_eq_false (by omega))) (W_exit (at_exit (at_exit (ib_here (Ze ?_))))))))))))
  refine ⟨_, .inl b5, ?_⟩; exact ⟨bY, b9, ((bw).f1).f1, bI, bJ, bK, aW⟩
 rintro c4 cT ⟨cC, aQ, bn⟩
 have hm := aQ.elim (b1 _) (bz _)
 clear aQ
 obtain ⟨bZ, bA, bx, c5, c6, c7, c8⟩ := bn
 refine (Ze (Zc (Zd (Za rfl rfl (Zo (v := Value.bool (true)) rfl rfl (Zb (Ze (W_ret ?_))))))))
 have cy := Zu hm
 subst r
 refine ⟨_, ret1 rfl, ?_⟩
 exact ⟨bZ, (Zt (Zt a d) bA), ((bx).drop).drop, rfl⟩
end Go.Pw
