/-
  The walks (printed by my generator).
-/
import Derived.Test.YtcabhickgjhkhaaGreatDoorL29
import Derived.Test.YtcabhickgjhkhaaGreatDoorL27
import Derived.Test.YtcabhickgjhkhaaGreatDoorIs6
set_option maxRecDepth 100000
set_option maxHeartbeats 4000000
set_option linter.unusedVariables false
namespace Go.Pw
open Go.Proofs
theorem invariant_Groups_sim {w0 w : World} {s : PHeap} {H : List Res} {fu : Nat} {ag : Ground} {m : Value} {n : Value} {o : Value} {p : Value} {q : Value} {r : (List (List Int)) × (Option Int)} (hm : invariant_Groups_p fu ag = some r) (hS : St w0 s (H) w) (a9 : SliceRep encAtom s m ag.Atoms) (aA : SliceRep encGFluent s n ag.Fluents) (aB : SliceRep (encInt .i64) s o ag.Init) (aC : SliceRep encCond s p ag.Goal) (aD : SliceRep encGOp s q ag.Ops) (ht : TabR Tryz.prog w0 s) :
  Calls Tryz.prog 14 #[Value.agg #[m, n, o, p, q]] w fun e w' => ∃ v, e = .returned v ∧ ((un2 fun (dx : (List (List Int))) (dy : (Option Int)) => ∃ (aR : PHeap) (bA : Value), PHeap.le s aR ∧ St w0 aR (H) w' ∧ v = Value.tuple #[bA, errV 45 (dy)] ∧ SliceRep (encSlice (encInt .i64)) aR bA dx) r) := by
 unfold invariant_Groups_p at hm
 refine calls_of_W Tryz.func14 rfl rfl (Zc (Zd (Za rfl rfl (Exec.box (cs := [m, n, o, p, q]) hS rfl rfl rfl ?_))))
 intro ad ei ba
 refine Za rfl rfl (Zo (v := Value.slice none 0 0) rfl rfl (Za rfl rfl (Zo (v := errV 45 (none)) rfl rfl (Zb (Ze (Zc (Zc (Zd (Za rfl rfl (Exec.load_box_agg (ds := [m, n, o, p, q]) (ba) A28 rfl rfl rfl ?_))))))))))
 obtain ⟨e3, cS, hm⟩ := Zg hm
 refine Za rfl rfl (Tc rfl rfl rfl (Zi rfl args_nil) (ground_Valid_sim cS ba a9 aA aB aC aD).r ?_)
 rintro _ ej ⟨df, d, aE, rfl⟩
 refine Za rfl rfl (Exec.not rfl rfl (Zb (Ze ?_)))
 rcases ite_some hm with ⟨am, hm⟩ | ⟨am, hm⟩
 ·refine W_cond_t rfl am (Zc (Zd (Za rfl rfl (Exec.makeInterface C45 rfl rfl (Za rfl rfl (Zo (v := Value.slice none 0 0) rfl rfl (Za rfl rfl (Zo (v := errV 45 (some 2)) rfl rfl (Zb (Ze (W_ret (at_ret ?_))))))))))))
  have d7 := Zu hm
  subst r
  refine ⟨_, ret2 rfl, ?_⟩
  exact ⟨df, (Value.slice none 0 0), d, (aE).drop, (tup2 rfl rfl), (SliceRep.nil _ _)⟩
 refine W_cond_f rfl am ?_
 replace am := Zk am
 refine W_skip (Ze (Zc (Zd (Za rfl rfl (Zo (v := Value.slice none 0 0) rfl rfl (Zb (Ze (Zc (Zc (Zd (Za rfl rfl (Exec.load_box_agg (ds := [m, n, o, p, q]) (aE) A28 rfl rfl rfl ?_))))))))))))
 obtain ⟨aX, cT, hm⟩ := Zg hm
 refine Za rfl rfl (Tc rfl rfl rfl (Zi rfl args_nil) (invariant_candidates_sim cT aE (a9.mono d) (aA.mono d) (aB.mono d) (aC.mono d) (aD.mono d) (ht.mono d)).r ?_)
 rintro aU ek ⟨bx, _, ai, bS, rfl, aQ⟩
 refine Za rfl rfl (Zr S36 rfl rfl aQ (Za rfl rfl (Zm (v := Vi (0)) rfl rfl (Zb (Ze ?_)))))
 obtain ⟨b, bF, hm⟩ := Zg hm
 refine W_block (W_forS (fun k' s' f' w' => (fun (b : (List (List Int))) => ∃ (bz : PHeap) (a : Value), PHeap.le bx bz ∧ St w0 bz (Res.box ad 28 [m, n, o, p, q] :: Res.arr (encSlice (encInt .i64)) 24 a b :: H) w' ∧ f' 1 = Value.pointer (some ⟨ad, 0, none⟩) ∧ f' 4 = a ∧ f' 18 = aU ∧ f' 19 = Vi ((aX.length : Int)) ∧ f' 20 = Vi (k' : Int)) s') bF ?_ ?_ ?_)
 ·have bT := bS.nilArr (encSlice (encInt .i64)) 24
  exact ⟨bx, (Value.slice none 0 0), (Zv _), (bT).f1, rfl, rfl, rfl, rfl, rfl⟩
 ·intro aG b dg dL el cj bI y
  obtain ⟨b0, a, ac, ax, aI, bf, aJ, aK, a7⟩ := bI
  refine Zc (Zd (Za rfl rfl (Zq rfl a7 aK (Zb (Ze (Zc (W_true (Zx (decide_eq_true (by omega))) (W_skip (Ze (Zc (W_block (Zc (Zd ?_)))))))))))))
  obtain ⟨aW, cU, y⟩ := Zg y
  refine Za rfl rfl (Exec.index_rep S36 rfl aJ a7 (aQ.mono ac) cU ?_)
  intro d2 dZ bE
  refine Za rfl rfl (Zw (E := (encSlice (encInt .i64))) ax A24 rfl rfl rfl bE ?_)
  intro x cV
  have a4 : SliceRep _ _ _ (aW) := encSlice_val.1 cV
  refine Za rfl rfl (Zo (v := x) rfl rfl (Zb (Ze (Zc ?_))))
  obtain ⟨aw, aa, y⟩ := Zg y
  refine W_mid (M := fun f' w' => (fun (aw : Bool) => ∃ (b1 : PHeap) , PHeap.le b0 b1 ∧ St w0 b1 (Res.box ad 28 [m, n, o, p, q] :: Res.arr (encSlice (encInt .i64)) 24 a b :: H) w' ∧ f' 1 = Value.pointer (some ⟨ad, 0, none⟩) ∧ f' 4 = a ∧ f' 6 = x ∧ f' 18 = aU ∧ f' 19 = Vi ((aX.length : Int)) ∧ f' 20 = Vi ((aG : Int)) ∧ f' 31 = Value.bool (aw)) aw) ?_ ?_
  ·refine Zd (Za rfl rfl (Zm (v := x) rfl rfl (Za rfl rfl (Zr S24 rfl rfl a4 (Za rfl rfl (Exec.geq rfl rfl rfl (Za rfl rfl (Zm (v := Value.bool (decide (2 ≤ (aW.length : Int)))) rfl rfl ?_))))))))
   rcases ite_some aa with ⟨t, aa⟩ | ⟨t, aa⟩
   ·refine WL_run rfl (Zf rfl (Zx t)) rfl (Exec.load_box_agg (ds := [m, n, o, p, q]) (ax) A28 rfl aI rfl (WL_run rfl (Zf rfl (Zx t)) rfl (Zm (v := x) rfl rfl ?_)))
    obtain ⟨dz, cW, aa⟩ := Zg aa
    refine WL_run rfl (Zf rfl (Zx t)) rfl (Tc rfl rfl rfl (Zi rfl (Zi rfl args_nil)) (invariant_balanced_sim cW ax (a9.mono (Zt (Zt d ai) ac)) (aA.mono (Zt (Zt d ai) ac)) (aB.mono (Zt (Zt d ai) ac)) (aC.mono (Zt (Zt d ai) ac)) (aD.mono (Zt (Zt d ai) ac)) a4).r ?_)
    rintro _ em ⟨dh, cm, bU, rfl⟩
    refine Za rfl rfl (Zs (v := Value.bool (dz)) rfl (Zx t) rfl (Zb (Ze ?_)))
    have d8 := Zu aa
    subst aw
    exact ⟨dh, cm, ((bU).f1).f1, aI, bf, rfl, aJ, aK, a7, rfl⟩
   replace t := Zk t
   refine WL_passes 4 (by rw [t]; rfl) ?_
   refine Zb (Ze ?_)
   have d9 := Zu aa
   subst aw
   exact ⟨b0, (Zv _), ((ax).f1).f1, aI, bf, rfl, aJ, aK, a7, rfl⟩
  intro dM en bO
  obtain ⟨aS, aH, bb, bg, bh, cy, bi, bj, bk, bl⟩ := bO
  refine (Ze ?_)
  obtain ⟨aq, ab, y⟩ := Zg y
  refine W_mid (M := fun f' w' => (fun (aq : (List (List Int))) => ∃ (b2 : PHeap) (a5 : Value), PHeap.le aS b2 ∧ St w0 b2 (Res.box ad 28 [m, n, o, p, q] :: Res.arr (encSlice (encInt .i64)) 24 a5 aq :: H) w' ∧ f' 1 = Value.pointer (some ⟨ad, 0, none⟩) ∧ f' 4 = a5 ∧ f' 18 = aU ∧ f' 19 = Vi ((aX.length : Int)) ∧ f' 20 = Vi ((aG : Int))) aq) ?_ ?_
  ·rcases ite_some ab with ⟨an, ab⟩ | ⟨an, ab⟩
   ·refine W_cond_t bl an (Zd (Za rfl rfl (Zm (v := a) rfl bh (Za rfl rfl (Zm (v := x) rfl cy (Za rfl rfl (Exec.buildSlice (Te := 24) (cs := [x]) bb rfl (parts_cons (c := [x]) (cells_of rfl (cells_one ((a4.mono aH)).one)) parts_nil) (fun _ => by kernel_rfl) ?_)))))))
    intro d3 eo bV
    obtain ⟨dX, cX, ab⟩ := Zg ab
    refine Za rfl rfl (Exec.append_box (E := (encSlice (encInt .i64))) (ys := [aW]) (bV).f2 S36 Z24 rfl (by decide) rfl rfl rfl rfl ⟨[x], [], rfl, ⟨_, rfl, (a4.mono aH)⟩, rfl⟩ rfl cX ?_)
    intro bB ep bW
    refine Za rfl rfl (Zo (v := bB) rfl rfl (Zb (Ze ?_)))
    have dA := Zu ab
    subst aq
    exact ⟨aS, bB, (Zv _), (bW).f1, bg, rfl, bi, bj, bk⟩
   refine W_cond_f bl an ?_
   replace an := Zk an
   refine W_skip (Ze ?_)
   have dB := Zu ab
   subst aq
   exact ⟨aS, a, (Zv _), ((bb).f1).f1, bg, bh, bi, bj, bk⟩
  intro dN er bP
  obtain ⟨di, a5, cn, bX, cz, c0, c1, c2, c3⟩ := bP
  refine (ib_normal (Ze (Zd (Za rfl rfl (Exec.add rfl c3 rfl (Za rfl rfl (Zm (v := Vi (IntKind.i64.wrap ((aG : Int) + 1))) rfl rfl (Zb (Ze ?_)))))))))
  have dC := Zu y
  subst dg
  exact ⟨di, a5, (Zt (Zt ac aH) cn), ((bX).f1).f1, cz, c0, c1, c2, (Eq.trans rfl (wrap_up cj (SliceRep.le aQ)))⟩
 intro dO es bJ
 obtain ⟨b3, a, co, aF, ea, bm, eb, c4, dr⟩ := bJ
 refine Zc (Zd (Za rfl rfl (Zq rfl dr c4 (Zb (Ze (Zc (W_false (Zx (decide_eq_false (by omega))) (W_exit (at_exit (at_exit (ib_here (Ze (Zc (Zd (Za rfl rfl (Zo (v := Value.slice none 0 0) rfl rfl (Zb (Ze (Zc (Zc (Zd (Za rfl rfl (Zm (v := a) rfl bm (Za rfl rfl (Exec.len_arr ((aF).f1) S36 rfl rfl (Za rfl rfl (Zm (v := Vi (0)) rfl rfl (Zb (Ze ?_)))))))))))))))))))))))))))))
 obtain ⟨au, bG, hm⟩ := Zg hm
 refine W_block (W_forS (fun k' s' f' w' => (fun (au : (List (List Int))) => ∃ (b4 : PHeap) (g : Value), PHeap.le b3 b4 ∧ St w0 b4 (Res.arr (encSlice (encInt .i64)) 24 a b :: Res.arr (encSlice (encInt .i64)) 24 g au :: H) w' ∧ f' 4 = a ∧ f' 7 = g ∧ f' 37 = a ∧ f' 38 = Vi ((b.length : Int)) ∧ f' 39 = Vi (k' : Int)) s') bG ?_ ?_ ?_)
 ·have bY := aF.nilArr (encSlice (encInt .i64)) 24
  exact ⟨b3, (Value.slice none 0 0), (Zv _), (((bY).f1).drop).f1, bm, rfl, rfl, rfl, rfl⟩
 ·intro j au dj dP et ck bK z
  obtain ⟨b5, g, cp, ak, bn, c5, bo, bp, a8⟩ := bK
  refine Zc (Zd (Za rfl rfl (Zq rfl a8 bp (Zb (Ze (Zc (W_true (Zx (decide_eq_true (by omega))) (W_skip (Ze (Zc (W_block (Zc (Zd (Za rfl rfl (Zm (v := Vi ((j : Int))) rfl a8 ?_)))))))))))))))
  obtain ⟨dt, a2, z⟩ := Zg z
  obtain ⟨dV, d5, aY⟩ := (ak).arr_at a2
  refine Za rfl rfl (Exec.index_slice S36 rfl (Eq.trans bo aY) a8 (idx_some a2).1 (idx_some a2).2.1 (Za rfl rfl (Exec.load_arr (F := (encSlice (encInt .i64))) (ak) aY A24 rfl rfl rfl a2 (Sub.refl _) ?_)))
  intro av cY
  have bv : SliceRep _ _ _ (dt) := encSlice_val.1 cY
  refine Za rfl rfl (Zo (v := Vi ((j : Int))) rfl rfl (Za rfl rfl (Zo (v := av) rfl rfl (Zb (Ze (Zc (Zd (Za rfl rfl (Zo (v := Value.bool (false)) rfl rfl (Zb (Ze (Zc (Zc (Zd (Za rfl rfl (Zm (v := a) rfl bn (Za rfl rfl (Exec.len_arr (ak) S36 rfl rfl (Za rfl rfl (Zm (v := Vi (0)) rfl rfl (Zb (Ze ?_))))))))))))))))))))))
  obtain ⟨ae, bH, z⟩ := Zg z
  refine W_block (W_forS (fun k' s' f' w' => (fun (ae : Bool) => ∃ (b6 : PHeap) , PHeap.le b5 b6 ∧ St w0 b6 (Res.arr (encSlice (encInt .i64)) 24 a b :: Res.arr (encSlice (encInt .i64)) 24 g au :: H) w' ∧ f' 4 = a ∧ f' 7 = g ∧ f' 8 = Vi ((j : Int)) ∧ f' 9 = av ∧ f' 10 = Value.bool (ae) ∧ f' 37 = a ∧ f' 38 = Vi ((b.length : Int)) ∧ f' 39 = Vi ((j : Int)) ∧ f' 44 = a ∧ f' 45 = Vi ((b.length : Int)) ∧ f' 46 = Vi (k' : Int)) s') bH ?_ ?_ ?_)
  ·have bZ := (ak).f1
   exact ⟨b5, (Zv _), (bZ).f1, bn, c5, rfl, rfl, rfl, bo, bp, a8, rfl, rfl, rfl⟩
  ·intro ah ae dk dQ eu cl bL ap
   obtain ⟨aT, bd, al, aL, aM, ay, az, c6, aN, aO, aP, a0, a1, aj⟩ := bL
   refine Zc (Zd (Za rfl rfl (Zq rfl aj a1 (Zb (Ze (Zc (W_true (Zx (decide_eq_true (by omega))) (W_skip (Ze (Zc (W_block (Zc (Zd (Za rfl rfl (Zm (v := Vi ((ah : Int))) rfl aj ?_)))))))))))))))
   obtain ⟨du, a3, ap⟩ := Zg ap
   obtain ⟨dW, d6, aZ⟩ := (al).arr_at a3
   refine Za rfl rfl (Exec.index_slice S36 rfl (Eq.trans a0 aZ) aj (idx_some a3).1 (idx_some a3).2.1 (Za rfl rfl (Exec.load_arr (F := (encSlice (encInt .i64))) (al) aZ A24 rfl rfl rfl a3 (Sub.refl _) ?_)))
   intro bC cZ
   have dd : SliceRep _ _ _ (du) := encSlice_val.1 cZ
   refine Za rfl rfl (Zo (v := Vi ((ah : Int))) rfl rfl (Za rfl rfl (Zo (v := bC) rfl rfl (Zb (Ze ?_)))))
   obtain ⟨af, i, ap⟩ := Zg ap
   refine W_mid (M := fun f' w' => (fun (af : Bool) => ∃ (b7 : PHeap) , PHeap.le aT b7 ∧ St w0 b7 (Res.arr (encSlice (encInt .i64)) 24 a b :: Res.arr (encSlice (encInt .i64)) 24 g au :: H) w' ∧ f' 4 = a ∧ f' 7 = g ∧ f' 8 = Vi ((j : Int)) ∧ f' 9 = av ∧ f' 10 = Value.bool (af) ∧ f' 37 = a ∧ f' 38 = Vi ((b.length : Int)) ∧ f' 39 = Vi ((j : Int)) ∧ f' 44 = a ∧ f' 45 = Vi ((b.length : Int)) ∧ f' 46 = Vi ((ah : Int))) af) ?_ ?_
   ·refine Zd (Za rfl rfl (Zm (v := Value.bool (ae)) rfl c6 (Za rfl rfl (Zm (v := Value.bool (ae)) rfl rfl ?_))))
    rcases ite_some i with ⟨h, i⟩ | ⟨h, i⟩
    ·refine WL_passes 10 (by rw [h]; rfl) ?_
     refine Zb (Ze ?_)
     have dD := Zu i
     subst af
     exact ⟨aT, (Zv _), ((al).f1).f1, aL, aM, ay, az, rfl, aN, aO, aP, a0, a1, aj⟩
    replace h := Zk h
    refine WL_run rfl (Zf rfl (Zx h)) rfl (Zm (v := Vi ((j : Int))) rfl ay (WL_run rfl (Zf rfl (Zx h)) rfl (Zm (v := Vi ((ah : Int))) rfl rfl (WL_run rfl (Zf rfl (Zx h)) rfl (Exec.neq rfl rfl rfl (WL_run rfl (Zf rfl (Zx h)) rfl (Zm (v := Value.bool (!decide ((j : Int) = (ah : Int)))) rfl rfl ?_)))))))
    rcases ite_some i with ⟨u, i⟩ | ⟨u, i⟩
    ·refine WL_run rfl (Zf rfl (Zx u)) rfl (Zm (v := av) rfl az (WL_run rfl (Zf rfl (Zx u)) rfl (Zm (v := bC) rfl rfl ?_)))
     obtain ⟨d0, da, i⟩ := Zg i
     refine WL_run rfl (Zf rfl (Zx u)) rfl (Tc rfl rfl rfl (Zi rfl (Zi rfl args_nil)) (invariant_inside_sim da al (bv.mono bd) dd).r ?_)
     rintro _ ev ⟨dl, cq, ca, rfl⟩
     refine WL_run rfl (Zf rfl (Zx h)) rfl (Zs (v := Value.bool (d0)) rfl (Zx u) rfl ?_)
     refine WL_passes 2 (by rw [h]; rfl) ?_
     refine Zb (Ze ?_)
     have dE := Zu i
     subst af
     exact ⟨dl, cq, ((ca).f1).f1, aL, aM, ay, az, rfl, aN, aO, aP, a0, a1, aj⟩
    replace u := Zk u
    refine WL_passes 3 (by rw [u]; rfl) ?_
    refine WL_run rfl (Zf rfl (Zx h)) rfl (Exec.pick_f (v := Value.bool (false)) rfl rfl rfl ?_)
    refine WL_passes 2 (by rw [h]; rfl) ?_
    refine Zb (Ze ?_)
    have dF := Zu i
    subst af
    exact ⟨aT, (Zv _), ((al).f1).f1, aL, aM, ay, az, rfl, aN, aO, aP, a0, a1, aj⟩
   intro dR ew bQ
   obtain ⟨dm, cr, cb, c7, c8, c9, cA, cB, cC, cD, cE, cF, cG, cH⟩ := bQ
   refine (ib_normal (Ze (Zd (Za rfl rfl (Exec.add rfl cH rfl (Za rfl rfl (Zm (v := Vi (IntKind.i64.wrap ((ah : Int) + 1))) rfl rfl (Zb (Ze ?_)))))))))
   have dG := Zu ap
   subst dk
   exact ⟨dm, (Zt bd cr), ((cb).f1).f1, c7, c8, c9, cA, cB, cC, cD, cE, cF, cG, (Eq.trans rfl (wrap_up cl (ak).arr_le))⟩
  intro dS ex bM
  obtain ⟨b8, be, bc, bq, br, ec, cI, cJ, bs, bt, bu, ed, cK, dv⟩ := bM
  refine Zc (Zd (Za rfl rfl (Zq rfl dv cK (Zb (Ze (Zc (W_false (Zx (decide_eq_false (by omega))) (W_exit (at_exit (at_exit (ib_here (Ze (Zc (Zd (Za rfl rfl (Zm (v := Value.bool (ae)) rfl cJ (Za rfl rfl (Exec.not rfl rfl (Zb (Ze ?_))))))))))))))))))))
  obtain ⟨ar, l, z⟩ := Zg z
  refine W_mid (M := fun f' w' => (fun (ar : (List (List Int))) => ∃ (b9 : PHeap) (a6 : Value), PHeap.le b8 b9 ∧ St w0 b9 (Res.arr (encSlice (encInt .i64)) 24 a b :: Res.arr (encSlice (encInt .i64)) 24 a6 ar :: H) w' ∧ f' 4 = a ∧ f' 7 = a6 ∧ f' 37 = a ∧ f' 38 = Vi ((b.length : Int)) ∧ f' 39 = Vi ((j : Int))) ar) ?_ ?_
  ·rcases ite_some l with ⟨ao, l⟩ | ⟨ao, l⟩
   ·refine W_cond_t rfl ao (Zd (Za rfl rfl (Zm (v := g) rfl br (Za rfl rfl (Zm (v := av) rfl cI ?_)))))
    obtain ⟨d1, db, l⟩ := Zg l
    refine Za rfl rfl (Tc rfl rfl rfl (Zi rfl args_nil) (slices_Clone_int_sim db bc (bv.mono be)).r ?_)
    rintro aV ey ⟨eg, _, ct, cc, rfl⟩
    obtain ⟨dn, cu, cd, bw⟩ := cc.freezeArr
    refine Za rfl rfl (Exec.buildSlice (Te := 24) (cs := [aV]) cd rfl (parts_cons (c := [aV]) (cells_of rfl (cells_one (bw).one)) parts_nil) (fun _ => by kernel_rfl) ?_)
    intro d4 ez ce
    obtain ⟨dY, dc, l⟩ := Zg l
    refine Za rfl rfl (Exec.append_box (E := (encSlice (encInt .i64))) (ys := [d1]) (ce).f2 S36 Z24 rfl (by decide) rfl rfl rfl rfl ⟨[aV], [], rfl, ⟨_, rfl, bw⟩, rfl⟩ rfl dc ?_)
    intro bD e0 cf
    refine Za rfl rfl (Zo (v := bD) rfl rfl (Zb (Ze ?_)))
    have dH := Zu l
    subst ar
    exact ⟨dn, bD, (Zt ct cu), (cf).f1, bq, rfl, bs, bt, bu⟩
   refine W_cond_f rfl ao ?_
   replace ao := Zk ao
   refine W_skip (Ze ?_)
   have dI := Zu l
   subst ar
   exact ⟨b8, g, (Zv _), ((bc).f1).f1, bq, br, bs, bt, bu⟩
  intro dT e1 bR
  obtain ⟨dp, a6, cv, cg, cL, cM, cN, cO, cP⟩ := bR
  refine (ib_normal (Ze (Zd (Za rfl rfl (Exec.add rfl cP rfl (Za rfl rfl (Zm (v := Vi (IntKind.i64.wrap ((j : Int) + 1))) rfl rfl (Zb (Ze ?_)))))))))
  have dJ := Zu z
  subst dj
  exact ⟨dp, a6, (Zt (Zt cp be) cv), ((cg).f1).f1, cL, cM, cN, cO, (Eq.trans rfl (wrap_up ck ((aF).f1).arr_le))⟩
 intro dU e2 bN
 obtain ⟨eh, g, cw, ch, ee, cQ, ef, cR, dw⟩ := bN
 refine Zc (Zd (Za rfl rfl (Zq rfl dw cR (Zb (Ze (Zc (W_false (Zx (decide_eq_false (by omega))) (W_exit (at_exit (at_exit (ib_here (Ze (Zc (Zd (Za rfl rfl (Zm (v := g) rfl cQ (Za rfl rfl (Zo (v := g) rfl rfl (Za rfl rfl (Zo (v := errV 45 (none)) rfl rfl (Zb (Ze (W_ret ?_)))))))))))))))))))))))
 have dK := Zu hm
 subst r
 refine ⟨_, ret2 rfl, ?_⟩
 obtain ⟨dq, cx, ci, de⟩ := (ch).f1.freezeArr
 exact ⟨dq, g, (Zt (Zt (Zt (Zt d ai) co) cw) cx), (ci).drop, (tup2 rfl rfl), de⟩
theorem base_Ints_sim {w0 w : World} {s : PHeap} {H : List Res} {j : (List Int)} {q : (List Int)} {b : Value} {c : Value} {r : Bool} (hm : base_Ints_p j q = some r) (hS : St w0 s (H) w) (l : SliceRep (encInt .i64) s b j) (p : SliceRep (encInt .i64) s c q) :
  Calls Tryz.prog 22 #[b, c] w fun e w' => ∃ v, e = .returned v ∧ ((fun (a8 : Bool) => ∃ (ac : PHeap) , PHeap.le s ac ∧ St w0 ac (H) w' ∧ v = Value.bool (a8)) r) := by
 unfold base_Ints_p at hm
 refine calls_of_W Tryz.func22 rfl rfl (Zc (Zd (Za rfl rfl (Zo (v := Value.bool (false)) rfl rfl (Zb (Ze (Zc (Zc (Zd (Za rfl rfl (Zm (v := b) rfl rfl (Za rfl rfl (Zr S24 rfl rfl l (Za rfl rfl (Zm (v := c) rfl rfl (Za rfl rfl (Zr S24 rfl rfl p (Za rfl rfl (Exec.neq rfl rfl rfl (Zb (Ze ?_)))))))))))))))))))))
 rcases ite_some hm with ⟨d, hm⟩ | ⟨d, hm⟩
 ·refine W_cond_t rfl d (Zc (Zd (Za rfl rfl (Zo (v := Value.bool (false)) rfl rfl (Zb (Ze (W_ret (at_ret ?_))))))))
  have aB := Zu hm
  subst r
  refine ⟨_, ret1 rfl, ?_⟩
  exact ⟨s, (Zv _), hS, rfl⟩
 refine W_cond_f rfl d ?_
 replace d := Zk d
 refine W_skip (Ze (Zc (Zc (Zd (Za rfl rfl (Zm (v := b) rfl rfl (Za rfl rfl (Zr S24 rfl rfl l (Za rfl rfl (Zm (v := Vi (0)) rfl rfl (Zb (Ze ?_))))))))))))
 obtain ⟨t, ai, au, aq, ao⟩ := ctl_some hm
 refine W_mid (M := fun f' w' => ∃ s', (t = .next s' ∨ t = .brk s') ∧ (fun (_ : Unit) => ∃ (ad : PHeap) , PHeap.le s ad ∧ St w0 ad (H) w' ∧ f' 0 = b ∧ f' 1 = c ∧ f' 12 = Vi ((j.length : Int))) s') ?_ ?_
 ·refine W_block (W_forC (fun k' s' f' w' => (fun (_ : Unit) => ∃ (ae : PHeap) , PHeap.le s ae ∧ St w0 ae (H) w' ∧ f' 0 = b ∧ f' 1 = c ∧ f' 12 = Vi ((j.length : Int)) ∧ f' 13 = Vi (k' : Int)) s') ai ?_ ?_ ?_)
  ·exact ⟨s, (Zv _), hS, rfl, rfl, rfl, rfl⟩
  ·intro i aQ u aI aV ap aj a av
   obtain ⟨af, n, m, y, z, aa, o⟩ := aj
   refine Zc (Zd (Za rfl rfl (Zq rfl o aa (Zb (Ze (Zc (W_true (Zx (decide_eq_true (by omega))) (W_skip (Ze (Zc (W_block (Zc (Zd (Za rfl rfl (Zm (v := Vi ((i : Int))) rfl o (Za rfl rfl (Zo (v := Vi ((i : Int))) rfl rfl (Zb (Ze (Zc (W_dl (n0 := 9) (qs 0 9 .done) hmix (by kernel_rfl) (by kernel_rfl) (DL_q rfl rfl (Zm (v := b) rfl y ⟨rfl, ?_⟩)))))))))))))))))))))))
   refine DL_q rfl rfl (Zm (v := Vi ((i : Int))) rfl rfl ⟨rfl, ?_⟩)
   obtain ⟨aY, a1, a⟩ := Zg a
   refine DL_q rfl rfl (Exec.index_repE S24 rfl rfl rfl (l.mono n) a1 ?_)
   intro a9 aL ag aC
   refine ⟨rfl, ?_⟩
   refine DL_q rfl rfl (Zw (E := (encInt .i64)) m.drew A3 rfl rfl rfl ag ?_)
   intro aT a2
   obtain rfl := encInt_val.1 a2
   refine ⟨rfl, ?_⟩
   refine DL_q rfl rfl (Zm (v := c) rfl z ⟨rfl, ?_⟩)
   refine DL_q rfl rfl (Zm (v := Vi ((i : Int))) rfl rfl ⟨rfl, ?_⟩)
   obtain ⟨aZ, a3, a⟩ := Zg a
   refine DL_q rfl rfl (Exec.index_repE S24 rfl rfl rfl (p.mono n) a3 ?_)
   intro aA aM ah aD
   refine ⟨rfl, ?_⟩
   refine DL_q rfl rfl (Zw (E := (encInt .i64)) m.drew A3 rfl rfl rfl ah ?_)
   intro aU a4
   obtain rfl := encInt_val.1 a4
   refine ⟨rfl, ?_⟩
   refine DL_q rfl rfl (Exec.neq rfl rfl rfl ⟨rfl, ?_⟩)
   refine DL_done (Zb (Ze ?_))
   rcases ite_some a with ⟨g, a⟩ | ⟨g, a⟩
   ·refine W_cond_t rfl g (Zc (Zd (Za rfl rfl (Zo (v := Value.bool (false)) rfl rfl (Zb (Ze (W_ret (ib_ret (at_ret (at_ret (ib_ret (at_ret (at_ret ?_)))))))))))))
    have aE := Zu a
    subst u
    have ar := au _ (av (by intro _ h; cases h))
    have aF := Zu ar
    subst r
    refine ⟨_, ret1 rfl, ?_⟩
    exact ⟨af, n, m.drew, rfl⟩
   refine W_cond_f rfl g ?_
   replace g := Zk g
   refine W_skip (ib_normal (Ze (Zd (Za rfl rfl (Exec.add rfl o rfl (Za rfl rfl (Zm (v := Vi (IntKind.i64.wrap ((i : Int) + 1))) rfl rfl (Zb (Ze ?_)))))))))
   have aG := Zu a
   subst u
   refine ⟨_, rfl, ?_⟩; exact ⟨af, n, m.drew, y, z, aa, (Eq.trans rfl (wrap_up ap (SliceRep.le l)))⟩
  intro aR aJ aW ak aw
  obtain ⟨a5, ax, am, az, a0, ab, a7⟩ := ak
  refine Zc (Zd (Za rfl rfl (Zq rfl a7 ab (Zb (Ze (Zc (W_false (Zx (decide_eq_false (by omega))) (W_exit (at_exit (at_exit (ib_here (Ze ?_))))))))))))
  refine ⟨_, .inl aw, ?_⟩; exact ⟨a5, ax, am, az, a0, ab⟩
 rintro aK aX ⟨aS, x, al⟩
 have hm := x.elim (aq _) (ao _)
 clear x
 obtain ⟨a6, ay, an, aN, aO, aP⟩ := al
 refine (Ze (Zc (Zd (Za rfl rfl (Zo (v := Value.bool (true)) rfl rfl (Zb (Ze (W_ret ?_))))))))
 have aH := Zu hm
 subst r
 refine ⟨_, ret1 rfl, ?_⟩
 exact ⟨a6, ay, an, rfl⟩
theorem invariant_Balanced_sim {w0 w : World} {s : PHeap} {H : List Res} {fu : Nat} {d : Ground} {x : (List Int)} {g : Value} {h : Value} {i : Value} {j : Value} {k : Value} {n : Value} {r : Bool} (hm : invariant_Balanced_p fu d x = some r) (hS : St w0 s (H) w) (o : SliceRep encAtom s g d.Atoms) (p : SliceRep encGFluent s h d.Fluents) (q : SliceRep (encInt .i64) s i d.Init) (t : SliceRep encCond s j d.Goal) (u : SliceRep encGOp s k d.Ops) (ab : SliceRep (encInt .i64) s n x) :
  Calls Tryz.prog 11 #[Value.agg #[g, h, i, j, k], n] w fun e w' => ∃ v, e = .returned v ∧ ((fun (an : Bool) => ∃ (z : PHeap) , PHeap.le s z ∧ St w0 z (H) w' ∧ v = Value.bool (an)) r) := by
 unfold invariant_Balanced_p at hm
 refine calls_of_W Tryz.func11 rfl rfl (Zc (Zd (Za rfl rfl (Exec.box (cs := [g, h, i, j, k]) hS rfl rfl rfl ?_))))
 intro ap aw y
 refine Za rfl rfl (Zo (v := Value.bool (false)) rfl rfl (Zb (Ze (Zc ?_))))
 obtain ⟨l, a, hm⟩ := Zg hm
 refine W_mid (M := fun f' w' => (fun (l : Bool) => ∃ (aa : PHeap) , PHeap.le s aa ∧ St w0 aa (H) w' ∧ f' 4 = Value.bool (l)) l) ?_ ?_
 ·refine Zd (Za rfl rfl (Exec.load_box_agg (ds := [g, h, i, j, k]) (y) A28 rfl rfl rfl ?_))
  obtain ⟨ao, ai, a⟩ := Zg a
  refine Za rfl rfl (Tc rfl rfl rfl (Zi rfl args_nil) (ground_Valid_sim ai y o p q t u).r ?_)
  rintro _ ax ⟨ak, c, m, rfl⟩
  refine Za rfl rfl (Zm (v := Value.bool (ao)) rfl rfl ?_)
  rcases ite_some a with ⟨b, a⟩ | ⟨b, a⟩
  ·refine WL_run rfl (Zf rfl (Zx b)) rfl (Exec.load_box_agg (ds := [g, h, i, j, k]) (m) A28 rfl rfl rfl (WL_run rfl (Zf rfl (Zx b)) rfl (Zm (v := n) rfl rfl ?_)))
   obtain ⟨a0, aj, a⟩ := Zg a
   refine WL_run rfl (Zf rfl (Zx b)) rfl (Tc rfl rfl rfl (Zi rfl (Zi rfl args_nil)) (invariant_balanced_sim aj m (o.mono c) (p.mono c) (q.mono c) (t.mono c) (u.mono c) (ab.mono c)).r ?_)
   rintro _ ay ⟨al, af, ad, rfl⟩
   refine WL_passes 2 (by rw [b]; rfl) ?_
   refine Zb (Ze ?_)
   have aq := Zu a
   subst l
   exact ⟨al, (Zt c af), (ad).drop, rfl⟩
  replace b := Zk b
  refine WL_passes 5 (by rw [b]; rfl) ?_
  refine Zb (Ze ?_)
  have ar := Zu a
  subst l
  exact ⟨ak, c, (m).drop, rfl⟩
 intro av az ac
 obtain ⟨am, ag, ae, ah⟩ := ac
 refine (Ze (W_ret ?_))
 have au := Zu hm
 subst r
 refine ⟨_, ret1 rfl, ?_⟩
 exact ⟨am, ag, ae, ah⟩
theorem law20_awake_sim {w0 w : World} {s : PHeap} {H : List Res} {fu : Nat}  {r : Bool} (hm : law20_awake_p fu = some r) (hS : St w0 s (H) w)  (ht : TabR Tryz.prog w0 s) :
  Calls Tryz.prog 9 #[] w fun e w' => ∃ v, e = .returned v ∧ ((fun (y24 : Bool) => ∃ (aa : PHeap) , PHeap.le s aa ∧ St w0 aa (H) w' ∧ v = Value.bool (y24)) r) := by
 unfold law20_awake_p at hm
 refine calls_of_W Tryz.func9 rfl rfl (Zc (Zd (Za rfl rfl (Zo (v := Value.bool (false)) rfl rfl (Zb (Ze (Zc (Zd ?_))))))))
 obtain ⟨bB, az, hm⟩ := Zg hm
 refine Za rfl rfl (Tc rfl rfl rfl args_nil (law20_example_sim az hS ).r ?_)
 rintro _ b1 ⟨bj, bo, bp, bq, br, bs, y, af, rfl, a9, aA, aB, aC, aD⟩
 obtain ⟨aS, a0, hm⟩ := Zg hm
 obtain ⟨bC, m⟩ := aS
 replace hm := un2_eq hm
 refine Za rfl rfl (Tc rfl rfl rfl (Zi rfl args_nil) (invariant_Groups_sim a0 af a9 aA aB aC aD (ht.mono y)).r ?_)
 rintro _ b2 ⟨u, k, au, n, rfl, t⟩
 refine Za rfl rfl (Zm (v := Value.tuple #[k, errV 45 (m)]) rfl rfl (Za rfl rfl (Exec.extract (v := k) rfl rfl rfl (Za rfl rfl (Exec.extract (v := errV 45 (m)) rfl rfl rfl (Za rfl rfl (Zo (v := k) rfl rfl (Za rfl rfl (Zo (v := errV 45 (m)) rfl rfl (Zb (Ze (Zc ?_))))))))))))
 obtain ⟨i, a, hm⟩ := Zg hm
 refine W_mid (M := fun f' w' => (fun (i : Bool) => ∃ (ab : PHeap) , PHeap.le u ab ∧ St w0 ab (H) w' ∧ f' 0 = Value.bool (i)) i) ?_ ?_
 ·refine Zd (Za rfl rfl (Zm (v := errV 45 (m)) rfl rfl (Za rfl rfl (Exec.err_eql_nil (T := 45) Tryz.underlying38 rfl rfl rfl (Za rfl rfl (Zm (v := Value.bool (m.isNone)) rfl rfl ?_))))))
  rcases ite_some a with ⟨h, a⟩ | ⟨h, a⟩
  ·refine WL_run rfl (Zf rfl (Zx h)) rfl (Zm (v := k) rfl rfl (WL_run rfl (Zf rfl (Zx h)) rfl (Zr S36 rfl rfl t (WL_run rfl (Zf rfl (Zx h)) rfl (Exec.eql rfl rfl rfl ?_)))))
   refine WL_passes 2 (by rw [h]; rfl) ?_
   rcases ite_some a with ⟨b, a⟩ | ⟨b, a⟩
   ·refine WL_run rfl (Zf rfl (Zx b)) rfl (Zm (v := k) rfl rfl ?_)
    obtain ⟨aT, a1, a⟩ := Zg a
    refine WL_run rfl (Zf rfl (Zx b)) rfl (Exec.index_rep S36 rfl rfl rfl t a1 ?_)
    intro aV bh ac
    refine WL_run rfl (Zf rfl (Zx b)) rfl (Zw (E := (encSlice (encInt .i64))) n A24 rfl rfl rfl ac ?_)
    intro bt a2
    have aE : SliceRep _ _ _ (aT) := encSlice_val.1 a2
    refine WL_run rfl (Zf rfl (Zx b)) rfl (Exec.buildSlice (Te := 3) (cs := [Vi (0), Vi (1)]) n rfl (parts_cons (c := [Vi (0)]) (cells_of rfl rfl) (parts_cons (c := [Vi (1)]) (cells_of rfl rfl) parts_nil)) (fun _ => by kernel_rfl) ?_)
    intro aW b3 ag
    have ah := St.boxArr (E := (encInt .i64)) (xs := [0, 1]) ag ⟨[Vi (0)], [Vi (1)], rfl, rfl, ⟨[Vi (1)], [], rfl, rfl, rfl⟩⟩ (by simp [maxLen])
    obtain ⟨bk, l, ai, aF⟩ := ah.freezeArr
    obtain ⟨bD, a3, a⟩ := Zg a
    refine WL_run rfl (Zf rfl (Zx b)) rfl (Tc rfl rfl rfl (Zi rfl (Zi rfl args_nil)) (base_Ints_sim a3 ai (aE.mono l) aF).r ?_)
    rintro _ b4 ⟨aO, o, p, rfl⟩
    refine WL_passes 2 (by rw [b]; rfl) ?_
    rcases ite_some a with ⟨d, a⟩ | ⟨d, a⟩
    ·refine WL_run rfl (Zf rfl (Zx d)) rfl (Zm (v := k) rfl rfl ?_)
     obtain ⟨aU, a4, a⟩ := Zg a
     refine WL_run rfl (Zf rfl (Zx d)) rfl (Exec.index_rep S36 rfl rfl rfl (t.mono (Zt l o)) a4 ?_)
     intro aX bi ad
     refine WL_run rfl (Zf rfl (Zx d)) rfl (Zw (E := (encSlice (encInt .i64))) p A24 rfl rfl rfl ad ?_)
     intro bu a5
     have aG : SliceRep _ _ _ (aU) := encSlice_val.1 a5
     refine WL_run rfl (Zf rfl (Zx d)) rfl (Exec.buildSlice (Te := 3) (cs := [Vi (2), Vi (3)]) p rfl (parts_cons (c := [Vi (2)]) (cells_of rfl rfl) (parts_cons (c := [Vi (3)]) (cells_of rfl rfl) parts_nil)) (fun _ => by kernel_rfl) ?_)
     intro aY b5 aj
     have ak := St.boxArr (E := (encInt .i64)) (xs := [2, 3]) aj ⟨[Vi (2)], [Vi (3)], rfl, rfl, ⟨[Vi (3)], [], rfl, rfl, rfl⟩⟩ (by simp [maxLen])
     obtain ⟨bl, q, al, aH⟩ := ak.freezeArr
     obtain ⟨bE, a6, a⟩ := Zg a
     refine WL_run rfl (Zf rfl (Zx d)) rfl (Tc rfl rfl rfl (Zi rfl (Zi rfl args_nil)) (base_Ints_sim a6 al (aG.mono q) aH).r ?_)
     rintro _ b6 ⟨aP, z, x, rfl⟩
     refine WL_passes 2 (by rw [d]; rfl) ?_
     rcases ite_some a with ⟨g, a⟩ | ⟨g, a⟩
     ·obtain ⟨bF, a7, a⟩ := Zg a
      refine WL_run rfl (Zf rfl (Zx g)) rfl (Tc rfl rfl rfl args_nil (law20_example_sim a7 x ).r ?_)
      rintro _ b7 ⟨bm, bv, bw, bx, bz, b0, av, am, rfl, aI, aJ, aK, aL, aM⟩
      refine WL_run rfl (Zf rfl (Zx g)) rfl (Exec.buildSlice (Te := 3) (cs := [Vi (0), Vi (2)]) am rfl (parts_cons (c := [Vi (0)]) (cells_of rfl rfl) (parts_cons (c := [Vi (2)]) (cells_of rfl rfl) parts_nil)) (fun _ => by kernel_rfl) ?_)
      intro aZ b8 an
      have ao := St.boxArr (E := (encInt .i64)) (xs := [0, 2]) an ⟨[Vi (0)], [Vi (2)], rfl, rfl, ⟨[Vi (2)], [], rfl, rfl, rfl⟩⟩ (by simp [maxLen])
      obtain ⟨bn, j, ap, aN⟩ := ao.freezeArr
      obtain ⟨bG, a8, a⟩ := Zg a
      refine WL_run rfl (Zf rfl (Zx g)) rfl (Tc rfl rfl rfl (Zi rfl (Zi rfl args_nil)) (invariant_Balanced_sim a8 ap (aI.mono j) (aJ.mono j) (aK.mono j) (aL.mono j) (aM.mono j) aN).r ?_)
      rintro _ b9 ⟨aQ, aw, aq, rfl⟩
      refine WL_run rfl (Zf rfl (Zx g)) rfl (Exec.not rfl rfl ?_)
      refine WL_passes 2 (by rw [g]; rfl) ?_
      refine Zb (Ze ?_)
      have ba := Zu a
      subst i
      exact ⟨aQ, (Zt (Zt (Zt (Zt (Zt (Zt l o) q) z) av) j) aw), aq, rfl⟩
     replace g := Zk g
     refine WL_passes 6 (by rw [g]; rfl) ?_
     refine Zb (Ze ?_)
     have bb := Zu a
     subst i
     exact ⟨aP, (Zt (Zt (Zt l o) q) z), x, rfl⟩
    replace d := Zk d
    refine WL_passes 13 (by rw [d]; rfl) ?_
    refine Zb (Ze ?_)
    have bc := Zu a
    subst i
    exact ⟨aO, (Zt l o), p, rfl⟩
   replace b := Zk b
   refine WL_passes 20 (by rw [b]; rfl) ?_
   refine Zb (Ze ?_)
   have bd := Zu a
   subst i
   exact ⟨u, (Zv _), n, rfl⟩
  replace h := Zk h
  refine WL_passes 25 (by rw [h]; rfl) ?_
  refine Zb (Ze ?_)
  have be := Zu a
  subst i
  exact ⟨u, (Zv _), n, rfl⟩
 intro bg bA ae
 obtain ⟨aR, ax, ar, ay⟩ := ae
 refine (Ze (W_ret ?_))
 have bf := Zu hm
 subst r
 refine ⟨_, ret1 rfl, ?_⟩
 exact ⟨aR, (Zt (Zt y au) ax), ar, ay⟩
theorem law20_few_sim {w0 w : World} {s : PHeap} {H : List Res} {fu : Nat} {a : Ground} {g : Value} {n : Value} {o : Value} {p : Value} {i : Value} {r : Bool} (hm : law20_few_p fu a = some r) (hS : St w0 s (H) w) (y : SliceRep encAtom s g a.Atoms) (an : SliceRep encGFluent s n a.Fluents) (aR : SliceRep (encInt .i64) s o a.Init) (ao : SliceRep encCond s p a.Goal) (z : SliceRep encGOp s i a.Ops) :
  Calls Tryz.prog 10 #[Value.agg #[g, n, o, p, i]] w fun e w' => ∃ v, e = .returned v ∧ ((fun (bN : Bool) => ∃ (aC : PHeap) , PHeap.le s aC ∧ St w0 aC (H) w' ∧ v = Value.bool (bN)) r) := by
 unfold law20_few_p at hm
 refine calls_of_W Tryz.func10 rfl rfl (Zc (Zd (Za rfl rfl (Exec.box (cs := [g, n, o, p, i]) hS rfl rfl rfl ?_))))
 intro j cy q
 refine Za rfl rfl (Zo (v := Value.bool (false)) rfl rfl (Zb (Ze (Zc (Zc (W_mid (M := fun f' w' => ∃ (aD : PHeap) , PHeap.le s aD ∧ St w0 aD (Res.box j 28 [g, n, o, p, i] :: H) w' ∧ f' 1 = Value.pointer (some ⟨j, 0, none⟩) ∧ f' 28 = Value.bool (((decide (14 < (a.Atoms.length : Int))) || ((decide (8 < (a.Ops.length : Int))) || ((decide (3 < (a.Fluents.length : Int))) || decide (4 < (a.Goal.length : Int))))))) ?_ ?_))))))
 ·refine Zd (Za rfl rfl (Zp F28_0 rfl rfl rfl (Za rfl rfl (Zn (q) A22 rfl rfl rfl (Za rfl rfl (Zr S22 rfl rfl y (Za rfl rfl (Exec.gtr rfl rfl rfl (Za rfl rfl (Zm (v := Value.bool (decide (14 < (a.Atoms.length : Int)))) rfl rfl ?_))))))))))
  by_cases c : (decide (14 < (a.Atoms.length : Int))) = true
  ·refine WL_passes 17 (by rw [c]; rfl) ?_
   refine Zb (Ze ?_)
   exact ⟨s, (Zv _), q, rfl, (Zx (or_t c)).symm⟩
  replace c := Zk c
  refine WL_run rfl (Zf rfl (Zx c)) rfl (Zp F28_4 rfl rfl rfl (WL_run rfl (Zf rfl (Zx c)) rfl (Zn (q) A26 rfl rfl rfl (WL_run rfl (Zf rfl (Zx c)) rfl (Zr S26 rfl rfl z (WL_run rfl (Zf rfl (Zx c)) rfl (Exec.gtr rfl rfl rfl ?_)))))))
  refine WL_passes 2 (by rw [c]; rfl) ?_
  by_cases d : (decide (8 < (a.Ops.length : Int))) = true
  ·refine WL_passes 11 (by rw [d]; rfl) ?_
   refine Zb (Ze ?_)
   exact ⟨s, (Zv _), q, rfl, (Zx (Eq.trans (or_f c) (or_t d))).symm⟩
  replace d := Zk d
  refine WL_run rfl (Zf rfl (Zx d)) rfl (Zp F28_1 rfl rfl rfl (WL_run rfl (Zf rfl (Zx d)) rfl (Zn (q) A23 rfl rfl rfl (WL_run rfl (Zf rfl (Zx d)) rfl (Zr S23 rfl rfl an (WL_run rfl (Zf rfl (Zx d)) rfl (Exec.gtr rfl rfl rfl ?_)))))))
  refine WL_passes 2 (by rw [d]; rfl) ?_
  by_cases l : (decide (3 < (a.Fluents.length : Int))) = true
  ·refine WL_passes 5 (by rw [l]; rfl) ?_
   refine Zb (Ze ?_)
   exact ⟨s, (Zv _), q, rfl, (Zx (Eq.trans (or_f c) (Eq.trans (or_f d) (or_t l)))).symm⟩
  replace l := Zk l
  refine WL_run rfl (Zf rfl (Zx l)) rfl (Zp F28_3 rfl rfl rfl (WL_run rfl (Zf rfl (Zx l)) rfl (Zn (q) A25 rfl rfl rfl (WL_run rfl (Zf rfl (Zx l)) rfl (Zr S25 rfl rfl ao (WL_run rfl (Zf rfl (Zx l)) rfl (Exec.gtr rfl rfl rfl (Za rfl rfl (Exec.pick_f (v := Value.bool (decide (4 < (a.Goal.length : Int)))) rfl (Zx l) rfl (Zb (Ze ?_)))))))))))
  exact ⟨s, (Zv _), q, rfl, (Zx (Eq.trans (or_f c) (Eq.trans (or_f d) (or_f l)))).symm⟩
 intro cb cz ba
 obtain ⟨ad, b, af, a1, a2⟩ := ba
 refine (Ze ?_)
 rcases ite_some hm with ⟨aa, hm⟩ | ⟨aa, hm⟩
 ·refine W_cond_t a2 aa (Zc (Zd (Za rfl rfl (Zo (v := Value.bool (false)) rfl rfl (Zb (Ze (W_ret (at_ret ?_))))))))
  have bT := Zu hm
  subst r
  refine ⟨_, ret1 rfl, ?_⟩
  exact ⟨ad, b, (af).drop, rfl⟩
 refine W_cond_f a2 aa ?_
 replace aa := Zk aa
 refine W_skip (Ze (Zc (Zc (Zd (Za rfl rfl (Zp F28_0 rfl a1 rfl (Za rfl rfl (Zn (af) A22 rfl rfl rfl (Za rfl rfl (Zr S22 rfl rfl (y.mono b) (Za rfl rfl (Zm (v := Vi (0)) rfl rfl (Zb (Ze ?_))))))))))))))
 obtain ⟨ap, aU, bq, bm, bi⟩ := ctl_some hm
 refine W_mid (M := fun f' w' => ∃ s', (ap = .next s' ∨ ap = .brk s') ∧ (fun (_ : Unit) => ∃ (aE : PHeap) , PHeap.le ad aE ∧ St w0 aE (Res.box j 28 [g, n, o, p, i] :: H) w' ∧ f' 1 = Value.pointer (some ⟨j, 0, none⟩) ∧ f' 30 = g ∧ f' 31 = Vi ((a.Atoms.length : Int))) s') ?_ ?_
 ·refine W_block (W_forC (fun k' s' f' w' => (fun (_ : Unit) => ∃ (aF : PHeap) , PHeap.le ad aF ∧ St w0 aF (Res.box j 28 [g, n, o, p, i] :: H) w' ∧ f' 1 = Value.pointer (some ⟨j, 0, none⟩) ∧ f' 30 = g ∧ f' 31 = Vi ((a.Atoms.length : Int)) ∧ f' 32 = Vi (k' : Int)) s') aU ?_ ?_ ?_)
  ·exact ⟨ad, (Zv _), af, a1, rfl, rfl, rfl⟩
  ·intro bw cp aq cc c0 bk aW t bs
   obtain ⟨aG, ai, av, b2, a3, a4, al⟩ := aW
   refine Zc (Zd (Za rfl rfl (Zq rfl al a4 (Zb (Ze (Zc (W_true (Zx (decide_eq_true (by omega))) (W_skip (Ze (Zc (W_block (Zc (Zd ?_)))))))))))))
   obtain ⟨aQ, b9, t⟩ := Zg t
   refine Za rfl rfl (Exec.index_rep S22 rfl a3 al (y.mono (Zt b ai)) b9 ?_)
   intro bP ci aS
   refine Za rfl rfl (Zw (E := encAtom) av A56 rfl rfl rfl aS ?_)
   intro cw bA
   obtain ⟨aK, rfl, aA⟩ := encAtom_val.1 bA
   refine Za rfl rfl (Exec.alloc (cs := [Value.string (⟨#[]⟩), Value.slice none 0 0]) av Z56 rfl rfl ?_)
   intro bQ c1 bd
   refine Za rfl rfl (Exec.store_box (ds := [Value.string (aQ.Name), aK]) (es := [Value.string (aQ.Name), aK]) bd A56 rfl rfl rfl rfl (Zj rfl (Zj (aA).one one_nil)) (Nat.le_of_ble_eq_true rfl) rfl ?_)
   intro c2 ag
   refine Zb (Ze (Zc (Zd (Za rfl rfl (Zp F56_1 rfl rfl rfl (Za rfl rfl (Zn (ag) A54 rfl rfl rfl (Za rfl rfl (Zr S54 rfl rfl aA (Za rfl rfl (Exec.gtr rfl rfl rfl (Zb (Ze ?_)))))))))))))
   rcases ite_some t with ⟨ab, t⟩ | ⟨ab, t⟩
   ·refine W_cond_t rfl ab (Zc (Zd (Za rfl rfl (Zo (v := Value.bool (false)) rfl rfl (Zb (Ze (W_ret (ib_ret (at_ret (at_ret (ib_ret (at_ret (at_ret ?_)))))))))))))
    have bU := Zu t
    subst aq
    have bo := bq _ (bs (by intro _ h; cases h))
    have bV := Zu bo
    subst r
    refine ⟨_, ret1 rfl, ?_⟩
    exact ⟨aG, (Zt b ai), ((ag).drop).drop, rfl⟩
   refine W_cond_f rfl ab ?_
   replace ab := Zk ab
   refine W_skip (ib_normal (Ze (Zd (Za rfl rfl (Exec.add rfl al rfl (Za rfl rfl (Zm (v := Vi (IntKind.i64.wrap ((bw : Int) + 1))) rfl rfl (Zb (Ze ?_)))))))))
   have bW := Zu t
   subst aq
   refine ⟨_, rfl, ?_⟩; exact ⟨aG, ai, (ag).drop, b2, a3, a4, (Eq.trans rfl (wrap_up bk (SliceRep.le (y.mono b))))⟩
  intro cq cd c3 aX bt
  obtain ⟨bI, bz, be, b3, b4, a5, bL⟩ := aX
  refine Zc (Zd (Za rfl rfl (Zq rfl bL a5 (Zb (Ze (Zc (W_false (Zx (decide_eq_false (by omega))) (W_exit (at_exit (at_exit (ib_here (Ze ?_))))))))))))
  refine ⟨_, .inl bt, ?_⟩; exact ⟨bI, bz, be, b3, b4, a5⟩
 rintro ce c4 ⟨cr, az, bb⟩
 have hm := az.elim (bm _) (bi _)
 clear az
 obtain ⟨ak, m, aw, a6, ck, cl⟩ := bb
 refine (Ze (Zc (Zc (Zd (Za rfl rfl (Zp F28_4 rfl a6 rfl (Za rfl rfl (Zn (aw) A26 rfl rfl rfl (Za rfl rfl (Zr S26 rfl rfl (z.mono (Zt b m)) (Za rfl rfl (Zm (v := Vi (0)) rfl rfl (Zb (Ze ?_))))))))))))))
 obtain ⟨ar, aV, br, bn, bj⟩ := ctl_some hm
 refine W_mid (M := fun f' w' => ∃ s', (ar = .next s' ∨ ar = .brk s') ∧ (fun (_ : Unit) => ∃ (aH : PHeap) , PHeap.le ak aH ∧ St w0 aH (Res.box j 28 [g, n, o, p, i] :: H) w' ∧ f' 1 = Value.pointer (some ⟨j, 0, none⟩) ∧ f' 42 = i ∧ f' 43 = Vi ((a.Ops.length : Int))) s') ?_ ?_
 ·refine W_block (W_forC (fun k' s' f' w' => (fun (_ : Unit) => ∃ (aI : PHeap) , PHeap.le ak aI ∧ St w0 aI (Res.box j 28 [g, n, o, p, i] :: H) w' ∧ f' 1 = Value.pointer (some ⟨j, 0, none⟩) ∧ f' 42 = i ∧ f' 43 = Vi ((a.Ops.length : Int)) ∧ f' 44 = Vi (k' : Int)) s') aV ?_ ?_ ?_)
  ·exact ⟨ak, (Zv _), aw, a6, rfl, rfl, rfl⟩
  ·intro bx ct au cf c5 bl aY u bu
   obtain ⟨aJ, aj, ax, b5, a7, a8, am⟩ := aY
   refine Zc (Zd (Za rfl rfl (Zq rfl am a8 (Zb (Ze (Zc (W_true (Zx (decide_eq_true (by omega))) (W_skip (Ze (Zc (W_block (Zc (Zd ?_)))))))))))))
   obtain ⟨ae, bB, u⟩ := Zg u
   refine Za rfl rfl (Exec.index_rep S26 rfl a7 am (z.mono (Zt (Zt b m) aj)) bB ?_)
   intro bR cj aT
   refine Za rfl rfl (Zw (E := encGOp) ax A63 rfl rfl rfl aT ?_)
   intro cx bC
   obtain ⟨aL, aM, aN, aO, aP, rfl, bE, bF, bG, aB, bH⟩ := encGOp_val.1 bC
   refine Za rfl rfl (Exec.alloc (cs := [Value.string (⟨#[]⟩), Vi (0), Value.slice none 0 0, Value.slice none 0 0, Value.slice none 0 0, Value.slice none 0 0, Value.slice none 0 0]) ax Z63 rfl rfl ?_)
   intro bS c6 bf
   refine Za rfl rfl (Exec.store_box (ds := [Value.string (ae.Name), Vi (ae.Cost), aL, aM, aN, aO, aP]) (es := [Value.string (ae.Name), Vi (ae.Cost), aL, aM, aN, aO, aP]) bf A63 rfl rfl rfl rfl (Zj rfl (Zj rfl (Zj (bE).one (Zj (bF).one (Zj (bG).one (Zj (aB).one (Zj (bH).one one_nil))))))) (Nat.le_of_ble_eq_true rfl) rfl ?_)
   intro c7 ah
   refine Zb (Ze (Zc (Zd (Za rfl rfl (Zp F63_3 rfl rfl rfl (Za rfl rfl (Zn (ah) A60 rfl rfl rfl (Za rfl rfl (Zr S60 rfl rfl aB (Za rfl rfl (Exec.gtr rfl rfl rfl (Zb (Ze ?_)))))))))))))
   rcases ite_some u with ⟨ac, u⟩ | ⟨ac, u⟩
   ·refine W_cond_t rfl ac (Zc (Zd (Za rfl rfl (Zo (v := Value.bool (false)) rfl rfl (Zb (Ze (W_ret (ib_ret (at_ret (at_ret (ib_ret (at_ret (at_ret ?_)))))))))))))
    have bX := Zu u
    subst au
    have bp := br _ (bu (by intro _ h; cases h))
    have bY := Zu bp
    subst r
    refine ⟨_, ret1 rfl, ?_⟩
    exact ⟨aJ, (Zt (Zt b m) aj), ((ah).drop).drop, rfl⟩
   refine W_cond_f rfl ac ?_
   replace ac := Zk ac
   refine W_skip (ib_normal (Ze (Zd (Za rfl rfl (Exec.add rfl am rfl (Za rfl rfl (Zm (v := Vi (IntKind.i64.wrap ((bx : Int) + 1))) rfl rfl (Zb (Ze ?_)))))))))
   have bZ := Zu u
   subst au
   refine ⟨_, rfl, ?_⟩; exact ⟨aJ, aj, (ah).drop, b5, a7, a8, (Eq.trans rfl (wrap_up bl (SliceRep.le (z.mono (Zt b m)))))⟩
  intro cu cg c8 aZ bv
  obtain ⟨bJ, b0, bg, b6, b7, a9, bM⟩ := aZ
  refine Zc (Zd (Za rfl rfl (Zq rfl bM a9 (Zb (Ze (Zc (W_false (Zx (decide_eq_false (by omega))) (W_exit (at_exit (at_exit (ib_here (Ze ?_))))))))))))
  refine ⟨_, .inl bv, ?_⟩; exact ⟨bJ, b0, bg, b6, b7, a9⟩
 rintro ch c9 ⟨cv, a0, bc⟩
 have hm := a0.elim (bn _) (bj _)
 clear a0
 obtain ⟨co, x, ay, b8, cm, cn⟩ := bc
 refine (Ze (Zc (Zd (Za rfl rfl (Exec.load_box_agg (ds := [g, n, o, p, i]) (ay) A28 rfl b8 rfl ?_)))))
 obtain ⟨bO, bD, hm⟩ := Zg hm
 refine Za rfl rfl (Tc rfl rfl rfl (Zi rfl args_nil) (ground_Valid_sim bD ay (y.mono (Zt (Zt b m) x)) (an.mono (Zt (Zt b m) x)) (aR.mono (Zt (Zt b m) x)) (ao.mono (Zt (Zt b m) x)) (z.mono (Zt (Zt b m) x))).r ?_)
 rintro _ cA ⟨bK, b1, bh, rfl⟩
 refine Za rfl rfl (Zo (v := Value.bool (bO)) rfl rfl (Zb (Ze (W_ret ?_))))
 have ca := Zu hm
 subst r
 refine ⟨_, ret1 rfl, ?_⟩
 exact ⟨bK, (Zt (Zt (Zt b m) x) b1), (bh).drop, rfl⟩
end Go.Pw
