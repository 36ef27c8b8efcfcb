/-
  The walks (printed by my generator).
-/
import Derived.Test.YtcabhickgjhkhaaGreatDoorL29
import Derived.Test.YtcabhickgjhkhaaGreatDoorL27
import Derived.Test.YtcabhickgjhkhaaGreatDoorIs6
set_option maxRecDepth 100000
set_option maxHeartbeats 4000000
set_option linter.unusedVariables false
namespace Go.Pw
open Go.Proofs
theorem invariant_Groups_sim {w0 w : World} {s : PHeap} {H : List Res} {fu : Nat} {ag : Ground} {m : Value} {n : Value} {o : Value} {p : Value} {q : Value} {r : (List (List Int)) × (Option Int)} (hm : invariant_Groups_p fu ag = some r) (hS : St w0 s (H) w) (a9 : SliceRep encAtom s m ag.Atoms) (aA : SliceRep encGFluent s n ag.Fluents) (aB : SliceRep (encInt .i64) s o ag.Init) (aC : SliceRep encCond s p ag.Goal) (aD : SliceRep encGOp s q ag.Ops) (ht : TabR Tryz.prog w0 s) :
  Calls Tryz.prog 14 #[Value.agg #[m, n, o, p, q]] w fun e w' => ∃ v, e = .returned v ∧ ((un2 fun (dx : (List (List Int))) (dy : (Option Int)) => ∃ (aR : PHeap) (bA : Value), PHeap.le s aR ∧ St w0 aR (H) w' ∧ v = Value.tuple #[bA, errV 45 (dy)] ∧ SliceRep (encSlice (encInt .i64)) aR bA dx) r) := by
 unfold invariant_Groups_p at hm
 refine calls_of_W Tryz.func14 rfl rfl (Zc (Zd (Za rfl rfl (Exec.box (cs := [m, n, o, p, q]) hS rfl rfl rfl ?_))))
 intro ad ei ba
 refine Za rfl rfl (Zo (v := Value.slice none 0 0) rfl rfl (Za rfl rfl (Zo (v := errV 45 (none)) rfl rfl (Zb (Ze (Zc (Zc (Zd (Za rfl rfl (Exec.load_box_agg (ds := [m, n, o, p, q]) (ba) A28 rfl rfl rfl ?_))))))))))
 obtain ⟨e3, cS, hm⟩ := Zg hm
 refine Za rfl rfl (Tc rfl rfl rfl (Zi rfl args_nil) (ground_Valid_sim cS ba a9 aA aB aC aD).r ?_)
 rintro _ ej ⟨df, d, aE, rfl⟩
 refine Za rfl rfl (Exec.not rfl rfl (Zb (Ze ?_)))
 rcases ite_some hm with ⟨am, hm⟩ | ⟨am, hm⟩
 ·refine W_cond_t rfl am (Zc (Zd (Za rfl rfl (Exec.makeInterface C45 rfl rfl (Za rfl rfl (Zo (v := Value.slice none 0 0) rfl rfl (Za rfl rfl (Zo (v := errV 45 (some 2)) rfl rfl (Zb (Ze (W_ret (at_ret ?_))))))))))))
  have d7 := Zu hm
  subst r
  refine ⟨_, ret2 rfl, ?_⟩
  exact ⟨df, (Value.slice none 0 0), d, (aE).drop, (tup2 rfl rfl), (SliceRep.nil _ _)⟩
 refine W_cond_f rfl am ?_
 replace am := Zk am
 refine W_skip (Ze (Zc (Zd (Za rfl rfl (Zo (v := Value.slice none 0 0) rfl rfl (Zb (Ze (Zc (Zc (Zd (Za rfl rfl (Exec.load_box_agg (ds := [m, n, o, p, q]) (aE) A28 rfl rfl rfl ?_))))))))))))
 obtain ⟨aX, cT, hm⟩ := Zg hm
 refine Za rfl rfl (Tc rfl rfl rfl (Zi rfl args_nil) (invariant_candidates_sim cT aE (a9.mono d) (aA.mono d) (aB.mono d) (aC.mono d) (aD.mono d) (ht.mono d)).r ?_)
 rintro aU ek ⟨bx, _, ai, bS, rfl, aQ⟩
 refine Za rfl rfl (Zr S36 rfl rfl aQ (Za rfl rfl (Zm (v := Vi (0)) rfl rfl (Zb (Ze ?_)))))
 obtain ⟨b, bF, hm⟩ := Zg hm
 refine W_block (W_forS (fun k' s' f' w' => (fun (b : (List (List Int))) => ∃ (bz : PHeap) (a : Value), PHeap.le bx bz ∧ St w0 bz (Res.box ad 28 [m, n, o, p, q] :: Res.arr (encSlice (encInt .i64)) 24 a b :: H) w' ∧ f' 1 = Value.pointer (some ⟨ad, 0, none⟩) ∧ f' 4 = a ∧ f' 18 = aU ∧ f' 19 = Vi ((aX.length : Int)) ∧ f' 20 = Vi (k' : Int)) s') bF ?_ ?_ ?_)
 ·have bT := bS.nilArr (encSlice (encInt .i64)) 24
  exact ⟨bx, (Value.slice none 0 0), (Zv _), (bT).f1, rfl, rfl, rfl, rfl, rfl⟩
 ·intro aG b dg dL el cj bI y
  obtain ⟨b0, a, ac, ax, aI, bf, aJ, aK, a7⟩ := bI
  refine Zc (Zd (Za rfl rfl (Zq rfl a7 aK (Zb (Ze (Zc (W_true (Zx (decide_eq_true (by omega))) (W_skip (Ze (Zc (W_block (Zc (Zd ?_)))))))))))))
  obtain ⟨aW, cU, y⟩ := Zg y
  refine Za rfl rfl (Exec.index_rep S36 rfl aJ a7 (aQ.mono ac) cU ?_)
  intro d2 dZ bE
  refine Za rfl rfl (Zw (E := (encSlice (encInt .i64))) ax A24 rfl rfl rfl bE ?_)
  intro x cV
  have a4 : SliceRep _ _ _ (aW) := encSlice_val.1 cV
  refine Za rfl rfl (Zo (v := x) rfl rfl (Zb (Ze (Zc ?_))))
  obtain ⟨aw, aa, y⟩ := Zg y
  refine W_mid (M := fun f' w' => (fun (aw : Bool) => ∃ (b1 : PHeap) , PHeap.le b0 b1 ∧ St w0 b1 (Res.box ad 28 [m, n, o, p, q] :: Res.arr (encSlice (encInt .i64)) 24 a b :: H) w' ∧ f' 1 = Value.pointer (some ⟨ad, 0, none⟩) ∧ f' 4 = a ∧ f' 6 = x ∧ f' 18 = aU ∧ f' 19 = Vi ((aX.length : Int)) ∧ f' 20 = Vi ((aG : Int)) ∧ f' 31 = Value.bool (aw)) aw) ?_ ?_
  ·refine Zd (Za rfl rfl (Zm (v := x) rfl rfl (Za rfl rfl (Zr S24 rfl rfl a4 (Za rfl rfl (Exec.geq rfl rfl rfl (Za rfl rfl (Zm (v := Value.bool (decide (2 ≤ (aW.length : Int)))) rfl rfl ?_))))))))
   rcases ite_some aa with ⟨t, aa⟩ | ⟨t, aa⟩
   ·refine WL_run rfl (Zf rfl (Zx t)) rfl (Exec.load_box_agg (ds := [m, n, o, p, q]) (ax) A28 rfl aI rfl (WL_run rfl (Zf rfl (Zx t)) rfl (Zm (v := x) rfl rfl ?_)))
    obtain ⟨dz, cW, aa⟩ := Zg aa
    refine WL_run rfl (Zf rfl (Zx t)) rfl (Tc rfl rfl rfl (Zi rfl (Zi rfl args_nil)) (invariant_balanced_sim cW ax (a9.mono (Zt (Zt d ai) ac)) (aA.mono (Zt (Zt d ai) ac)) (aB.mono (Zt (Zt d ai) ac)) (aC.mono (Zt (Zt d ai) ac)) (aD.mono (Zt (Zt d ai) ac)) a4).r ?_)
    rintro _ em ⟨dh, cm, bU, rfl⟩
    refine Za rfl rfl (Zs (v := Value.bool (dz)) rfl (Zx t) rfl (Zb (Ze ?_)))
    have d8 := Zu aa
    subst aw
    exact ⟨dh, cm, ((bU).f1).f1, aI, bf, rfl, aJ, aK, a7, rfl⟩
   replace t := Zk t
   refine WL_passes 4 (by rw [t]; rfl) ?_
   refine Zb (Ze ?_)
   have d9 := Zu aa
   subst aw
   exact ⟨b0, (Zv _), ((ax).f1).f1, aI, bf, rfl, aJ, aK, a7, rfl⟩
  intro dM en bO
  obtain ⟨aS, aH, bb, bg, bh, cy, bi, bj, bk, bl⟩ := bO
  refine (Ze ?_)
  obtain ⟨aq, ab, y⟩ := Zg y
  refine W_mid (M := fun f' w' => (fun (aq : (List (List Int))) => ∃ (b2 : PHeap) (a5 : Value), PHeap.le aS b2 ∧ St w0 b2 (Res.box ad 28 [m, n, o, p, q] :: Res.arr (encSlice (encInt .i64)) 24 a5 aq :: H) w' ∧ f' 1 = Value.pointer (some ⟨ad, 0, none⟩) ∧ f' 4 = a5 ∧ f' 18 = aU ∧ f' 19 = Vi ((aX.length : Int)) ∧ f' 20 = Vi ((aG : Int))) aq) ?_ ?_
  ·rcases ite_some ab with ⟨an, ab⟩ | ⟨an, ab⟩
   ·refine W_cond_t bl an (Zd (Za rfl rfl (Zm (v := a) rfl bh (Za rfl rfl (Zm (v := x) rfl cy (Za rfl rfl (Exec.buildSlice (Te := 24) (cs := [x]) bb rfl (parts_cons (c := [x]) (cells_of rfl (cells_one ((a4.mono aH)).one)) parts_nil) (fun _ => by kernel_rfl) ?_)))))))
    intro d3 eo bV
    obtain ⟨dX, cX, ab⟩ := Zg ab
    refine Za rfl rfl (Exec.append_box (E := (encSlice (encInt .i64))) (ys := [aW]) (bV).f2 S36 Z24 rfl (by decide) rfl rfl rfl rfl ⟨[x], [], rfl, ⟨_, rfl, (a4.mono aH)⟩, rfl⟩ rfl cX ?_)
    intro bB ep bW
    refine Za rfl rfl (Zo (v := bB) rfl rfl (Zb (Ze ?_)))
    have dA := Zu ab
    subst aq
    exact ⟨aS, bB, (Zv _), (bW).f1, bg, rfl, bi, bj, bk⟩
   refine W_cond_f bl an ?_
   replace an := Zk an
   refine W_skip (Ze ?_)
   have dB := Zu ab
   subst aq
   exact ⟨aS, a, (Zv _), ((bb).f1).f1, bg, bh, bi, bj, bk⟩
  intro dN er bP
  obtain ⟨di, a5, cn, bX, cz, c0, c1, c2, c3⟩ := bP
  refine (ib_normal (Ze (Zd (Za rfl rfl (Exec.add rfl c3 rfl (Za rfl rfl (Zm (v := Vi (IntKind.i64.wrap ((aG : Int) + 1))) rfl rfl (Zb (Ze ?_)))))))))
  have dC := Zu y
  subst dg
  exact ⟨di, a5, (Zt (Zt ac aH) cn), ((bX).f1).f1, cz, c0, c1, c2, (Eq.trans rfl (wrap_up cj (SliceRep.le aQ)))⟩
 intro dO es bJ
 obtain ⟨b3, a, co, aF, ea, bm, eb, c4, dr⟩ := bJ
 refine Zc (Zd (Za rfl rfl (Zq rfl dr c4 (Zb (Ze (Zc (W_false (Zx (decide_eq_false (by omega))) (W_exit (at_exit (at_exit (ib_here (Ze (Zc (Zd (Za rfl rfl (Zo (v := Value.slice none 0 0) rfl rfl (Zb (Ze (Zc (Zc (Zd (Za rfl rfl (Zm (v := a) rfl bm (Za rfl rfl (Exec.len_arr ((aF).f1) S36 rfl rfl (Za rfl rfl (Zm (v := Vi (0)) rfl rfl (Zb (Ze ?_)))))))))))))))))))))))))))))
 obtain ⟨au, bG, hm⟩ := Zg hm
 refine W_block (W_forS (fun k' s' f' w' => (fun (au : (List (List Int))) => ∃ (b4 : PHeap) (g : Value), PHeap.le b3 b4 ∧ St w0 b4 (Res.arr (encSlice (encInt .i64)) 24 a b :: Res.arr (encSlice (encInt .i64)) 24 g au :: H) w' ∧ f' 4 = a ∧ f' 7 = g ∧ f' 37 = a ∧ f' 38 = Vi ((b.length : Int)) ∧ f' 39 = Vi (k' : Int)) s') bG ?_ ?_ ?_)
 ·have bY := aF.nilArr (encSlice (encInt .i64)) 24
  exact ⟨b3, (Value.slice none 0 0), (Zv _), (((bY).f1).drop).f1, bm, rfl, rfl, rfl, rfl⟩
 ·intro j au dj dP et ck bK z
  obtain ⟨b5, g, cp, ak, bn, c5, bo, bp, a8⟩ := bK
  refine Zc (Zd (Za rfl rfl (Zq rfl a8 bp (Zb (Ze (Zc (W_true (Zx (decide_eq_true (by omega))) (W_skip (Ze (Zc (W_block (Zc (Zd (Za rfl rfl (Zm (v := Vi ((j : Int))) rfl a8 ?_)))))))))))))))
  obtain ⟨dt, a2, z⟩ := Zg z
  obtain ⟨dV, d5, aY⟩ := (ak).arr_at a2
  refine Za rfl rfl (Exec.index_slice S36 rfl (Eq.trans bo aY) a8 (idx_some a2).1 (idx_some a2).2.1 (Za rfl rfl (Exec.load_arr (F := (encSlice (encInt .i64))) (ak) aY A24 rfl rfl rfl a2 (Sub.refl _) ?_)))
  intro av cY
  have bv : SliceRep _ _ _ (dt) := encSlice_val.1 cY
  refine Za rfl rfl (Zo (v := Vi ((j : Int))) rfl rfl (Za rfl rfl (Zo (v := av) rfl rfl (Zb (Ze (Zc (Zd (Za rfl rfl (Zo (v := Value.bool (false)) rfl rfl (Zb (Ze (Zc (Zc (Zd (Za rfl rfl (Zm (v := a) rfl bn (Za rfl rfl (Exec.len_arr (ak) S36 rfl rfl (Za rfl rfl (Zm (v := Vi (0)) rfl rfl (Zb (Ze ?_))))))))))))))))))))))
  obtain ⟨ae, bH, z⟩ := Zg z
  refine W_block (W_forS (fun k' s' f' w' => (fun (ae : Bool) => ∃ (b6 : PHeap) , PHeap.le b5 b6 ∧ St w0 b6 (Res.arr (encSlice (encInt .i64)) 24 a b :: Res.arr (encSlice (encInt .i64)) 24 g au :: H) w' ∧ f' 4 = a ∧ f' 7 = g ∧ f' 8 = Vi ((j : Int)) ∧ f' 9 = av ∧ f' 10 = Value.bool (ae) ∧ f' 37 = a ∧ f' 38 = Vi ((b.length : Int)) ∧ f' 39 = Vi ((j : Int)) ∧ f' 44 = a ∧ f' 45 = Vi ((b.length : Int)) ∧ f' 46 = Vi (k' : Int)) s') bH ?_ ?_ ?_)
  ·have bZ := (ak).f1
   exact ⟨b5, (Zv _), (bZ).f1, bn, c5, rfl, rfl, rfl, bo, bp, a8, rfl, rfl, rfl⟩
  ·intro ah ae dk dQ eu cl bL ap
   obtain ⟨aT, bd, al, aL, aM, ay, az, c6, aN, aO, aP, a0, a1, aj⟩ := bL
   refine Zc (Zd (Za rfl rfl (Zq rfl aj a1 (Zb (Ze (Zc (W_true (Zx (decide_eq_true (by omega))) (W_skip (Ze (Zc (W_block (Zc (Zd (Za rfl rfl (Zm (v := Vi ((ah : Int))) rfl aj ?_)))))))))))))))
   obtain ⟨du, a3, ap⟩ := Zg ap
   obtain ⟨dW, d6, aZ⟩ := (al).arr_at a3
   refine Za rfl rfl (Exec.index_slice S36 rfl (Eq.trans a0 aZ) aj (idx_some a3).1 (idx_some a3).2.1 (Za rfl rfl (Exec.load_arr (F := (encSlice (encInt .i64))) (al) aZ A24 rfl rfl rfl a3 (Sub.refl _) ?_)))
   intro bC cZ
   have dd : SliceRep _ _ _ (du) := encSlice_val.1 cZ
   refine Za rfl rfl (Zo (v := Vi ((ah : Int))) rfl rfl (Za rfl rfl (Zo (v := bC) rfl rfl (Zb (Ze ?_)))))
   obtain ⟨af, i, ap⟩ := Zg ap
   refine W_mid (M := fun f' w' => (fun (af : Bool) => ∃ (b7 : PHeap) , PHeap.le aT b7 ∧ St w0 b7 (Res.arr (encSlice (encInt .i64)) 24 a b :: Res.arr (encSlice (encInt .i64)) 24 g au :: H) w' ∧ f' 4 = a ∧ f' 7 = g ∧ f' 8 = Vi ((j : Int)) ∧ f' 9 = av ∧ f' 10 = Value.bool (af) ∧ f' 37 = a ∧ f' 38 = Vi ((b.length : Int)) ∧ f' 39 = Vi ((j : Int)) ∧ f' 44 = a ∧ f' 45 = Vi ((b.length : Int)) ∧ f' 46 = Vi ((ah : Int))) af) ?_ ?_
   ·refine Zd (Za rfl rfl (Zm (v := Value.bool (ae)) rfl c6 (Za rfl rfl (Zm (v := Value.bool (ae)) rfl rfl ?_))))
    rcases ite_some i with ⟨h, i⟩ | ⟨h, i⟩
    ·refine WL_passes 10 (by rw [h]; rfl) ?_
     refine Zb (Ze ?_)
     have dD := Zu i
     subst af
     exact ⟨aT, (Zv _), ((al).f1).f1, aL, aM, ay, az, rfl, aN, aO, aP, a0, a1, aj⟩
    replace h := Zk h
    refine WL_run rfl (Zf rfl (Zx h)) rfl (Zm (v := Vi ((j : Int))) rfl ay (WL_run rfl (Zf rfl (Zx h)) rfl (Zm (v := Vi ((ah : Int))) rfl rfl (WL_run rfl (Zf rfl (Zx h)) rfl (Exec.neq rfl rfl rfl (WL_run rfl (Zf rfl (Zx h)) rfl (Zm (v := Value.bool (!decide ((j : Int) = (ah : Int)))) rfl rfl ?_)))))))
    rcases ite_some i with ⟨u, i⟩ | ⟨u, i⟩
    ·refine WL_run rfl (Zf rfl (Zx u)) rfl (Zm (v := av) rfl az (WL_run rfl (Zf rfl (Zx u)) rfl (Zm (v := bC) rfl rfl ?_)))
     obtain ⟨d0, da, i⟩ := Zg i
     refine WL_run rfl (Zf rfl (Zx u)) rfl (Tc rfl rfl rfl (Zi rfl (Zi rfl args_nil)) (invariant_inside_sim da al (bv.mono bd) dd).r ?_)
     rintro _ ev ⟨dl, cq, ca, rfl⟩
     refine WL_run rfl (Zf rfl (Zx h)) rfl (Zs (v := Value.bool (d0)) rfl (Zx u) rfl ?_)
     refine WL_passes 2 (by rw [h]; rfl) ?_
     refine Zb (Ze ?_)
     have dE := Zu i
     subst af
     exact ⟨dl, cq, ((ca).f1).f1, aL, aM, ay, az, rfl, aN, aO, aP, a0, a1, aj⟩
    replace u := Zk u
    refine WL_passes 3 (by rw [u]; rfl) ?_
    refine WL_run rfl (Zf rfl (Zx h)) rfl (Exec.pick_f (v := Value.bool (false)) rfl rfl rfl ?_)
    refine WL_passes 2 (by rw [h]; rfl) ?_
    refine Zb (Ze ?_)
    have dF := Zu i
    subst af
    exact ⟨aT, (Zv _), ((al).f1).f1, aL, aM, ay, az, rfl, aN, aO, aP, a0, a1, aj⟩
   intro dR ew bQ
   obtain ⟨dm, cr, cb, c7, c8, c9, cA, cB, cC, cD, cE, cF, cG, cH⟩ := bQ
   refine (ib_normal (Ze (Zd (Za rfl rfl (Exec.add rfl cH rfl (Za rfl rfl (Zm (v := Vi (IntKind.i64.wrap ((ah : Int) + 1))) rfl rfl (Zb (Ze ?_)))))))))
   have dG := Zu ap
   subst dk
   exact ⟨dm, (Zt bd cr), ((cb).f1).f1, c7, c8, c9, cA, cB, cC, cD, cE, cF, cG, (Eq.trans rfl (wrap_up cl (ak).arr_le))⟩
  intro dS ex bM
  obtain ⟨b8, be, bc, bq, br, ec, cI, cJ, bs, bt, bu, ed, cK, dv⟩ := bM
  refine Zc (Zd (Za rfl rfl (Zq rfl dv cK (Zb (Ze (Zc (W_false (Zx (decide_eq_false (by omega))) (W_exit (at_exit (at_exit (ib_here (Ze (Zc (Zd (Za rfl rfl (Zm (v := Value.bool (ae)) rfl cJ (Za rfl rfl (Exec.not rfl rfl (Zb (Ze ?_))))))))))))))))))))
  obtain ⟨ar, l, z⟩ := Zg z
  refine W_mid (M := fun f' w' => (fun (ar : (List (List Int))) => ∃ (b9 : PHeap) (a6 : Value), PHeap.le b8 b9 ∧ St w0 b9 (Res.arr (encSlice (encInt .i64)) 24 a b :: Res.arr (encSlice (encInt .i64)) 24 a6 ar :: H) w' ∧ f' 4 = a ∧ f' 7 = a6 ∧ f' 37 = a ∧ f' 38 = Vi ((b.length : Int)) ∧ f' 39 = Vi ((j : Int))) ar) ?_ ?_
  ·rcases ite_some l with ⟨ao, l⟩ | ⟨ao, l⟩
   ·refine W_cond_t rfl ao (Zd (Za rfl rfl (Zm (v := g) rfl br (Za rfl rfl (Zm (v := av) rfl cI ?_)))))
    obtain ⟨d1, db, l⟩ := Zg l
    refine Za rfl rfl (Tc rfl rfl rfl (Zi rfl args_nil) (slices_Clone_int_sim db bc (bv.mono be)).r ?_)
    rintro aV ey ⟨eg, _, ct, cc, rfl⟩
    obtain ⟨dn, cu, cd, bw⟩ := cc.freezeArr
    refine Za rfl rfl (Exec.buildSlice (Te := 24) (cs := [aV]) cd rfl (parts_cons (c := [aV]) (cells_of rfl (cells_one (bw).one)) parts_nil) (fun _ => by kernel_rfl) ?_)
    intro d4 ez ce
    obtain ⟨dY, dc, l⟩ := Zg l
    refine Za rfl rfl (Exec.append_box (E := (encSlice (encInt .i64))) (ys := [d1]) (ce).f2 S36 Z24 rfl (by decide) rfl rfl rfl rfl ⟨[aV], [], rfl, ⟨_, rfl, bw⟩, rfl⟩ rfl dc ?_)
    intro bD e0 cf
    refine Za rfl rfl (Zo (v := bD) rfl rfl (Zb (Ze ?_)))
    have dH := Zu l
    subst ar
    exact ⟨dn, bD, (Zt ct cu), (cf).f1, bq, rfl, bs, bt, bu⟩
   refine W_cond_f rfl ao ?_
   replace ao := Zk ao
   refine W_skip (Ze ?_)
   have dI := Zu l
   subst ar
   exact ⟨b8, g, (Zv _), ((bc).f1).f1, bq, br, bs, bt, bu⟩
  intro dT e1 bR
  obtain ⟨dp, a6, cv, cg, cL, cM, cN, cO, cP⟩ := bR
  refine (ib_normal (Ze (Zd (Za rfl rfl (Exec.add rfl cP rfl (Za rfl rfl (Zm (v := Vi (IntKind.i64.wrap ((j : Int) + 1))) rfl rfl (Zb (Ze ?_)))))))))
  have dJ := Zu z
  subst dj
  exact ⟨dp, a6, (Zt (Zt cp be) cv), ((cg).f1).f1, cL, cM, cN, cO, (Eq.trans rfl (wrap_up ck ((aF).f1).arr_le))⟩
 intro dU e2 bN
 obtain ⟨eh, g, cw, ch, ee, cQ, ef, cR, dw⟩ := bN
 refine Zc (Zd (Za rfl rfl (Zq rfl dw cR (Zb (Ze (Zc (W_false (Zx (decide_eq_false (by omega))) (W_exit (at_exit (at_exit (ib_here (Ze (Zc (Zd (Za rfl rfl (Zm (v := g) rfl cQ (Za rfl rfl (Zo (v := g) rfl rfl (Za rfl rfl (Zo (v := errV 45 (none)) rfl rfl (Zb (Ze (W_ret ?_)))))))))))))))))))))))
 have dK := Zu hm
 subst r
 refine ⟨_, ret2 rfl, ?_⟩
 obtain ⟨dq, cx, ci, de⟩ := (ch).f1.freezeArr
 exact ⟨dq, g, (Zt (Zt (Zt (Zt d ai) co) cw) cx), (ci).drop, (tup2 rfl rfl), de⟩
theorem base_Ints_sim {w0 w : World} {s : PHeap} {H : List Res} {j : (List Int)} {q : (List Int)} {b : Value} {c : Value} {r : Bool} (hm : base_Ints_p j q = some r) (hS : St w0 s (H) w) (l : SliceRep (encInt .i64) s b j) (p : SliceRep (encInt .i64) s c q) :
  Calls Tryz.prog 22 #[b, c] w fun e w' => ∃ v, e = .returned v ∧ ((fun (a8 : Bool) => ∃ (ac : PHeap) , PHeap.le s ac ∧ St w0 ac (H) w' ∧ v = Value.bool (a8)) r) := by
 unfold base_Ints_p at hm
 refine calls_of_W Tryz.func22 rfl rfl (Zc (Zd (Za rfl rfl (Zo (v := Value.bool (false)) rfl rfl (Zb (Ze (Zc (Zc (Zd (Za rfl rfl (Zm (v := b) rfl rfl (Za rfl rfl (Zr S24 rfl rfl l (Za rfl rfl (Zm (v := c) rfl rfl (Za rfl rfl (Zr S24 rfl rfl p (Za rfl rfl (Exec.neq rfl rfl rfl (Zb (Ze ?_)))))))))))))))))))))
 rcases ite_some hm with ⟨d, hm⟩ | ⟨d, hm⟩
 ·refine W_cond_t rfl d (Zc (Zd (Za rfl rfl (Zo (v := Value.bool (false)) rfl rfl (Zb (Ze (W_ret (at_ret ?_))))))))
  have aB := Zu hm
  subst r
  refine ⟨_, ret1 rfl, ?_⟩
  exact ⟨s, (Zv _), hS, rfl⟩
 refine W_cond_f rfl d ?_
 replace d := Zk d
 refine W_skip (Ze (Zc (Zc (Zd (Za rfl rfl (Zm (v := b) rfl rfl (Za rfl rfl (Zr S24 rfl rfl l (Za rfl rfl (Zm (v := Vi (0)) rfl rfl (Zb (Ze ?_))))))))))))
 obtain ⟨t, ai, au, aq, ao⟩ := ctl_some hm
 refine W_mid (M := fun f' w' => ∃ s', (t = .next s' ∨ t = .brk s') ∧ (fun (_ : Unit) => ∃ (ad : PHeap) , PHeap.le s ad ∧ St w0 ad (H) w' ∧ f' 0 = b ∧ f' 1 = c ∧ f' 12 = Vi ((j.length : Int))) s') ?_ ?_
 ·refine W_block (W_forC (fun k' s' f' w' => (fun (_ : Unit) => ∃ (ae : PHeap) , PHeap.le s ae ∧ St w0 ae (H) w' ∧ f' 0 = b ∧ f' 1 = c ∧ f' 12 = Vi ((j.length : Int)) ∧ f' 13 = Vi (k' : Int)) s') ai ?_ ?_ ?_)
  ·exact ⟨s, (Zv _), hS, rfl, rfl, rfl, rfl⟩
  ·intro i aQ u aI aV ap aj a av
   obtain ⟨af, n, m, y, z, aa, o⟩ := aj
   refine Zc (Zd (Za rfl rfl (Zq rfl o aa (Zb (Ze (Zc (W_true (Zx (decide_eq_true (by omega))) (W_skip (Ze (Zc (W_block (Zc (Zd (Za rfl rfl (Zm (v := Vi ((i : Int))) rfl o (Za rfl rfl (Zo (v := Vi ((i : Int))) rfl rfl (Zb (Ze (Zc (W_dl (n0 := 9) (qs 0 9 .done) hmix (by kernel_rfl) (by kernel_rfl) (DL_q rfl rfl (Zm (v := b) rfl y ⟨rfl, ?_⟩)))))))))))))))))))))))
   refine DL_q rfl rfl (Zm (v := Vi ((i : Int))) rfl rfl ⟨rfl, ?_⟩)
   obtain ⟨aY, a1, a⟩ := Zg a
   refine DL_q rfl rfl (Exec.index_repE S24 rfl rfl rfl (l.mono n) a1 ?_)
   intro a9 aL ag aC
   refine ⟨rfl, ?_⟩
   refine DL_q rfl rfl (Zw (E := (encInt .i64)) m.drew A3 rfl rfl rfl ag ?_)
   intro aT a2
   obtain rfl := encInt_val.1 a2
   refine ⟨rfl, ?_⟩
   refine DL_q rfl rfl (Zm (v := c) rfl z ⟨rfl, ?_⟩)
   refine DL_q rfl rfl (Zm (v := Vi ((i : Int))) rfl rfl ⟨rfl, ?_⟩)
   obtain ⟨aZ, a3, a⟩ := Zg a
   refine DL_q rfl rfl (Exec.index_repE S24 rfl rfl rfl (p.mono n) a3 ?_)
   intro aA aM ah aD
   refine ⟨rfl, ?_⟩
   refine DL_q rfl rfl (Zw (E := (encInt .i64)) m.drew A3 rfl rfl rfl ah ?_)
   intro aU a4
   obtain rfl := encInt_val.1 a4
   refine ⟨rfl, ?_⟩
   refine DL_q rfl rfl (Exec.neq rfl rfl rfl ⟨rfl, ?_⟩)
   refine DL_done (Zb (Ze ?_))
   rcases ite_some a with ⟨g, a⟩ | ⟨g, a⟩
   ·refine W_cond_t rfl g (Zc (Zd (Za rfl rfl (Zo (v := Value.bool (false)) rfl rfl (Zb (Ze (W_ret (ib_ret (at_ret (at_ret (ib_ret (at_ret (at_ret ?_)))))))))))))
    have aE := Zu a
    subst u
    have ar := au _ (av (by intro _ h; cases h))
    have aF := Zu ar
    subst r
    refine ⟨_, ret1 rfl, ?_⟩
    exact ⟨af, n, m.drew, rfl⟩
   refine W_cond_f rfl g ?_
   replace g := Zk g
   refine W_skip (ib_normal (Ze (Zd (Za rfl rfl (Exec.add rfl o rfl (Za rfl rfl (Zm (v := Vi (IntKind.i64.wrap ((i : Int) + 1))) rfl rfl (Zb (Ze ?_)))))))))
   have aG := Zu a
   subst u
   refine ⟨_, rfl, ?_⟩; exact ⟨af, n, m.drew, y, z, aa, (Eq.trans rfl (wrap_up ap (SliceRep.le l)))⟩
  intro aR aJ aW ak aw
  obtain ⟨a5, ax, am, az, a0, ab, a7⟩ := ak
  refine Zc (Zd (Za rfl rfl (Zq rfl a7 ab (Zb (Ze (Zc (W_false (Zx (decide_eq_false (by omega))) (W_exit (at_exit (at_exit (ib_here (Ze ?_))))))))))))
  refine ⟨_, .inl aw, ?_⟩; exact ⟨a5, ax, am, az, a0, ab⟩
 rintro aK aX ⟨aS, x, al⟩
 have hm := x.elim (aq _) (ao _)
 clear x
 obtain ⟨a6, ay, an, aN, aO, aP⟩ := al
 refine (Ze (Zc (Zd (Za rfl rfl (Zo (v := Value.bool (true)) rfl rfl (Zb (Ze (W_ret ?_))))))))
 have aH := Zu hm
 subst r
 refine ⟨_, ret1 rfl, ?_⟩
 exact ⟨a6, ay, an, rfl⟩
theorem invariant_Balanced_sim {w0 w : World} {s : PHeap} {H : List Res} {fu : Nat} {d : Ground} {x : (List Int)} {g : Value} {h : Value} {i : Value} {j : Value} {k : Value} {n : Value} {r : Bool} (hm : invariant_Balanced_p fu d x = some r) (hS : St w0 s (H) w) (o : SliceRep encAtom s g d.Atoms) (p : SliceRep encGFluent s h d.Fluents) (q : SliceRep (encInt .i64) s i d.Init) (t : SliceRep encCond s j d.Goal) (u : SliceRep encGOp s k d.Ops) (ab : SliceRep (encInt .i64) s n x) :
  Calls Tryz.prog 11 #[Value.agg #[g, h, i, j, k], n] w fun e w' => ∃ v, e = .returned v ∧ ((fun (an : Bool) => ∃ (z : PHeap) , PHeap.le s z ∧ St w0 z (H) w' ∧ v = Value.bool (an)) r) := by
 unfold invariant_Balanced_p at hm
 refine calls_of_W Tryz.func11 rfl rfl (Zc (Zd (Za rfl rfl (Exec.box (cs := [g, h, i, j, k]) hS rfl rfl rfl ?_))))
 intro ap aw y
 refine Za rfl rfl (Zo (v := Value.bool (false)) rfl rfl (Zb (Ze (Zc ?_))))
 obtain ⟨l, a, hm⟩ := Zg hm
 refine W_mid (M := fun f' w' => (fun (l : Bool) => ∃ (aa : PHeap) , PHeap.le s aa ∧ St w0 aa (H) w' ∧ f' 4 = Value.bool (l)) l) ?_ ?_
 ·refine Zd (Za rfl rfl (Exec.load_box_agg (ds := [g, h, i, j, k]) (y) A28 rfl rfl rfl ?_))
  obtain ⟨ao, ai, a⟩ := Zg a
  refine Za rfl rfl (Tc rfl rfl rfl (Zi rfl args_nil) (ground_Valid_sim ai y o p q t u).r ?_)
  rintro _ ax ⟨ak, c, m, rfl⟩
  refine Za rfl rfl (Zm (v := Value.bool (ao)) rfl rfl ?_)
  rcases ite_some a with ⟨b, a⟩ | ⟨b, a⟩
  ·refine WL_run rfl (Zf rfl (Zx b)) rfl (Exec.load_box_agg (ds := [g, h, i, j, k]) (m) A28 rfl rfl rfl (WL_run rfl (Zf rfl (Zx b)) rfl (Zm (v := n) rfl rfl ?_)))
   obtain ⟨a0, aj, a⟩ := Zg a
   refine WL_run rfl (Zf rfl (Zx b)) rfl (Tc rfl rfl rfl (Zi rfl (Zi rfl args_nil)) (invariant_balanced_sim aj m (o.mono c) (p.mono c) (q.mono c) (t.mono c) (u.mono c) (ab.mono c)).r ?_)
   rintro _ ay ⟨al, af, ad, rfl⟩
   refine WL_passes 2 (by rw [b]; rfl) ?_
   refine Zb (Ze ?_)
   have aq := Zu a
   subst l
   exact ⟨al, (Zt c af), (ad).drop, rfl⟩
  replace b := Zk b
  refine WL_passes 5 (by rw [b]; rfl) ?_
  refine Zb (Ze ?_)
  have ar := Zu a
  subst l
  exact ⟨ak, c, (m).drop, rfl⟩
 intro av az ac
 obtain ⟨am, ag, ae, ah⟩ := ac
 refine (Ze (W_ret ?_))
 have au := Zu hm
 subst r
 refine ⟨_, ret1 rfl, ?_⟩
 exact ⟨am, ag, ae, ah⟩
theorem law20_awake_sim {w0 w : World} {s : PHeap} {H : List Res} {fu : Nat}  {r : Bool} (hm : law20_awake_p fu = some r) (hS : St w0 s (H) w)  (ht : TabR Tryz.prog w0 s) :
  Calls Tryz.prog 9 #[] w fun e w' => ∃ v, e = .returned v ∧ ((fun (y24 : Bool) => ∃ (aa : PHeap) , PHeap.le s aa ∧ St w0 aa (H) w' ∧ v = Value.bool (y24)) r) := by
 unfold law20_awake_p at hm
 refine calls_of_W Tryz.func9 rfl rfl (Zc (Zd (Za rfl rfl (Zo (v := Value.bool (false)) rfl rfl (Zb (Ze (Zc (Zd ?_))))))))
 obtain ⟨bB, az, hm⟩ := Zg hm
 refine Za rfl rfl (Tc rfl rfl rfl args_nil (law20_example_sim az hS ).r ?_)
 rintro _ b1 ⟨bj, bo, bp, bq, br, bs, y, af, rfl, a9, aA, aB, aC, aD⟩
 obtain ⟨aS, a0, hm⟩ := Zg hm
 obtain ⟨bC, m⟩ := aS
 replace hm := un2_eq hm
 refine Za rfl rfl (Tc rfl rfl rfl (Zi rfl args_nil) (invariant_Groups_sim a0 af a9 aA aB aC aD (ht.mono y)).r ?_)
 rintro _ b2 ⟨u, k, au, n, rfl, t⟩
 refine Za rfl rfl (Zm (v := Value.tuple #[k, errV 45 (m)]) rfl rfl (Za rfl rfl (Exec.extract (v := k) rfl rfl rfl (Za rfl rfl (Exec.extract (v := errV 45 (m)) rfl rfl rfl (Za rfl rfl (Zo (v := k) rfl rfl (Za rfl rfl (Zo (v := errV 45 (m)) rfl rfl (Zb (Ze (Zc ?_))))))))))))
 obtain ⟨i, a, hm⟩ := Zg hm
 refine W_mid (M := fun f' w' => (fun (i : Bool) => ∃ (ab : PHeap) , PHeap.le u ab ∧ St w0 ab (H) w' ∧ f' 0 = Value.bool (i)) i) ?_ ?_
 ·refine Zd (Za rfl rfl (Zm (v := errV 45 (m)) rfl rfl (Za rfl rfl (Exec.err_eql_nil (T := 45) Tryz.underlying38 rfl rfl rfl (Za rfl rfl (Zm (v := Value.bool (m.isNone)) rfl rfl ?_))))))
  rcases ite_some a with ⟨h, a⟩ | ⟨h, a⟩
  ·refine WL_run rfl (Zf rfl (Zx h)) rfl (Zm (v := k) rfl rfl (WL_run rfl (Zf rfl (Zx h)) rfl (Zr S36 rfl rfl t (WL_run rfl (Zf rfl (Zx h)) rfl (Exec.eql rfl rfl rfl ?_)))))
   refine WL_passes 2 (by rw [h]; rfl) ?_
   rcases ite_some a with ⟨b, a⟩ | ⟨b, a⟩
   ·refine WL_run rfl (Zf rfl (Zx b)) rfl (Zm (v := k) rfl rfl ?_)
    obtain ⟨aT, a1, a⟩ := Zg a
    refine WL_run rfl (Zf rfl (Zx b)) rfl (Exec.index_rep S36 rfl rfl rfl t a1 ?_)
    intro aV bh ac
    refine WL_run rfl (Zf rfl (Zx b)) rfl (Zw (E := (encSlice (encInt .i64))) n A24 rfl rfl rfl ac ?_)
    intro bt a2
    have aE : SliceRep _ _ _ (aT) := encSlice_val.1 a2
    refine WL_run rfl (Zf rfl (Zx b)) rfl (Exec.buildSlice (Te := 3) (cs := [Vi (0), Vi (1)]) n rfl (parts_cons (c := [Vi (0)]) (cells_of rfl rfl) (parts_cons (c := [Vi (1)]) (cells_of rfl rfl) parts_nil)) (fun _ => by kernel_rfl) ?_)
    intro aW b3 ag
    have ah := St.boxArr (E := (encInt .i64)) (xs := [0, 1]) ag ⟨[Vi (0)], [Vi (1)], rfl, rfl, ⟨[Vi (1)], [], rfl, rfl, rfl⟩⟩ (by simp [maxLen])
    obtain ⟨bk, l, ai, aF⟩ := ah.freezeArr
    obtain ⟨bD, a3, a⟩ := Zg a
    refine WL_run rfl (Zf rfl (Zx b)) rfl (Tc rfl rfl rfl (Zi rfl (Zi rfl args_nil)) (base_Ints_sim a3 ai (aE.mono l) aF).r ?_)
    rintro _ b4 ⟨aO, o, p, rfl⟩
    refine WL_passes 2 (by rw [b]; rfl) ?_
    rcases ite_some a with ⟨d, a⟩ | ⟨d, a⟩
    ·refine WL_run rfl (Zf rfl (Zx d)) rfl (Zm (v := k) rfl rfl ?_)
     obtain ⟨aU, a4, a⟩ := Zg a
     refine WL_run rfl (Zf rfl (Zx d)) rfl (Exec.index_rep S36 rfl rfl rfl (t.mono (Zt l o)) a4 ?_)
     intro aX bi ad
     refine WL_run rfl (Zf rfl (Zx d)) rfl (Zw (E := (encSlice (encInt .i64))) p A24 rfl rfl rfl ad ?_)
     intro bu a5
     have aG : SliceRep _ _ _ (aU) := encSlice_val.1 a5
     refine WL_run rfl (Zf rfl (Zx d)) rfl (Exec.buildSlice (Te := 3) (cs := [Vi (2), Vi (3)]) p rfl (parts_cons (c := [Vi (2)]) (cells_of rfl rfl) (parts_cons (c := [Vi (3)]) (cells_of rfl rfl) parts_nil)) (fun _ => by kernel_rfl) ?_)
     intro aY b5 aj
     have ak := St.boxArr (E := (encInt .i64)) (xs := [2, 3]) aj ⟨[Vi (2)], [Vi (3)], rfl, rfl, ⟨[Vi (3)], [], rfl, rfl, rfl⟩⟩ (by simp [maxLen])
     obtain ⟨bl, q, al, aH⟩ := ak.freezeArr
     obtain ⟨bE, a6, a⟩ := Zg a
     refine WL_run rfl (Zf rfl (Zx d)) rfl (Tc rfl rfl rfl (Zi rfl (Zi rfl args_nil)) (base_Ints_sim a6 al (aG.mono q) aH).r ?_)
     rintro _ b6 ⟨aP, z, x, rfl⟩
     refine WL_passes 2 (by rw [d]; rfl) ?_
     rcases ite_some a with ⟨g, a⟩ | ⟨g, a⟩
     ·obtain ⟨bF, a7, a⟩ := Zg a
      refine WL_run rfl (Zf rfl (Zx g)) rfl (Tc rfl rfl rfl args_nil (law20_example_sim a7 x ).r ?_)
      rintro _ b7 ⟨bm, bv, bw, bx, bz, b0, av, am, rfl, aI, aJ, aK, aL, aM⟩
      refine WL_run rfl (Zf rfl (Zx g)) rfl (Exec.buildSlice (Te := 3) (cs := [Vi (0), Vi (2)]) am rfl (parts_cons (c := [Vi (0)]) (cells_of rfl rfl) (parts_cons (c := [Vi (2)]) (cells_of rfl rfl) parts_nil)) (fun _ => by kernel_rfl) ?_)
      intro aZ b8 an
      have ao := St.boxArr (E := (encInt .i64)) (xs := [0, 2]) an ⟨[Vi (0)], [Vi (2)], rfl, rfl, ⟨[Vi (2)], [], rfl, rfl, rfl⟩⟩ (by simp [maxLen])
      obtain ⟨bn, j, ap, aN⟩ := ao.freezeArr
      obtain ⟨bG, a8, a⟩ := Zg a
      refine WL_run rfl (Zf rfl (Zx g)) rfl (Tc rfl rfl rfl (Zi rfl (Zi rfl args_nil)) (invariant_Balanced_sim a8 ap (aI.mono j) (aJ.mono j) (aK.mono j) (aL.mono j) (aM.mono j) aN).r ?_)
      rintro _ b9 ⟨aQ, aw, aq, rfl⟩
      refine WL_run rfl (Zf rfl (Zx g)) rfl (Exec.not rfl rfl ?_)
      refine WL_passes 2 (by rw [g]; rfl) ?_
      refine Zb (Ze ?_)
      have ba := Zu a
      subst i
      exact ⟨aQ, (Zt (Zt (Zt (Zt (Zt (Zt l o) q) z) av) j) aw), aq, rfl⟩
     replace g := Zk g
     refine WL_passes 6 (by rw [g]; rfl) ?_
     refine Zb (Ze ?_)
     have bb := Zu a
     subst i
     exact ⟨aP, (Zt (Zt (Zt l o) q) z), x, rfl⟩
    replace d := Zk d
    refine WL_passes 13 (by rw [d]; rfl) ?_
    refine Zb (Ze ?_)
    have bc := Zu a
    subst i
    exact ⟨aO, (Zt l o), p, rfl⟩
   replace b := Zk b
   refine WL_passes 20 (by rw [b]; rfl) ?_
   refine Zb (Ze ?_)
   have bd := Zu a
   subst i
   exact ⟨u, (Zv _), n, rfl⟩
  replace h := Zk h
  refine WL_passes 25 (by rw [h]; rfl) ?_
  refine Zb (Ze ?_)
  have be := Zu a
  subst i
  exact ⟨u, (Zv _), n, rfl⟩
 intro bg bA ae
 obtain ⟨aR, ax, ar, ay⟩ := ae
 refine (Ze (W_ret ?_))
 have bf := Zu hm
 subst r
 refine ⟨_, ret1 rfl, ?_⟩
 exact ⟨aR, (Zt (Zt y au) ax), ar, ay⟩
theorem law20_few_sim {w0 w : World} {s : PHeap} {H : List Res} {fu : Nat} {a : Ground} {g : Value} {n : Value} {o : Value} {p : Value} {i : Value} {r : Bool} (hm : law20_few_p fu a = some r) (hS : St w0 s (H) w) (y : SliceRep encAtom s g a.Atoms) (an : SliceRep encGFluent s n a.Fluents) (aR : SliceRep (encInt .i64) s o a.Init) (ao : SliceRep encCond s p a.Goal) (z : SliceRep encGOp s i a.Ops) :
  Calls Tryz.prog 10 #[Value.agg #[g, n, o, p, i]] w fun e w' => ∃ v, e = .returned v ∧ ((fun (bN : Bool) => ∃ (aC : PHeap) , PHeap.le s aC ∧ St w0 aC (H) w' ∧ v = Value.bool (bN)) r) := by
 unfold law20_few_p at hm
 refine calls_of_W Tryz.func10 rfl rfl (Zc (Zd (Za rfl rfl (Exec.box (cs := [g, n, o, p, i]) hS rfl rfl rfl ?_))))
 intro j cy q
 refine Za rfl rfl (Zo (v := Value.bool (false)) rfl rfl (Zb (Ze (Zc (Zc (W_mid (M := fun f' w' => ∃ (aD : PHeap) , PHeap.le s aD ∧ St w0 aD (Res.box j 28 [g, n, o, p, i] :: H) w' ∧ f' 1 = Value.pointer (some ⟨j, 0, none⟩) ∧ f' 28 = Value.bool (((decide (14 < (a.Atoms.length : Int))) || ((decide (8 < (a.Ops.length : Int))) || ((decide (3 < (a.Fluents.length : Int))) || decide (4 < (a.Goal.length : Int))))))) ?_ ?_))))))
 ·refine Zd (Za rfl rfl (Zp F28_0 rfl rfl rfl (Za rfl rfl (Zn (q) A22 rfl rfl rfl (Za rfl rfl (Zr S22 rfl rfl y (Za rfl rfl (Exec.gtr rfl rfl rfl (Za rfl rfl (Zm (v := Value.bool (decide (14 < (a.Atoms.length : Int)))) rfl rfl ?_))))))))))
  by_cases c : (decide (14 < (a.Atoms.length : Int))) = true
  ·refine WL_passes 17 (by rw [c]; rfl) ?_
   refine Zb (Ze ?_)
   exact ⟨s, (Zv _), q, rfl, (Zx (or_t c)).symm⟩
  replace c := Zk c
  refine WL_run rfl (Zf rfl (Zx c)) rfl (Zp F28_4 rfl rfl rfl (WL_run rfl (Zf rfl (Zx c)) rfl (Zn (q) A26 rfl rfl rfl (WL_run rfl (Zf rfl (Zx c)) rfl (Zr S26 rfl rfl z (WL_run rfl (Zf rfl (Zx c)) rfl (Exec.gtr rfl rfl rfl ?_)))))))
  refine WL_passes 2 (by rw [c]; rfl) ?_
  by_cases d : (decide (8 < (a.Ops.length : Int))) = true
  ·refine WL_passes 11 (by rw [d]; rfl) ?_
   refine Zb (Ze ?_)
   exact ⟨s, (Zv _), q, rfl, (Zx (Eq.trans (or_f c) (or_t d))).symm⟩
  replace d := Zk d
  refine WL_run rfl (Zf rfl (Zx d)) rfl (Zp F28_1 rfl rfl rfl (WL_run rfl (Zf rfl (Zx d)) rfl (Zn (q) A23 rfl rfl rfl (WL_run rfl (Zf rfl (Zx d)) rfl (Zr S23 rfl rfl an (WL_run rfl (Zf rfl (Zx d)) rfl (Exec.gtr rfl rfl rfl ?_)))))))
  refine WL_passes 2 (by rw [d]; rfl) ?_
  by_cases l : (decide (3 < (a.Fluents.length : Int))) = true
  ·refine WL_passes 5 (by rw [l]; rfl) ?_
   refine Zb (Ze ?_)
   exact ⟨s, (Zv _), q, rfl, (Zx (Eq.trans (or_f c) (Eq.trans (or_f d) (or_t l)))).symm⟩
  replace l := Zk l
  refine WL_run rfl (Zf rfl (Zx l)) rfl (Zp F28_3 rfl rfl rfl (WL_run rfl (Zf rfl (Zx l)) rfl (Zn (q) A25 rfl rfl rfl (WL_run rfl (Zf rfl (Zx l)) rfl (Zr S25 rfl rfl ao (WL_run rfl (Zf rfl (Zx l)) rfl (Exec.gtr rfl rfl rfl (Za rfl rfl (Exec.pick_f (v := Value.bool (decide (4 < (a.Goal.length : Int)))) rfl (Zx l) rfl (Zb (Ze ?_)))))))))))
  exact ⟨s, (Zv _), q, rfl, (Zx (Eq.trans (or_f c) (Eq.trans (or_f d) (or_f l)))).symm⟩
 intro cb cz ba
 obtain ⟨ad, b, af, a1, a2⟩ := ba
 refine (Ze ?_)
 rcases ite_some hm with ⟨aa, hm⟩ | ⟨aa, hm⟩
 ·refine W_cond_t a2 aa (Zc (Zd (Za rfl rfl (Zo (v := Value.bool (false)) rfl rfl (Zb (Ze (W_ret (at_ret ?_))))))))
  have bT := Zu hm
  subst r
  refine ⟨_, ret1 rfl, ?_⟩
  exact ⟨ad, b, (af).drop, rfl⟩
 refine W_cond_f a2 aa ?_
 replace aa := Zk aa
 refine W_skip (Ze (Zc (Zc (Zd (Za rfl rfl (Zp F28_0 rfl a1 rfl (Za rfl rfl (Zn (af) A22 rfl rfl rfl (Za rfl rfl (Zr S22 rfl rfl (y.mono b) (Za rfl rfl (Zm (v := Vi (0)) rfl rfl (Zb (Ze ?_))))))))))))))
 obtain ⟨ap, aU, bq, bm, bi⟩ := ctl_some hm
 refine W_mid (M := fun f' w' => ∃ s', (ap = .next s' ∨ ap = .brk s') ∧ (fun (_ : Unit) => ∃ (aE : PHeap) , PHeap.le ad aE ∧ St w0 aE (Res.box j 28 [g, n, o, p, i] :: H) w' ∧ f' 1 = Value.pointer (some ⟨j, 0, none⟩) ∧ f' 30 = g ∧ f' 31 = Vi ((a.Atoms.length : Int))) s') ?_ ?_
 ·refine W_block (W_forC (fun k' s' f' w' => (fun (_ : Unit) => ∃ (aF : PHeap) , PHeap.le ad aF ∧ St w0 aF (Res.box j 28 [g, n, o, p, i] :: H) w' ∧ f' 1 = Value.pointer (some ⟨j, 0, none⟩) ∧ f' 30 = g ∧ f' 31 = Vi ((a.Atoms.length : Int)) ∧ f' 32 = Vi (k' : Int)) s') aU ?_ ?_ ?_)
  ·exact ⟨ad, (Zv _), af, a1, rfl, rfl, rfl⟩
  ·intro bw cp aq cc c0 bk aW t bs
   obtain ⟨aG, ai, av, b2, a3, a4, al⟩ := aW
   refine Zc (Zd (Za rfl rfl (Zq rfl al a4 (Zb (Ze (Zc (W_true (Zx (decide_eq_true (by omega))) (W_skip (Ze (Zc (W_block (Zc (Zd ?_)))))))))))))
   obtain ⟨aQ, b9, t⟩ := Zg t
   refine Za rfl rfl (Exec.index_rep S22 rfl a3 al (y.mono (Zt b ai)) b9 ?_)
   intro bP ci aS
   refine Za rfl rfl (Zw (E := encAtom) av A56 rfl rfl rfl aS ?_)
   intro cw bA
   obtain ⟨aK, rfl, aA⟩ := encAtom_val.1 bA
   refine Za rfl rfl (Exec.alloc (cs := [Value.string (⟨#[]⟩), Value.slice none 0 0]) av Z56 rfl rfl ?_)
   intro bQ c1 bd
   refine Za rfl rfl (Exec.store_box (ds := [Value.string (aQ.Name), aK]) (es := [Value.string (aQ.Name), aK]) bd A56 rfl rfl rfl rfl (Zj rfl (Zj (aA).one one_nil)) (Nat.le_of_ble_eq_true rfl) rfl ?_)
   intro c2 ag
   refine Zb (Ze (Zc (Zd (Za rfl rfl (Zp F56_1 rfl rfl rfl (Za rfl rfl (Zn (ag) A54 rfl rfl rfl (Za rfl rfl (Zr S54 rfl rfl aA (Za rfl rfl (Exec.gtr rfl rfl rfl (Zb (Ze ?_)))))))))))))
   rcases ite_some t with ⟨ab, t⟩ | ⟨ab, t⟩
   ·refine W_cond_t rfl ab (Zc (Zd (Za rfl rfl (Zo (v := Value.bool (false)) rfl rfl (Zb (Ze (W_ret (ib_ret (at_ret (at_ret (ib_ret (at_ret (at_ret ?_)))))))))))))
    have bU := Zu t
    subst aq
    have bo := bq _ (bs (by intro _ h; cases h))
    have bV := Zu bo
    subst r
    refine ⟨_, ret1 rfl, ?_⟩
    exact ⟨aG, (Zt b ai), ((ag).drop).drop, rfl⟩
   refine W_cond_f rfl ab ?_
   replace ab := Zk ab
   refine W_skip (ib_normal (Ze (Zd (Za rfl rfl (Exec.add rfl al rfl (Za rfl rfl (Zm (v := Vi (IntKind.i64.wrap ((bw : Int) + 1))) rfl rfl (Zb (Ze ?_)))))))))
   have bW := Zu t
   subst aq
   refine ⟨_, rfl, ?_⟩; exact ⟨aG, ai, (ag).drop, b2, a3, a4, (Eq.trans rfl (wrap_up bk (SliceRep.le (y.mono b))))⟩
  intro cq cd c3 aX bt
  obtain ⟨bI, bz, be, b3, b4, a5, bL⟩ := aX
  refine Zc (Zd (Za rfl rfl (Zq rfl bL a5 (Zb (Ze (Zc (W_false (Zx (decide_eq_false (by omega))) (W_exit (at_exit (at_exit (ib_here (Ze ?_))))))))))))
  refine ⟨_, .inl bt, ?_⟩; exact ⟨bI, bz, be, b3, b4, a5⟩
 rintro ce c4 ⟨cr, az, bb⟩
 have hm := az.elim (bm _) (bi _)
 clear az
 obtain ⟨ak, m, aw, a6, ck, cl⟩ := bb
 refine (Ze (Zc (Zc (Zd (Za rfl rfl (Zp F28_4 rfl a6 rfl (Za rfl rfl (Zn (aw) A26 rfl rfl rfl (Za rfl rfl (Zr S26 rfl rfl (z.mono (Zt b m)) (Za rfl rfl (Zm (v := Vi (0)) rfl rfl (Zb (Ze ?_))))))))))))))
 obtain ⟨ar, aV, br, bn, bj⟩ := ctl_some hm
 refine W_mid (M := fun f' w' => ∃ s', (ar = .next s' ∨ ar = .brk s') ∧ (fun (_ : Unit) => ∃ (aH : PHeap) , PHeap.le ak aH ∧ St w0 aH (Res.box j 28 [g, n, o, p, i] :: H) w' ∧ f' 1 = Value.pointer (some ⟨j, 0, none⟩) ∧ f' 42 = i ∧ f' 43 = Vi ((a.Ops.length : Int))) s') ?_ ?_
 ·refine W_block (W_forC (fun k' s' f' w' => (fun (_ : Unit) => ∃ (aI : PHeap) , PHeap.le ak aI ∧ St w0 aI (Res.box j 28 [g, n, o, p, i] :: H) w' ∧ f' 1 = Value.pointer (some ⟨j, 0, none⟩) ∧ f' 42 = i ∧ f' 43 = Vi ((a.Ops.length : Int)) ∧ f' 44 = Vi (k' : Int)) s') aV ?_ ?_ ?_)
  ·exact ⟨ak, (Zv _), aw, a6, rfl, rfl, rfl⟩
  ·intro bx ct au cf c5 bl aY u bu
   obtain ⟨aJ, aj, ax, b5, a7, a8, am⟩ := aY
   refine Zc (Zd (Za rfl rfl (Zq rfl am a8 (Zb (Ze (Zc (W_true (Zx (decide_eq_true (by omega))) (W_skip (Ze (Zc (W_block (Zc (Zd ?_)))))))))))))
   obtain ⟨ae, bB, u⟩ := Zg u
   refine Za rfl rfl (Exec.index_rep S26 rfl a7 am (z.mono (Zt (Zt b m) aj)) bB ?_)
   intro bR cj aT
   refine Za rfl rfl (Zw (E := encGOp) ax A63 rfl rfl rfl aT ?_)
   intro cx bC
   obtain ⟨aL, aM, aN, aO, aP, rfl, bE, bF, bG, aB, bH⟩ := encGOp_val.1 bC
   refine Za rfl rfl (Exec.alloc (cs := [Value.string (⟨#[]⟩), Vi (0), Value.slice none 0 0, Value.slice none 0 0, Value.slice none 0 0, Value.slice none 0 0, Value.slice none 0 0]) ax Z63 rfl rfl ?_)
   intro bS c6 bf
   refine Za rfl rfl (Exec.store_box (ds := [Value.string (ae.Name), Vi (ae.Cost), aL, aM, aN, aO, aP]) (es := [Value.string (ae.Name), Vi (ae.Cost), aL, aM, aN, aO, aP]) bf A63 rfl rfl rfl rfl (Zj rfl (Zj rfl (Zj (bE).one (Zj (bF).one (Zj (bG).one (Zj (aB).one (Zj (bH).one one_nil))))))) (Nat.le_of_ble_eq_true rfl) rfl ?_)
   intro c7 ah
   refine Zb (Ze (Zc (Zd (Za rfl rfl (Zp F63_3 rfl rfl rfl (Za rfl rfl (Zn (ah) A60 rfl rfl rfl (Za rfl rfl (Zr S60 rfl rfl aB (Za rfl rfl (Exec.gtr rfl rfl rfl (Zb (Ze ?_)))))))))))))
   rcases ite_some u with ⟨ac, u⟩ | ⟨ac, u⟩
   ·refine W_cond_t rfl ac (Zc (Zd (Za rfl rfl (Zo (v := Value.bool (false)) rfl rfl (Zb (Ze (W_ret (ib_ret (at_ret (at_ret (ib_ret (at_ret (at_ret ?_)))))))))))))
    have bX := Zu u
    subst au
    have bp := br _ (bu (by intro _ h; cases h))
    have bY := Zu bp
    subst r
    refine ⟨_, ret1 rfl, ?_⟩
    exact ⟨aJ, (Zt (Zt b m) aj), ((ah).drop).drop, rfl⟩
   refine W_cond_f rfl ac ?_
   replace ac := Zk ac
   refine W_skip (ib_normal (Ze (Zd (Za rfl rfl (Exec.add rfl am rfl (Za rfl rfl (Zm (v := Vi (IntKind.i64.wrap ((bx : Int) + 1))) rfl rfl (Zb (Ze ?_)))))))))
   have bZ := Zu u
   subst au
   refine ⟨_, rfl, ?_⟩; exact ⟨aJ, aj, (ah).drop, b5, a7, a8, (Eq.trans rfl (wrap_up bl (SliceRep.le (z.mono (Zt b m)))))⟩
  intro cu cg c8 aZ bv
  obtain ⟨bJ, b0, bg, b6, b7, a9, bM⟩ := aZ
  refine Zc (Zd (Za rfl rfl (Zq rfl bM a9 (Zb (Ze (Zc (W_false (Zx (decide_eq_false (by omega))) (W_exit (at_exit (at_exit (ib_here (Ze ?_))))))))))))
  refine ⟨_, .inl bv, ?_⟩; exact ⟨bJ, b0, bg, b6, b7, a9⟩
 rintro ch c9 ⟨cv, a0, bc⟩
 have hm := a0.elim (bn _) (bj _)
 clear a0
 obtain ⟨co, x, ay, b8, cm, cn⟩ := bc
 refine (Ze (Zc (Zd (Za rfl rfl (Exec.load_box_agg (ds := [g, n, o, p, i]) (ay) A28 rfl b8 rfl ?_)))))
 obtain ⟨bO, bD, hm⟩ := Zg hm
 refine Za rfl rfl (Tc rfl rfl rfl (Zi rfl args_nil) (ground_Valid_sim bD ay (y.mono (Zt (Zt b m) x)) (an.mono (Zt (Zt b m) x)) (aR.mono (Zt (Zt b m) x)) (ao.mono (Zt (Zt b m) x)) (z.mono (Zt (Zt b m) x))).r ?_)
 rintro _ cA ⟨bK, b1, bh, rfl⟩
 refine Za rfl rfl (Zo (v := Value.bool (bO)) rfl rfl (Zb (Ze (W_ret ?_))))
 have ca := Zu hm
 subst r
 refine ⟨_, ret1 rfl, ?_⟩
 exact ⟨bK, (Zt (Zt (Zt b m) x) b1), (bh).drop, rfl⟩
theorem S49 : tySlice Tryz.prog 49 = some (5, 1, 1) := by kernel_rfl
theorem Z33 : tyZero Tryz.prog 33 = some (Value.agg #[Value.slice none 0 0, Value.slice none 0 0]) := by kernel_rfl
theorem A33 : tyAgg Tryz.prog 33 = some (true, 2) := by kernel_rfl
theorem Z69 : tyZero Tryz.prog 69 = some (Value.agg #[Value.string ⟨#[]⟩, Value.slice none 0 0, Vi (0), Vi (0), Vi (0)]) := by kernel_rfl
theorem F33_1 : tyField Tryz.prog 33 1 = some 1 := by kernel_rfl
theorem ground_Initial_sim {w0 w : World} {s : PHeap} {H : List Res} {fu : Nat} {g : Ground} {q : Value} {l : Value} {t : Value} {u : Value} {x : Value} {r : GState} (hm : ground_Initial_p fu g = some r) (hS : St w0 s (H) w) (a2 : SliceRep encAtom s q g.Atoms) (m : SliceRep encGFluent s l g.Fluents) (af : SliceRep (encInt .i64) s t g.Init) (a3 : SliceRep encCond s u g.Goal) (a4 : SliceRep encGOp s x g.Ops) :
  Calls Tryz.prog 20 #[Value.agg #[q, l, t, u, x]] w fun e w' => ∃ v, e = .returned v ∧ ((fun (a1 : GState) => ∃ (p : PHeap) (az : Value) (a0 : Value), PHeap.le s p ∧ St w0 p (H) w' ∧ v = Value.agg #[az, a0] ∧ SliceRep (encInt .i64) p az a1.True ∧ SliceRep (encInt .i64) p a0 a1.Values) r) := by
 unfold ground_Initial_p at hm
 refine calls_of_W Tryz.func20 rfl rfl (Zc (Zd (Za rfl rfl (Exec.box (cs := [q, l, t, u, x]) hS rfl rfl rfl ?_))))
 intro bb bq a9
 refine Za rfl rfl (Exec.alloc (cs := [Value.slice none 0 0, Value.slice none 0 0]) a9 Z33 rfl rfl ?_)
 intro ag br ai
 refine Zb (Ze (Zc (Zc (Zd (Za rfl rfl (Exec.load_box_agg (ds := [q, l, t, u, x]) ((ai).f1) A28 rfl rfl rfl ?_))))))
 obtain ⟨b6, aN, hm⟩ := Zg hm
 refine Za rfl rfl (Tc rfl rfl rfl (Zi rfl args_nil) (ground_Valid_sim aN ai a2 m af a3 a4).r ?_)
 rintro _ bs ⟨aV, h, y, rfl⟩
 refine Za rfl rfl (Exec.not rfl rfl (Zb (Ze ?_)))
 rcases ite_some hm with ⟨i, hm⟩ | ⟨i, hm⟩
 ·refine W_cond_t rfl i (Zc (Zd (Za rfl rfl (Exec.build rfl parts_nil (v := Value.agg #[Value.slice none 0 0, Value.slice none 0 0]) (fun _ => by kernel_rfl) (Za rfl rfl (Exec.store_box (ds := [Value.slice none 0 0, Value.slice none 0 0]) (es := [Value.slice none 0 0, Value.slice none 0 0]) y A33 rfl rfl rfl rfl (Zj rfl (Zj rfl one_nil)) (Nat.le_of_ble_eq_true rfl) rfl ?_))))))
  intro bt aj
  refine Zb (Ze (W_ret (at_ret ?_)))
  have bf := Zu hm
  subst r
  refine ⟨_, retG1 rfl ⟨_, _, rfl, cellRes (aj) A33⟩, ?_⟩
  exact ⟨aV, (Value.slice none 0 0), (Value.slice none 0 0), h, ((aj).drop).drop, rfl, (SliceRep.nil _ _), (SliceRep.nil _ _)⟩
 refine W_cond_f rfl i ?_
 replace i := Zk i
 refine W_skip (Ze (Zc (Zd (Za rfl rfl (Zp F28_2 rfl rfl rfl (Za rfl rfl (Zn ((y).f1) A24 rfl rfl rfl ?_)))))))
 obtain ⟨ba, aO, hm⟩ := Zg hm
 refine Za rfl rfl (Tc rfl rfl rfl (Zi rfl args_nil) (slices_Clone_int_sim aO y (af.mono h)).r ?_)
 rintro b bu ⟨aw, _, o, ak, rfl⟩
 refine Za rfl rfl (Exec.build rfl (parts_cons (c := [b]) (cells_of rfl (cells_one (ak).arr_one)) parts_nil) (v := Value.agg #[b, Value.slice none 0 0]) (fun _ => by kernel_rfl) (Za rfl rfl (Exec.alloc (cs := [Value.slice none 0 0, Value.slice none 0 0]) ak Z33 rfl rfl ?_)))
 intro ah bv al
 refine Za rfl rfl (Exec.store_box (ds := [b, Value.slice none 0 0]) (es := [b, Value.slice none 0 0]) al A33 rfl rfl rfl rfl (Zj ((al).f1).arr_one (Zj rfl one_nil)) (Nat.le_of_ble_eq_true rfl) rfl ?_)
 intro bw am
 refine Zb (Ze (Zc (Zc (Zd (Za rfl rfl (Zp F28_1 rfl rfl rfl (Za rfl rfl (Zn ((am).f3) A23 rfl rfl rfl (Za rfl rfl (Zr S23 rfl rfl (m.mono (Zt h o)) (Za rfl rfl (Zm (v := Vi (0)) rfl rfl (Zb (Ze ?_))))))))))))))
 obtain ⟨ae, a6, hm⟩ := Zg hm
 refine W_block (W_forS (fun k' s' f' w' => (fun (ae : (List Int)) => ∃ (ax : PHeap) (d : Value), PHeap.le aw ax ∧ St w0 ax (Res.box ag 33 [Value.slice none 0 0, Value.slice none 0 0] :: Res.box ah 33 [b, d] :: Res.arr (encInt .i64) 3 b ba :: Res.arr (encInt .i64) 3 d ae :: H) w' ∧ f' 2 = Value.pointer (some ⟨ag, 0, none⟩) ∧ f' 3 = Value.pointer (some ⟨ah, 0, none⟩) ∧ f' 15 = l ∧ f' 16 = Vi ((g.Fluents.length : Int)) ∧ f' 17 = Vi (k' : Int)) s') a6 ?_ ?_ ?_)
 ·have aA := am.nilArr (encInt .i64) 3
  exact ⟨aw, (Value.slice none 0 0), (Zv _), (((((aA).f4).drop).f2).f2).f3, rfl, rfl, rfl, rfl, rfl⟩
 ·intro aH ae aW bi bx aG a7 j
  obtain ⟨aX, d, ap, an, aK, ab, ar, au, ad⟩ := a7
  refine Zc (Zd (Za rfl rfl (Zq rfl ad au (Zb (Ze (Zc (W_true (Zx (decide_eq_true (by omega))) (W_skip (Ze (Zc (W_block (Zc (Zd ?_)))))))))))))
  obtain ⟨a, aP, j⟩ := Zg j
  refine Za rfl rfl (Exec.index_rep S23 rfl ar ad (m.mono (Zt (Zt h o) ap)) aP ?_)
  intro bc bl a5
  refine Za rfl rfl (Zw (E := encGFluent) an A69 rfl rfl rfl a5 ?_)
  intro bp aQ
  obtain ⟨ay, rfl, aS⟩ := encGFluent_val.1 aQ
  refine Za rfl rfl (Exec.alloc (cs := [Value.string (⟨#[]⟩), Value.slice none 0 0, Vi (0), Vi (0), Vi (0)]) an Z69 rfl rfl ?_)
  intro bd bz aB
  refine Za rfl rfl (Exec.store_box (ds := [Value.string (a.Fluent.Name), ay, Vi (a.Lo), Vi (a.Hi), Vi (a.Init)]) (es := [Value.string (a.Fluent.Name), ay, Vi (a.Lo), Vi (a.Hi), Vi (a.Init)]) aB A69 rfl rfl rfl rfl (Zj rfl (Zj (aS).one (Zj rfl (Zj rfl (Zj rfl one_nil))))) (Nat.le_of_ble_eq_true rfl) rfl ?_)
  intro b0 z
  refine Zb (Ze (Zd (Za rfl rfl (Zp F33_1 rfl ab rfl (Za rfl rfl (Zn ((z).f2) A24 rfl rfl rfl (Za rfl rfl (Zp F69_3 rfl rfl rfl (Za rfl rfl (Zn (z) A3 rfl rfl rfl (Za rfl rfl (Exec.buildSlice (Te := 3) (cs := [Vi (a.Init)]) z rfl (parts_cons (c := [Vi (a.Init)]) (cells_of rfl rfl) parts_nil) (fun _ => by kernel_rfl) ?_))))))))))))
  intro be b1 aC
  obtain ⟨bk, aR, j⟩ := Zg j
  refine Za rfl rfl (Exec.append_box (E := (encInt .i64)) (ys := [a.Init]) (aC).f5 S24 Z3 rfl (by decide) rfl rfl rfl rfl ⟨[Vi (a.Init)], [], rfl, rfl, rfl⟩ rfl aR ?_)
  intro ac b2 aa
  refine Za rfl rfl (Zp F33_1 rfl ab rfl (Za rfl rfl (Exec.store_box (ds := [ac]) (es := [b, ac]) (aa).f3 A24 rfl rfl rfl (cells_one (((aa).f3).f1).arr_one) (Zj (((aa).f3).f1).arr_one one_nil) (Nat.le_of_ble_eq_true rfl) rfl ?_)))
  intro b3 aD
  refine Zb (ib_normal (Ze (Zd (Za rfl rfl (Exec.add rfl ad rfl (Za rfl rfl (Zm (v := Vi (IntKind.i64.wrap ((aH : Int) + 1))) rfl rfl (Zb (Ze ?_)))))))))
  have bg := Zu j
  subst aW
  exact ⟨aX, ac, ap, ((((((aD).f2).drop).f1).f3).f2).f3, aK, ab, ar, au, (Eq.trans rfl (wrap_up aG (SliceRep.le (m.mono (Zt h o)))))⟩
 intro bj b4 a8
 obtain ⟨bn, d, aI, n, av, aL, bm, aM, aZ⟩ := a8
 refine Zc (Zd (Za rfl rfl (Zq rfl aZ aM (Zb (Ze (Zc (W_false (Zx (decide_eq_false (by omega))) (W_exit (at_exit (at_exit (ib_here (Ze (Zc (Zd (Za rfl rfl (Exec.load_box_agg (ds := [b, d]) ((n).f1) A33 rfl aL rfl (Za rfl rfl (Exec.store_box (ds := [b, d]) (es := [b, d]) n A33 rfl av rfl rfl (Zj ((n).f2).arr_one (Zj ((n).f3).arr_one one_nil)) (Nat.le_of_ble_eq_true rfl) rfl ?_))))))))))))))))))
 intro b5 ao
 refine Zb (Ze (W_ret ?_))
 have bh := Zu hm
 subst r
 refine ⟨_, retG1 rfl ⟨_, _, av, cellRes (ao) A33⟩, ?_⟩
 obtain ⟨bo, aJ, aE, aT⟩ := (ao).f2.freezeArr
 obtain ⟨aY, aq, aF, aU⟩ := (aE).f2.freezeArr
 exact ⟨aY, b, d, (Zt (Zt (Zt (Zt h o) aI) aJ) aq), ((aF).drop).drop, rfl, (aT.mono aq), aU⟩
theorem A5 : tyAgg Tryz.prog 5 = some (false, 1) := by kernel_rfl
theorem ground_proper_sim {w0 w : World} {s : PHeap} {H : List Res} {i : Ground} {n : GState} {o : Value} {p : Value} {q : Value} {t : Value} {u : Value} {ak : Value} {x : Value} {r : Bool} (hm : ground_proper_p i n = some r) (hS : St w0 s (H) w) (a9 : SliceRep encAtom s o i.Atoms) (am : SliceRep encGFluent s p i.Fluents) (bu : SliceRep (encInt .i64) s q i.Init) (bv : SliceRep encCond s t i.Goal) (bw : SliceRep encGOp s u i.Ops) (aA : SliceRep (encInt .i64) s ak n.True) (ah : SliceRep (encInt .i64) s x n.Values) :
  Calls Tryz.prog 61 #[Value.agg #[o, p, q, t, u], Value.agg #[ak, x]] w fun e w' => ∃ v, e = .returned v ∧ ((fun (bs : Bool) => ∃ (a3 : PHeap) , PHeap.le s a3 ∧ St w0 a3 (H) w' ∧ v = Value.bool (bs)) r) := by
 unfold ground_proper_p at hm
 refine calls_of_W Tryz.func61 rfl rfl (Zc (Zd (Za rfl rfl (Exec.box (cs := [o, p, q, t, u]) hS rfl rfl rfl ?_))))
 intro d bP aK
 refine Za rfl rfl (Exec.box (cs := [ak, x]) aK rfl rfl rfl ?_)
 intro ar bQ y
 refine Za rfl rfl (Zo (v := Value.bool (false)) rfl rfl (Zb (Ze (Zc (Zc ?_)))))
 obtain ⟨af, l, hm⟩ := Zg hm
 refine W_mid (M := fun f' w' => (fun (af : Bool) => ∃ (a4 : PHeap) , PHeap.le s a4 ∧ St w0 a4 (Res.box d 28 [o, p, q, t, u] :: Res.box ar 33 [ak, x] :: H) w' ∧ f' 2 = Value.pointer (some ⟨d, 0, none⟩) ∧ f' 3 = Value.pointer (some ⟨ar, 0, none⟩) ∧ f' 22 = Value.bool (af)) af) ?_ ?_
 ·refine Zd (Za rfl rfl (Zp F33_1 rfl rfl rfl (Za rfl rfl (Zn (y) A24 rfl rfl rfl (Za rfl rfl (Zr S24 rfl rfl ah (Za rfl rfl (Zp F28_1 rfl rfl rfl (Za rfl rfl (Zn ((y).f1) A23 rfl rfl rfl (Za rfl rfl (Zr S23 rfl rfl am (Za rfl rfl (Exec.neq rfl rfl rfl (Za rfl rfl (Zm (v := Value.bool (!decide ((n.Values.length : Int) = (i.Fluents.length : Int)))) rfl rfl ?_))))))))))))))))
  rcases ite_some l with ⟨b, l⟩ | ⟨b, l⟩
  ·refine WL_passes 8 (by rw [b]; rfl) ?_
   refine Zb (Ze ?_)
   have b1 := Zu l
   subst af
   exact ⟨s, (Zv _), (y).f1, rfl, rfl, rfl⟩
  replace b := Zk b
  refine WL_run rfl (Zf rfl (Zx b)) rfl (Zp F33_0 rfl rfl rfl (WL_run rfl (Zf rfl (Zx b)) rfl (Zn (y) A24 rfl rfl rfl (WL_run rfl (Zf rfl (Zx b)) rfl (Zp F28_0 rfl rfl rfl (WL_run rfl (Zf rfl (Zx b)) rfl (Zn ((y).f1) A22 rfl rfl rfl (WL_run rfl (Zf rfl (Zx b)) rfl (Zr S22 rfl rfl a9 ?_)))))))))
  obtain ⟨bt, bh, l⟩ := Zg l
  refine WL_run rfl (Zf rfl (Zx b)) rfl (Tc rfl rfl rfl (Zi rfl (Zi rfl args_nil)) (ground_indices_sim bh y aA).r ?_)
  rintro _ bR ⟨bm, aW, aL, rfl⟩
  refine WL_run rfl (Zf rfl (Zx b)) rfl (Exec.not rfl rfl (Za rfl rfl (Exec.pick_f (v := Value.bool (!bt)) rfl (Zx b) rfl (Zb (Ze ?_)))))
  have b2 := Zu l
  subst af
  exact ⟨bm, aW, (aL).f1, rfl, rfl, rfl⟩
 intro bA bS aH
 obtain ⟨aj, g, an, aZ, ba, az⟩ := aH
 refine (Ze ?_)
 rcases ite_some hm with ⟨aa, hm⟩ | ⟨aa, hm⟩
 ·refine W_cond_t az aa (Zc (Zd (Za rfl rfl (Zo (v := Value.bool (false)) rfl rfl (Zb (Ze (W_ret (at_ret ?_))))))))
  have b3 := Zu hm
  subst r
  refine ⟨_, ret1 rfl, ?_⟩
  exact ⟨aj, g, ((an).drop).drop, rfl⟩
 refine W_cond_f az aa ?_
 replace aa := Zk aa
 refine W_skip (Ze (Zc (Zc (Zd (Za rfl rfl (Zp F33_1 rfl ba rfl (Za rfl rfl (Zn ((an).f1) A24 rfl rfl rfl (Za rfl rfl (Zr S24 rfl rfl (ah.mono g) (Za rfl rfl (Zm (v := Vi (0)) rfl rfl (Zb (Ze ?_))))))))))))))
 obtain ⟨au, aE, aT, aR, aP⟩ := ctl_some hm
 refine W_mid (M := fun f' w' => ∃ s', (au = .next s' ∨ au = .brk s') ∧ (fun (_ : Unit) => ∃ (a5 : PHeap) , PHeap.le aj a5 ∧ St w0 a5 (Res.box d 28 [o, p, q, t, u] :: H) w' ∧ f' 2 = Value.pointer (some ⟨d, 0, none⟩) ∧ f' 24 = x ∧ f' 25 = Vi ((n.Values.length : Int))) s') ?_ ?_
 ·refine W_block (W_forC (fun k' s' f' w' => (fun (_ : Unit) => ∃ (a6 : PHeap) , PHeap.le aj a6 ∧ St w0 a6 (Res.box d 28 [o, p, q, t, u] :: H) w' ∧ f' 2 = Value.pointer (some ⟨d, 0, none⟩) ∧ f' 24 = x ∧ f' 25 = Vi ((n.Values.length : Int)) ∧ f' 26 = Vi (k' : Int)) s') aE ?_ ?_ ?_)
  ·have aM := ((an).f1).drop
   exact ⟨aj, (Zv _), aM, aZ, rfl, rfl, rfl⟩
  ·intro z bL av bB bT aQ aF c aU
   obtain ⟨aq, ac, j, ai, ao, ap, ad⟩ := aF
   refine Zc (Zd (Za rfl rfl (Zq rfl ad ap (Zb (Ze (Zc (W_true (Zx (decide_eq_true (by omega))) (W_skip (Ze (Zc (W_block (Zc (Zd (Za rfl rfl (Zm (v := Vi ((z : Int))) rfl ad ?_)))))))))))))))
   obtain ⟨ae, bi, c⟩ := Zg c
   refine Za rfl rfl (Exec.index_rep S24 rfl ao ad (ah.mono (Zt g ac)) bi ?_)
   intro bx bF aB
   refine Za rfl rfl (Zw (E := (encInt .i64)) j A3 rfl rfl rfl aB ?_)
   intro bO bj
   obtain rfl := encInt_val.1 bj
   refine Za rfl rfl (Zo (v := Vi ((z : Int))) rfl rfl (Za rfl rfl (Zo (v := Vi (ae)) rfl rfl (Zb (Ze (Zc ?_))))))
   obtain ⟨ag, m, c⟩ := Zg c
   refine W_mid (M := fun f' w' => (fun (ag : Bool) => ∃ (a7 : PHeap) , PHeap.le aq a7 ∧ St w0 a7 (Res.box d 28 [o, p, q, t, u] :: H) w' ∧ f' 2 = Value.pointer (some ⟨d, 0, none⟩) ∧ f' 24 = x ∧ f' 25 = Vi ((n.Values.length : Int)) ∧ f' 26 = Vi ((z : Int)) ∧ f' 48 = Value.bool (ag)) ag) ?_ ?_
   ·refine Zd (Za rfl rfl (Zm (v := Vi (ae)) rfl rfl (Za rfl rfl (Zp F28_1 rfl ai rfl (Za rfl rfl (Zn (j) A23 rfl rfl rfl (Za rfl rfl (Zm (v := Vi ((z : Int))) rfl rfl ?_))))))))
    obtain ⟨al, a2, m⟩ := Zg m
    refine Za rfl rfl (Exec.index_rep S23 rfl rfl rfl (am.mono (Zt g ac)) a2 ?_)
    intro bz bG aC
    refine Za rfl rfl (Zp F69_1 rfl rfl rfl (Za rfl rfl (Zw (E := (encInt .i64)) j A3 rfl rfl rfl (aC.sub (Sub.iso (Sub.snd (Sub.fst (Sub.refl _)) rfl)) rfl) ?_)))
    intro bp bk
    obtain rfl : bp = Vi (al.Lo) := encInt_val.1 bk
    refine Za rfl rfl (Zq rfl rfl rfl (Za rfl rfl (Zm (v := Value.bool (decide (ae < al.Lo))) rfl rfl ?_)))
    rcases ite_some m with ⟨a, m⟩ | ⟨a, m⟩
    ·refine WL_passes 9 (by rw [a]; rfl) ?_
     refine Zb (Ze ?_)
     have b4 := Zu m
     subst ag
     exact ⟨aq, (Zv _), j, ai, ao, ap, ad, rfl⟩
    replace a := Zk a
    refine WL_run rfl (Zf rfl (Zx a)) rfl (Zm (v := Vi (ae)) rfl rfl (WL_run rfl (Zf rfl (Zx a)) rfl (Zp F28_1 rfl ai rfl (WL_run rfl (Zf rfl (Zx a)) rfl (Zn (j) A23 rfl rfl rfl (WL_run rfl (Zf rfl (Zx a)) rfl (Zm (v := Vi ((z : Int))) rfl rfl (WL_run rfl (Zf rfl (Zx a)) rfl (Exec.index_rep S23 rfl rfl rfl (am.mono (Zt g ac)) a2 ?_)))))))))
    intro b0 bH aD
    refine WL_run rfl (Zf rfl (Zx a)) rfl (Zp F69_2 rfl rfl rfl (WL_run rfl (Zf rfl (Zx a)) rfl (Zw (E := (encInt .i64)) j A3 rfl rfl rfl (aD.sub (Sub.iso (Sub.snd (Sub.snd (Sub.fst (Sub.refl _)) rfl) rfl)) rfl) ?_)))
    intro bq bl
    obtain rfl : bq = Vi (al.Hi) := encInt_val.1 bl
    refine WL_run rfl (Zf rfl (Zx a)) rfl (Exec.gtr rfl rfl rfl (Za rfl rfl (Exec.pick_f (v := Value.bool (decide (al.Hi < ae))) rfl (Zx a) rfl (Zb (Ze ?_)))))
    have b5 := Zu m
    subst ag
    exact ⟨aq, (Zv _), j, ai, ao, ap, ad, rfl⟩
   intro bC bU aI
   obtain ⟨a8, ay, aw, bb, bc, bd, be, a0⟩ := aI
   refine (Ze ?_)
   rcases ite_some c with ⟨ab, c⟩ | ⟨ab, c⟩
   ·refine W_cond_t a0 ab (Zc (Zd (Za rfl rfl (Zo (v := Value.bool (false)) rfl rfl (Zb (Ze (W_ret (ib_ret (at_ret (at_ret (ib_ret (at_ret (at_ret ?_)))))))))))))
    have b6 := Zu c
    subst av
    have aS := aT _ (aU (by intro _ h; cases h))
    have b7 := Zu aS
    subst r
    refine ⟨_, ret1 rfl, ?_⟩
    exact ⟨a8, (Zt (Zt g ac) ay), (aw).drop, rfl⟩
   refine W_cond_f a0 ab ?_
   replace ab := Zk ab
   refine W_skip (ib_normal (Ze (Zd (Za rfl rfl (Exec.add rfl be rfl (Za rfl rfl (Zm (v := Vi (IntKind.i64.wrap ((z : Int) + 1))) rfl rfl (Zb (Ze ?_)))))))))
   have b8 := Zu c
   subst av
   refine ⟨_, rfl, ?_⟩; exact ⟨a8, (Zt ac ay), aw, bb, bc, bd, (Eq.trans rfl (wrap_up aQ (SliceRep.le (ah.mono g))))⟩
  intro bM bD bV aG aV
  obtain ⟨bn, aX, aN, bf, bg, a1, br⟩ := aG
  refine Zc (Zd (Za rfl rfl (Zq rfl br a1 (Zb (Ze (Zc (W_false (Zx (decide_eq_false (by omega))) (W_exit (at_exit (at_exit (ib_here (Ze ?_))))))))))))
  refine ⟨_, .inl aV, ?_⟩; exact ⟨bn, aX, aN, bf, bg, a1⟩
 rintro bE bW ⟨bN, ax, aJ⟩
 have hm := ax.elim (aR _) (aP _)
 clear ax
 obtain ⟨bo, aY, aO, bI, bJ, bK⟩ := aJ
 refine (Ze (Zc (Zd (Za rfl rfl (Zo (v := Value.bool (true)) rfl rfl (Zb (Ze (W_ret ?_))))))))
 have b9 := Zu hm
 subst r
 refine ⟨_, ret1 rfl, ?_⟩
 exact ⟨bo, (Zt g aY), (aO).drop, rfl⟩
theorem Z113 : tyZero Tryz.prog 113 = some (Value.nilFunc) := by kernel_rfl
theorem A113 : tyAgg Tryz.prog 113 = some (false, 1) := by kernel_rfl
theorem N63 : (Tryz.f63.name == "runtime.NumGoroutine") = false := by kernel_rfl
theorem ground_holds_c1_sim {w0 w : World} {s : PHeap} {H : List Res} {b : Int} {a : GState} {f g : Nat} {r : Bool} (hm : ground_holds_c1_p b a = some r) (hS : St w0 s (H) w) (i : At s f g encGState a) :
  Calls Tryz.prog 63 #[Vi (b), Value.pointer (some ⟨f, g, none⟩)] w fun e w' => ∃ v, e = .returned v ∧ ((fun (q : Bool) => ∃ (h : PHeap) , PHeap.le s h ∧ St w0 h (H) w' ∧ v = Value.bool (q)) r) := by
 unfold ground_holds_c1_p at hm
 refine calls_of_W Tryz.func63 rfl rfl (Zc (Zd (Za rfl rfl (Zo (v := Value.bool (false)) rfl rfl (Zb (Ze (Zc (Zd (Za rfl rfl (Zp F33_0 rfl rfl rfl (Za rfl rfl (Zw (E := (encSlice (encInt .i64))) hS A24 rfl rfl rfl (i.sub (Sub.iso (Sub.fst (Sub.refl _))) rfl) ?_))))))))))))
 intro u l
 have n : SliceRep _ _ _ (a.True) := encSlice_val.1 l
 refine Za rfl rfl (Zm (v := Vi (b)) rfl rfl ?_)
 obtain ⟨p, m, hm⟩ := Zg hm
 obtain ⟨c, d⟩ := p
 replace hm := un2_eq hm
 refine Za rfl rfl (Tc rfl rfl rfl (Zi rfl (Zi rfl args_nil)) (slices_BinarySearch_int_sim m hS n).r ?_)
 rintro _ x ⟨o, k, j, rfl⟩
 refine Za rfl rfl (Zm (v := Value.tuple #[Vi (c), Value.bool (d)]) rfl rfl (Za rfl rfl (Exec.extract (v := Vi (c)) rfl rfl rfl (Za rfl rfl (Exec.extract (v := Value.bool (d)) rfl rfl rfl (Za rfl rfl (Zo (v := Vi (c)) rfl rfl (Za rfl rfl (Zo (v := Value.bool (d)) rfl rfl (Zb (Ze (Zc (Zd (WL_passes 2 rfl (Zb (Ze (W_ret ?_)))))))))))))))))
 have t := Zu hm
 subst r
 refine ⟨_, ret1 rfl, ?_⟩
 exact ⟨o, k, j, rfl⟩
theorem N65 : (Tryz.f65.name == "runtime.NumGoroutine") = false := by kernel_rfl
theorem ground_holds_c2_sim {w0 w : World} {s : PHeap} {H : List Res} {c : Int} {f : GState} {a : Nat} {b d : Nat} {r : Bool} (hm : ground_holds_c2_p c f = some r) (hS : St w0 s (Res.box a 113 [Value.func (.func 63) #[] #[Value.pointer (some ⟨b, d, none⟩)]] :: H) w) (h : At s b d encGState f) :
  Calls Tryz.prog 65 #[Vi (c), Value.pointer (some ⟨a, 0, none⟩)] w fun e w' => ∃ v, e = .returned v ∧ ((fun (m : Bool) => ∃ (g : PHeap) , PHeap.le s g ∧ St w0 g (Res.box a 113 [Value.func (.func 63) #[] #[Value.pointer (some ⟨b, d, none⟩)]] :: H) w' ∧ v = Value.bool (m)) r) := by
 unfold ground_holds_c2_p at hm
 refine calls_of_W Tryz.func65 rfl rfl (Zc (Zd (Za rfl rfl (Zo (v := Value.bool (false)) rfl rfl (Zb (Ze (Zc (Zd (Za rfl rfl (Zn (hS) A113 rfl rfl rfl (Za rfl rfl (Zm (v := Vi (c)) rfl rfl ?_))))))))))))
 obtain ⟨n, k, hm⟩ := Zg hm
 refine Za rfl rfl (Exec.callc rfl rfl Tryz.func63 rfl N63 (Zi rfl args_nil) rfl ((ground_holds_c1_sim k hS h).mono ?_))
 rintro _ p ⟨_, rfl, ⟨l, j, i, rfl⟩⟩
 refine ⟨_, rfl, ?_⟩
 refine Za rfl rfl (Exec.not rfl rfl (Za rfl rfl (Zo (v := Value.bool (!n)) rfl rfl (Zb (Ze (W_ret ?_))))))
 have o := Zu hm
 subst r
 refine ⟨_, ret1 rfl, ?_⟩
 exact ⟨l, j, i, rfl⟩
theorem slices_IndexFunc_int_holds_c2_sim {w0 w : World} {s : PHeap} {H : List Res} {m : (List Int)} {p : GState} {d : Value} {b : Nat} {g j : Nat} {r : Int} (hm : slices_IndexFunc_int_holds_c2_p m p = some r) (hS : St w0 s (Res.box b 113 [Value.func (.func 63) #[] #[Value.pointer (some ⟨g, j, none⟩)]] :: H) w) (n : SliceRep (encInt .i64) s d m) (ai : At s g j encGState p) :
  Calls Tryz.prog 83 #[d, Value.func (.func 65) #[] #[Value.pointer (some ⟨b, 0, none⟩)]] w fun e w' => ∃ v, e = .returned v ∧ ((fun (a9 : Int) => ∃ (ae : PHeap) , PHeap.le s ae ∧ St w0 ae (Res.box b 113 [Value.func (.func 63) #[] #[Value.pointer (some ⟨g, j, none⟩)]] :: H) w' ∧ v = Vi (a9)) r) := by
 unfold slices_IndexFunc_int_holds_c2_p at hm
 refine calls_of_W Tryz.func83 rfl rfl (Zc (Zd (Za rfl rfl (Zo (v := Vi (0)) rfl rfl (Zb (Ze (Zc (Zc (Zd (Za rfl rfl (Zm (v := d) rfl rfl (Za rfl rfl (Zr S24 rfl rfl n (Za rfl rfl (Zm (v := Vi (0)) rfl rfl (Zb (Ze ?_)))))))))))))))))
 obtain ⟨q, ak, aw, au, aq⟩ := ctl_some hm
 refine W_mid (M := fun f' w' => ∃ s', (q = .next s' ∨ q = .brk s') ∧ (fun (_ : Unit) => ∃ (af : PHeap) , PHeap.le s af ∧ St w0 af (Res.box b 113 [Value.func (.func 63) #[] #[Value.pointer (some ⟨g, j, none⟩)]] :: H) w' ∧ f' 0 = d ∧ f' 1 = Value.func (.func 65) #[] #[Value.pointer (some ⟨b, 0, none⟩)] ∧ f' 7 = Vi ((m.length : Int))) s') ?_ ?_
 ·refine W_block (W_forC (fun k' s' f' w' => (fun (_ : Unit) => ∃ (ag : PHeap) , PHeap.le s ag ∧ St w0 ag (Res.box b 113 [Value.func (.func 63) #[] #[Value.pointer (some ⟨g, j, none⟩)]] :: H) w' ∧ f' 0 = d ∧ f' 1 = Value.func (.func 65) #[] #[Value.pointer (some ⟨b, 0, none⟩)] ∧ f' 7 = Vi ((m.length : Int)) ∧ f' 8 = Vi (k' : Int)) s') ak ?_ ?_ ?_)
  ·exact ⟨s, (Zv _), hS, rfl, rfl, rfl, rfl⟩
  ·intro c aN t aF aR ar al a ax
   obtain ⟨aM, l, u, aa, ab, ac, o⟩ := al
   refine Zc (Zd (Za rfl rfl (Zq rfl o ac (Zb (Ze (Zc (W_true (Zx (decide_eq_true (by omega))) (W_skip (Ze (Zc (W_block (Zc (Zd (Za rfl rfl (Zm (v := Vi ((c : Int))) rfl o (Za rfl rfl (Zo (v := Vi ((c : Int))) rfl rfl (Zb (Ze (Zc (Zd (Za rfl rfl (Zm (v := Value.func (.func 65) #[] #[Value.pointer (some ⟨b, 0, none⟩)]) rfl ab (Za rfl rfl (Zm (v := d) rfl aa (Za rfl rfl (Zm (v := Vi ((c : Int))) rfl rfl ?_)))))))))))))))))))))))))))
   obtain ⟨aV, a3, a⟩ := Zg a
   refine Za rfl rfl (Exec.index_rep S24 rfl rfl rfl (n.mono l) a3 ?_)
   intro aA aI aj
   refine Za rfl rfl (Zw (E := (encInt .i64)) u A3 rfl rfl rfl aj ?_)
   intro aQ a4
   obtain rfl := encInt_val.1 a4
   obtain ⟨aW, a5, a⟩ := Zg a
   refine Za rfl rfl (Exec.callc rfl rfl Tryz.func65 rfl N65 (Zi rfl args_nil) rfl ((ground_holds_c2_sim a5 u (ai.mono l)).mono ?_))
   rintro _ aS ⟨_, rfl, ⟨ah, z, x, rfl⟩⟩
   refine ⟨_, rfl, ?_⟩
   refine Zb (Ze ?_)
   rcases ite_some a with ⟨i, a⟩ | ⟨i, a⟩
   ·refine W_cond_t rfl i (Zc (Zd (Za rfl rfl (Zm (v := Vi ((c : Int))) rfl rfl (Za rfl rfl (Zo (v := Vi ((c : Int))) rfl rfl (Zb (Ze (W_ret (ib_ret (at_ret (at_ret (ib_ret (at_ret (at_ret ?_)))))))))))))))
    have aB := Zu a
    subst t
    have av := aw _ (ax (by intro _ h; cases h))
    have aC := Zu av
    subst r
    refine ⟨_, ret1 rfl, ?_⟩
    exact ⟨ah, (Zt l z), x, rfl⟩
   refine W_cond_f rfl i ?_
   replace i := Zk i
   refine W_skip (ib_normal (Ze (Zd (Za rfl rfl (Exec.add rfl o rfl (Za rfl rfl (Zm (v := Vi (IntKind.i64.wrap ((c : Int) + 1))) rfl rfl (Zb (Ze ?_)))))))))
   have aD := Zu a
   subst t
   refine ⟨_, rfl, ?_⟩; exact ⟨ah, (Zt l z), x, aa, ab, ac, (Eq.trans rfl (wrap_up ar (SliceRep.le n)))⟩
  intro aO aG aT am ay
  obtain ⟨a6, az, ao, a1, a2, ad, a8⟩ := am
  refine Zc (Zd (Za rfl rfl (Zq rfl a8 ad (Zb (Ze (Zc (W_false (Zx (decide_eq_false (by omega))) (W_exit (at_exit (at_exit (ib_here (Ze ?_))))))))))))
  refine ⟨_, .inl ay, ?_⟩; exact ⟨a6, az, ao, a1, a2, ad⟩
 rintro aH aU ⟨aP, y, an⟩
 have hm := y.elim (au _) (aq _)
 clear y
 obtain ⟨a7, a0, ap, aJ, aK, aL⟩ := an
 refine (Ze (Zc (Zd (Za rfl rfl (Zo (v := Vi ((-1))) rfl rfl (Zb (Ze (W_ret ?_))))))))
 have aE := Zu hm
 subst r
 refine ⟨_, ret1 rfl, ?_⟩
 exact ⟨a7, a0, ap, rfl⟩
theorem slices_ContainsFunc_int_holds_c2_sim {w0 w : World} {s : PHeap} {H : List Res} {h : (List Int)} {f : GState} {d : Value} {a : Nat} {b c : Nat} {r : Bool} (hm : slices_ContainsFunc_int_holds_c2_p h f = some r) (hS : St w0 s (Res.box a 113 [Value.func (.func 63) #[] #[Value.pointer (some ⟨b, c, none⟩)]] :: H) w) (i : SliceRep (encInt .i64) s d h) (j : At s b c encGState f) :
  Calls Tryz.prog 64 #[d, Value.func (.func 65) #[] #[Value.pointer (some ⟨a, 0, none⟩)]] w fun e w' => ∃ v, e = .returned v ∧ ((fun (o : Bool) => ∃ (g : PHeap) , PHeap.le s g ∧ St w0 g (Res.box a 113 [Value.func (.func 63) #[] #[Value.pointer (some ⟨b, c, none⟩)]] :: H) w' ∧ v = Value.bool (o)) r) := by
 unfold slices_ContainsFunc_int_holds_c2_p at hm
 refine calls_of_W Tryz.func64 rfl rfl (Zc (Zd (Za rfl rfl (Zo (v := Value.bool (false)) rfl rfl (Zb (Ze (Zc (Zd (Za rfl rfl (Zm (v := d) rfl rfl (Za rfl rfl (Zm (v := Value.func (.func 65) #[] #[Value.pointer (some ⟨a, 0, none⟩)]) rfl rfl ?_))))))))))))
 obtain ⟨p, m, hm⟩ := Zg hm
 refine Za rfl rfl (Tc rfl rfl rfl (Zi rfl (Zi rfl args_nil)) (slices_IndexFunc_int_holds_c2_sim m hS i j).r ?_)
 rintro _ t ⟨n, l, k, rfl⟩
 refine Za rfl rfl (Exec.geq rfl rfl rfl (Za rfl rfl (Zo (v := Value.bool (decide (0 ≤ p))) rfl rfl (Zb (Ze (W_ret ?_))))))
 have q := Zu hm
 subst r
 refine ⟨_, ret1 rfl, ?_⟩
 exact ⟨n, l, k, rfl⟩
theorem slices_IndexFunc_int_holds_c1_sim {w0 w : World} {s : PHeap} {H : List Res} {l : (List Int)} {o : GState} {c : Value} {d i : Nat} {r : Int} (hm : slices_IndexFunc_int_holds_c1_p l o = some r) (hS : St w0 s (H) w) (m : SliceRep (encInt .i64) s c l) (ah : At s d i encGState o) :
  Calls Tryz.prog 83 #[c, Value.func (.func 63) #[] #[Value.pointer (some ⟨d, i, none⟩)]] w fun e w' => ∃ v, e = .returned v ∧ ((fun (a8 : Int) => ∃ (ad : PHeap) , PHeap.le s ad ∧ St w0 ad (H) w' ∧ v = Vi (a8)) r) := by
 unfold slices_IndexFunc_int_holds_c1_p at hm
 refine calls_of_W Tryz.func83 rfl rfl (Zc (Zd (Za rfl rfl (Zo (v := Vi (0)) rfl rfl (Zb (Ze (Zc (Zc (Zd (Za rfl rfl (Zm (v := c) rfl rfl (Za rfl rfl (Zr S24 rfl rfl m (Za rfl rfl (Zm (v := Vi (0)) rfl rfl (Zb (Ze ?_)))))))))))))))))
 obtain ⟨p, aj, av, ar, ap⟩ := ctl_some hm
 refine W_mid (M := fun f' w' => ∃ s', (p = .next s' ∨ p = .brk s') ∧ (fun (_ : Unit) => ∃ (ae : PHeap) , PHeap.le s ae ∧ St w0 ae (H) w' ∧ f' 0 = c ∧ f' 1 = Value.func (.func 63) #[] #[Value.pointer (some ⟨d, i, none⟩)] ∧ f' 7 = Vi ((l.length : Int))) s') ?_ ?_
 ·refine W_block (W_forC (fun k' s' f' w' => (fun (_ : Unit) => ∃ (af : PHeap) , PHeap.le s af ∧ St w0 af (H) w' ∧ f' 0 = c ∧ f' 1 = Value.func (.func 63) #[] #[Value.pointer (some ⟨d, i, none⟩)] ∧ f' 7 = Vi ((l.length : Int)) ∧ f' 8 = Vi (k' : Int)) s') aj ?_ ?_ ?_)
  ·exact ⟨s, (Zv _), hS, rfl, rfl, rfl, rfl⟩
  ·intro b aM q aE aQ aq ak a aw
   obtain ⟨aL, j, t, z, aa, ab, n⟩ := ak
   refine Zc (Zd (Za rfl rfl (Zq rfl n ab (Zb (Ze (Zc (W_true (Zx (decide_eq_true (by omega))) (W_skip (Ze (Zc (W_block (Zc (Zd (Za rfl rfl (Zm (v := Vi ((b : Int))) rfl n (Za rfl rfl (Zo (v := Vi ((b : Int))) rfl rfl (Zb (Ze (Zc (Zd (Za rfl rfl (Zm (v := Value.func (.func 63) #[] #[Value.pointer (some ⟨d, i, none⟩)]) rfl aa (Za rfl rfl (Zm (v := c) rfl z (Za rfl rfl (Zm (v := Vi ((b : Int))) rfl rfl ?_)))))))))))))))))))))))))))
   obtain ⟨aU, a2, a⟩ := Zg a
   refine Za rfl rfl (Exec.index_rep S24 rfl rfl rfl (m.mono j) a2 ?_)
   intro a9 aH ai
   refine Za rfl rfl (Zw (E := (encInt .i64)) t A3 rfl rfl rfl ai ?_)
   intro aP a3
   obtain rfl := encInt_val.1 a3
   obtain ⟨aV, a4, a⟩ := Zg a
   refine Za rfl rfl (Exec.callc rfl rfl Tryz.func63 rfl N63 (Zi rfl args_nil) rfl ((ground_holds_c1_sim a4 t (ah.mono j)).mono ?_))
   rintro _ aR ⟨_, rfl, ⟨ag, y, u, rfl⟩⟩
   refine ⟨_, rfl, ?_⟩
   refine Zb (Ze ?_)
   rcases ite_some a with ⟨g, a⟩ | ⟨g, a⟩
   ·refine W_cond_t rfl g (Zc (Zd (Za rfl rfl (Zm (v := Vi ((b : Int))) rfl rfl (Za rfl rfl (Zo (v := Vi ((b : Int))) rfl rfl (Zb (Ze (W_ret (ib_ret (at_ret (at_ret (ib_ret (at_ret (at_ret ?_)))))))))))))))
    have aA := Zu a
    subst q
    have au := av _ (aw (by intro _ h; cases h))
    have aB := Zu au
    subst r
    refine ⟨_, ret1 rfl, ?_⟩
    exact ⟨ag, (Zt j y), u, rfl⟩
   refine W_cond_f rfl g ?_
   replace g := Zk g
   refine W_skip (ib_normal (Ze (Zd (Za rfl rfl (Exec.add rfl n rfl (Za rfl rfl (Zm (v := Vi (IntKind.i64.wrap ((b : Int) + 1))) rfl rfl (Zb (Ze ?_)))))))))
   have aC := Zu a
   subst q
   refine ⟨_, rfl, ?_⟩; exact ⟨ag, (Zt j y), u, z, aa, ab, (Eq.trans rfl (wrap_up aq (SliceRep.le m)))⟩
  intro aN aF aS al ax
  obtain ⟨a5, ay, an, a0, a1, ac, a7⟩ := al
  refine Zc (Zd (Za rfl rfl (Zq rfl a7 ac (Zb (Ze (Zc (W_false (Zx (decide_eq_false (by omega))) (W_exit (at_exit (at_exit (ib_here (Ze ?_))))))))))))
  refine ⟨_, .inl ax, ?_⟩; exact ⟨a5, ay, an, a0, a1, ac⟩
 rintro aG aT ⟨aO, x, am⟩
 have hm := x.elim (ar _) (ap _)
 clear x
 obtain ⟨a6, az, ao, aI, aJ, aK⟩ := am
 refine (Ze (Zc (Zd (Za rfl rfl (Zo (v := Vi ((-1))) rfl rfl (Zb (Ze (W_ret ?_))))))))
 have aD := Zu hm
 subst r
 refine ⟨_, ret1 rfl, ?_⟩
 exact ⟨a6, az, ao, rfl⟩
theorem slices_ContainsFunc_int_holds_c1_sim {w0 w : World} {s : PHeap} {H : List Res} {g : (List Int)} {d : GState} {c : Value} {a b : Nat} {r : Bool} (hm : slices_ContainsFunc_int_holds_c1_p g d = some r) (hS : St w0 s (H) w) (h : SliceRep (encInt .i64) s c g) (i : At s a b encGState d) :
  Calls Tryz.prog 64 #[c, Value.func (.func 63) #[] #[Value.pointer (some ⟨a, b, none⟩)]] w fun e w' => ∃ v, e = .returned v ∧ ((fun (n : Bool) => ∃ (f : PHeap) , PHeap.le s f ∧ St w0 f (H) w' ∧ v = Value.bool (n)) r) := by
 unfold slices_ContainsFunc_int_holds_c1_p at hm
 refine calls_of_W Tryz.func64 rfl rfl (Zc (Zd (Za rfl rfl (Zo (v := Value.bool (false)) rfl rfl (Zb (Ze (Zc (Zd (Za rfl rfl (Zm (v := c) rfl rfl (Za rfl rfl (Zm (v := Value.func (.func 63) #[] #[Value.pointer (some ⟨a, b, none⟩)]) rfl rfl ?_))))))))))))
 obtain ⟨o, l, hm⟩ := Zg hm
 refine Za rfl rfl (Tc rfl rfl rfl (Zi rfl (Zi rfl args_nil)) (slices_IndexFunc_int_holds_c1_sim l hS h i).r ?_)
 rintro _ q ⟨m, k, j, rfl⟩
 refine Za rfl rfl (Exec.geq rfl rfl rfl (Za rfl rfl (Zo (v := Value.bool (decide (0 ≤ o))) rfl rfl (Zb (Ze (W_ret ?_))))))
 have p := Zu hm
 subst r
 refine ⟨_, ret1 rfl, ?_⟩
 exact ⟨m, k, j, rfl⟩
theorem ground_combine_sim {w0 w : World} {s : PHeap} {H : List Res} {p : ByteArray} {a : Int} {b : Int}  {r : Int × Bool} (hm : ground_combine_p p a b = some r) (hS : St w0 s (H) w)  :
  Calls Tryz.prog 82 #[Value.string (p), Vi (a), Vi (b)] w fun e w' => ∃ v, e = .returned v ∧ ((un2 fun (a5 : Int) (a6 : Bool) => ∃ (ac : PHeap) , PHeap.le s ac ∧ St w0 ac (H) w' ∧ v = Value.tuple #[Vi (a5), Value.bool (a6)]) r) := by
 unfold ground_combine_p at hm
 refine calls_of_W Tryz.func82 rfl rfl (Zc (Zd (Za rfl rfl (Zo (v := Vi (0)) rfl rfl (Za rfl rfl (Zo (v := Value.bool (false)) rfl rfl (Zb (Ze (Zc (Zd (Za rfl rfl (Zo (v := Vi (0)) rfl rfl (Zb (Ze (Zc (Zc (Zd (Za rfl rfl (Zm (v := Value.string (p)) rfl rfl (Zb (Ze (W_block (Zc (Zd (Za rfl rfl (Exec.str_eql rfl rfl rfl (Za rfl rfl (Zo (v := Value.bool (decide (p = (⟨#[43]⟩)))) rfl rfl (Zb (Ze ?_))))))))))))))))))))))))))))))
 rcases ite_some hm with ⟨j, hm⟩ | ⟨j, hm⟩
 ·refine W_cond_t rfl j (Zd (Za rfl rfl (Zm (v := Vi (a)) rfl rfl (Za rfl rfl (Zm (v := Vi (b)) rfl rfl (Za rfl rfl (Exec.add rfl rfl rfl (Za rfl rfl (Zo (v := Vi (IntKind.i64.wrap (a + b))) rfl rfl (Zb (ib_normal (Ze (Zc ?_)))))))))))))
  obtain ⟨q, m, hm⟩ := Zg hm
  refine W_mid (M := fun f' w' => (fun (q : Bool) => ∃ (ad : PHeap) , PHeap.le s ad ∧ St w0 ad (H) w' ∧ f' 6 = Vi (IntKind.i64.wrap (a + b)) ∧ f' 7 = Value.bool (q)) q) ?_ ?_
  ·refine Zd (Za rfl rfl (Zm (v := Vi (IntKind.i64.wrap (a + b))) rfl rfl (Za rfl rfl (Zm (v := Vi (IntKind.i64.wrap (a + b))) rfl rfl (Za rfl rfl (Exec.geq rfl rfl rfl (Za rfl rfl (Zm (v := Value.bool (decide ((-1099511627776) ≤ (IntKind.i64.wrap (a + b))))) rfl rfl ?_))))))))
   rcases ite_some m with ⟨d, m⟩ | ⟨d, m⟩
   ·refine WL_run rfl (Zf rfl (Zx d)) rfl (Zm (v := Vi (IntKind.i64.wrap (a + b))) rfl rfl (WL_run rfl (Zf rfl (Zx d)) rfl (Exec.leq rfl rfl rfl (Za rfl rfl (Zs (v := Value.bool (decide ((IntKind.i64.wrap (a + b)) ≤ 1099511627776))) rfl (Zx d) rfl (Za rfl rfl (Zo (v := Vi (IntKind.i64.wrap (a + b))) rfl rfl (Za rfl rfl (Zo (v := Value.bool (decide ((IntKind.i64.wrap (a + b)) ≤ 1099511627776))) rfl rfl (Zb (Ze ?_)))))))))))
    have a7 := Zu m
    subst q
    exact ⟨s, (Zv _), hS, rfl, rfl⟩
   replace d := Zk d
   refine WL_passes 3 (by rw [d]; rfl) ?_
   refine Za rfl rfl (Zo (v := Vi (IntKind.i64.wrap (a + b))) rfl rfl (Za rfl rfl (Zo (v := Value.bool (false)) rfl rfl (Zb (Ze ?_)))))
   have a8 := Zu m
   subst q
   exact ⟨s, (Zv _), hS, rfl, rfl⟩
  intro aJ aO ah
  obtain ⟨a2, ao, al, ar, au⟩ := ah
  refine (Ze (W_ret ?_))
  have a9 := Zu hm
  subst r
  refine ⟨_, ret2 rfl, ?_⟩
  exact ⟨a2, ao, al, (tup2 ar au)⟩
 refine W_cond_f rfl j ?_
 replace j := Zk j
 refine Zc (Zd (Za rfl rfl (Exec.str_eql rfl rfl rfl (Za rfl rfl (Zo (v := Value.bool (decide (p = (⟨#[45]⟩)))) rfl rfl (Zb (Ze ?_)))))))
 rcases ite_some hm with ⟨k, hm⟩ | ⟨k, hm⟩
 ·refine W_cond_t rfl k (Zd (Za rfl rfl (Zm (v := Vi (a)) rfl rfl (Za rfl rfl (Zm (v := Vi (b)) rfl rfl (Za rfl rfl (Exec.sub rfl rfl rfl (Za rfl rfl (Zo (v := Vi (IntKind.i64.wrap (a - b))) rfl rfl (Zb (ib_normal (Ze (Zc ?_)))))))))))))
  obtain ⟨t, n, hm⟩ := Zg hm
  refine W_mid (M := fun f' w' => (fun (t : Bool) => ∃ (ae : PHeap) , PHeap.le s ae ∧ St w0 ae (H) w' ∧ f' 6 = Vi (IntKind.i64.wrap (a - b)) ∧ f' 7 = Value.bool (t)) t) ?_ ?_
  ·refine Zd (Za rfl rfl (Zm (v := Vi (IntKind.i64.wrap (a - b))) rfl rfl (Za rfl rfl (Zm (v := Vi (IntKind.i64.wrap (a - b))) rfl rfl (Za rfl rfl (Exec.geq rfl rfl rfl (Za rfl rfl (Zm (v := Value.bool (decide ((-1099511627776) ≤ (IntKind.i64.wrap (a - b))))) rfl rfl ?_))))))))
   rcases ite_some n with ⟨g, n⟩ | ⟨g, n⟩
   ·refine WL_run rfl (Zf rfl (Zx g)) rfl (Zm (v := Vi (IntKind.i64.wrap (a - b))) rfl rfl (WL_run rfl (Zf rfl (Zx g)) rfl (Exec.leq rfl rfl rfl (Za rfl rfl (Zs (v := Value.bool (decide ((IntKind.i64.wrap (a - b)) ≤ 1099511627776))) rfl (Zx g) rfl (Za rfl rfl (Zo (v := Vi (IntKind.i64.wrap (a - b))) rfl rfl (Za rfl rfl (Zo (v := Value.bool (decide ((IntKind.i64.wrap (a - b)) ≤ 1099511627776))) rfl rfl (Zb (Ze ?_)))))))))))
    have aA := Zu n
    subst t
    exact ⟨s, (Zv _), hS, rfl, rfl⟩
   replace g := Zk g
   refine WL_passes 3 (by rw [g]; rfl) ?_
   refine Za rfl rfl (Zo (v := Vi (IntKind.i64.wrap (a - b))) rfl rfl (Za rfl rfl (Zo (v := Value.bool (false)) rfl rfl (Zb (Ze ?_)))))
   have aB := Zu n
   subst t
   exact ⟨s, (Zv _), hS, rfl, rfl⟩
  intro aK aP ai
  obtain ⟨a3, ap, am, av, aw⟩ := ai
  refine (Ze (W_ret ?_))
  have aC := Zu hm
  subst r
  refine ⟨_, ret2 rfl, ?_⟩
  exact ⟨a3, ap, am, (tup2 av aw)⟩
 refine W_cond_f rfl k ?_
 replace k := Zk k
 refine Zc (Zc ?_)
 obtain ⟨u, i, hm⟩ := Zg hm
 refine W_mid (M := fun f' w' => (fun (u : Bool) => ∃ (af : PHeap) , PHeap.le s af ∧ St w0 af (H) w' ∧ f' 1 = Vi (a) ∧ f' 2 = Vi (b) ∧ f' 23 = Value.bool (u)) u) ?_ ?_
 ·refine Zd (Za rfl rfl (Zm (v := Vi (a)) rfl rfl (Za rfl rfl (Exec.neq rfl rfl rfl (Za rfl rfl (Zm (v := Value.bool (!decide (a = 0))) rfl rfl ?_))))))
  rcases ite_some i with ⟨c, i⟩ | ⟨c, i⟩
  ·refine WL_run rfl (Zf rfl (Zx c)) rfl (Zm (v := Vi (b)) rfl rfl (WL_run rfl (Zf rfl (Zx c)) rfl (Zm (v := Vi (b)) rfl rfl (WL_run rfl (Zf rfl (Zx c)) rfl (Exec.neg rfl rfl (WL_run rfl (Zf rfl (Zx c)) rfl (Exec.max2 rfl rfl rfl (WL_run rfl (Zf rfl (Zx c)) rfl (Zm (v := Vi (a)) rfl rfl (WL_run rfl (Zf rfl (Zx c)) rfl (Zm (v := Vi (a)) rfl rfl (WL_run rfl (Zf rfl (Zx c)) rfl (Exec.neg rfl rfl (WL_run rfl (Zf rfl (Zx c)) rfl (Exec.max2 rfl rfl rfl ?_)))))))))))))))
   obtain ⟨aN, a1, i⟩ := Zg i
   refine WL_run rfl (Zf rfl (Zx c)) rfl (Exec.quo rfl rfl rfl (by simpa using must_some a1) (WL_run rfl (Zf rfl (Zx c)) rfl (Exec.gtr rfl rfl rfl (Za rfl rfl (Zs (v := Value.bool (decide ((IntKind.i64.wrap ((1099511627776 : Int).tdiv (max a (IntKind.i64.wrap (0 - a))))) < (max b (IntKind.i64.wrap (0 - b)))))) rfl (Zx c) rfl (Zb (Ze ?_)))))))
   have aD := Zu i
   subst u
   exact ⟨s, (Zv _), hS, rfl, rfl, rfl⟩
  replace c := Zk c
  refine WL_passes 11 (by rw [c]; rfl) ?_
  refine Zb (Ze ?_)
  have aE := Zu i
  subst u
  exact ⟨s, (Zv _), hS, rfl, rfl, rfl⟩
 intro aL aQ aj
 obtain ⟨y, aa, z, ax, ay, ab⟩ := aj
 refine (Ze ?_)
 rcases ite_some hm with ⟨l, hm⟩ | ⟨l, hm⟩
 ·refine W_cond_t ab l (Zc (Zd (Za rfl rfl (Zo (v := Vi (0)) rfl rfl (Za rfl rfl (Zo (v := Value.bool (false)) rfl rfl (Zb (Ze (W_ret (at_ret (ib_ret (at_ret ?_))))))))))))
  have aF := Zu hm
  subst r
  refine ⟨_, ret2 rfl, ?_⟩
  exact ⟨y, aa, z, (tup2 rfl rfl)⟩
 refine W_cond_f ab l ?_
 replace l := Zk l
 refine W_skip (Ze (Zd (Za rfl rfl (Zm (v := Vi (a)) rfl ax (Za rfl rfl (Zm (v := Vi (b)) rfl ay (Za rfl rfl (Exec.mul rfl rfl rfl (Za rfl rfl (Zo (v := Vi (IntKind.i64.wrap (a * b))) rfl rfl (Zb (ib_normal (Ze (Zc ?_))))))))))))))
 obtain ⟨x, o, hm⟩ := Zg hm
 refine W_mid (M := fun f' w' => (fun (x : Bool) => ∃ (ag : PHeap) , PHeap.le y ag ∧ St w0 ag (H) w' ∧ f' 6 = Vi (IntKind.i64.wrap (a * b)) ∧ f' 7 = Value.bool (x)) x) ?_ ?_
 ·refine Zd (Za rfl rfl (Zm (v := Vi (IntKind.i64.wrap (a * b))) rfl rfl (Za rfl rfl (Zm (v := Vi (IntKind.i64.wrap (a * b))) rfl rfl (Za rfl rfl (Exec.geq rfl rfl rfl (Za rfl rfl (Zm (v := Value.bool (decide ((-1099511627776) ≤ (IntKind.i64.wrap (a * b))))) rfl rfl ?_))))))))
  rcases ite_some o with ⟨h, o⟩ | ⟨h, o⟩
  ·refine WL_run rfl (Zf rfl (Zx h)) rfl (Zm (v := Vi (IntKind.i64.wrap (a * b))) rfl rfl (WL_run rfl (Zf rfl (Zx h)) rfl (Exec.leq rfl rfl rfl (Za rfl rfl (Zs (v := Value.bool (decide ((IntKind.i64.wrap (a * b)) ≤ 1099511627776))) rfl (Zx h) rfl (Za rfl rfl (Zo (v := Vi (IntKind.i64.wrap (a * b))) rfl rfl (Za rfl rfl (Zo (v := Value.bool (decide ((IntKind.i64.wrap (a * b)) ≤ 1099511627776))) rfl rfl (Zb (Ze ?_)))))))))))
   have aG := Zu o
   subst x
   exact ⟨y, (Zv _), z, rfl, rfl⟩
  replace h := Zk h
  refine WL_passes 3 (by rw [h]; rfl) ?_
  refine Za rfl rfl (Zo (v := Vi (IntKind.i64.wrap (a * b))) rfl rfl (Za rfl rfl (Zo (v := Value.bool (false)) rfl rfl (Zb (Ze ?_)))))
  have aH := Zu o
  subst x
  exact ⟨y, (Zv _), z, rfl, rfl⟩
 intro aM aR ak
 obtain ⟨a4, aq, an, az, a0⟩ := ak
 refine (Ze (W_ret ?_))
 have aI := Zu hm
 subst r
 refine ⟨_, ret2 rfl, ?_⟩
 exact ⟨a4, (Zt aa aq), an, (tup2 az a0)⟩
theorem ground_value_step {fu : Nat} (ih : ∀ {w0 w : World} {s : PHeap} {H : List Res} {f : GState} {a : GExpr} {c : Value} {d : Value} {h : Value} {r : Int × Bool} (hm : ground_value_p fu f a = some r) (hS : St w0 s (H) w) (x : SliceRep (encInt .i64) s c f.True) (o : SliceRep (encInt .i64) s d f.Values) (y : SliceRep encGExpr s h a.Kids), Calls Tryz.prog 62 #[Value.agg #[c, d], Value.agg #[Value.string (a.Op), Vi (a.N), h]] w fun e w' => ∃ v, e = .returned v ∧ ((un2 fun (aa : Int) (ab : Bool) => ∃ (n : PHeap) , PHeap.le s n ∧ St w0 n (H) w' ∧ v = Value.tuple #[Vi (aa), Value.bool (ab)]) r)) {w0 w : World} {s : PHeap} {H : List Res} {f : GState} {a : GExpr} {c : Value} {d : Value} {h : Value} {r : Int × Bool} (hm : ground_value_p (fu + 1) f a = some r) (hS : St w0 s (H) w) (x : SliceRep (encInt .i64) s c f.True) (o : SliceRep (encInt .i64) s d f.Values) (y : SliceRep encGExpr s h a.Kids) :
  Calls Tryz.prog 62 #[Value.agg #[c, d], Value.agg #[Value.string (a.Op), Vi (a.N), h]] w fun e w' => ∃ v, e = .returned v ∧ ((un2 fun (aa : Int) (ab : Bool) => ∃ (n : PHeap) , PHeap.le s n ∧ St w0 n (H) w' ∧ v = Value.tuple #[Vi (aa), Value.bool (ab)]) r) := by
 rw [ground_value_p] at hm
 refine calls_of_W Tryz.func62 rfl rfl (Zc (Zd (Za rfl rfl (Exec.box (cs := [c, d]) hS rfl rfl rfl ?_))))
 intro a5 aP ai
 refine Za rfl rfl (Exec.box (cs := [Value.string (a.Op), Vi (a.N), h]) ai rfl rfl rfl ?_)
 intro a6 aQ b
 refine Za rfl rfl (Zo (v := Vi (0)) rfl rfl (Za rfl rfl (Zo (v := Value.bool (false)) rfl rfl (Zb (Ze (Zc (Zc (Zd (Za rfl rfl (Zp F102_0 rfl rfl rfl (Za rfl rfl (Zn (b) A9 rfl rfl rfl (Zb (Ze (W_block (Zc (Zd (Za rfl rfl (Exec.str_eql rfl rfl rfl (Za rfl rfl (Zo (v := Value.bool (decide (a.Op = (⟨#[110, 117, 109, 98, 101, 114]⟩)))) rfl rfl (Zb (Ze ?_)))))))))))))))))))))))
 rcases ite_some hm with ⟨j, hm⟩ | ⟨j, hm⟩
 ·refine W_cond_t rfl j (Zc (Zd (Za rfl rfl (Zp F102_1 rfl rfl rfl (Za rfl rfl (Zn (b) A3 rfl rfl rfl (Za rfl rfl (Zo (v := Vi (a.N)) rfl rfl (Za rfl rfl (Zo (v := Value.bool (true)) rfl rfl (Zb (Ze (W_ret (ib_ret (at_ret ?_)))))))))))))))
  have aA := Zu hm
  subst r
  refine ⟨_, ret2 rfl, ?_⟩
  exact ⟨s, (Zv _), ((b).drop).drop, (tup2 rfl rfl)⟩
 refine W_cond_f rfl j ?_
 replace j := Zk j
 refine Zc (Zd (Za rfl rfl (Exec.str_eql rfl rfl rfl (Za rfl rfl (Zo (v := Value.bool (decide (a.Op = (⟨#[102, 108, 117, 101, 110, 116]⟩)))) rfl rfl (Zb (Ze ?_)))))))
 rcases ite_some hm with ⟨k, hm⟩ | ⟨k, hm⟩
 ·refine W_cond_t rfl k (Zc (Zd (Za rfl rfl (Zp F33_1 rfl rfl rfl (Za rfl rfl (Zn ((b).f1) A24 rfl rfl rfl (Za rfl rfl (Zp F102_1 rfl rfl rfl (Za rfl rfl (Zn (b) A3 rfl rfl rfl ?_))))))))))
  obtain ⟨a4, al, hm⟩ := Zg hm
  refine Za rfl rfl (Exec.index_rep S24 rfl rfl rfl o al ?_)
  intro a7 aH af
  refine Za rfl rfl (Zw (E := (encInt .i64)) b A3 rfl rfl rfl af ?_)
  intro aM am
  obtain rfl := encInt_val.1 am
  refine Za rfl rfl (Zo (v := Vi (a4)) rfl rfl (Za rfl rfl (Zo (v := Value.bool (true)) rfl rfl (Zb (Ze (W_ret (ib_ret (at_ret ?_))))))))
  have aB := Zu hm
  subst r
  refine ⟨_, ret2 rfl, ?_⟩
  exact ⟨s, (Zv _), ((b).drop).drop, (tup2 rfl rfl)⟩
 refine W_cond_f rfl k ?_
 replace k := Zk k
 refine W_skip (ib_normal (Ze (Zc (W_dl (n0 := 10) (qs 0 5 (.e 5 [] (qs 6 4 .done))) hmix (by kernel_rfl) (by kernel_rfl) (DL_q rfl rfl (Exec.load_box_agg (ds := [c, d]) ((b.drew).f1) A33 rfl rfl rfl ⟨rfl, ?_⟩))))))
 refine DL_q rfl rfl (Zp F102_2 rfl rfl rfl ⟨rfl, ?_⟩)
 refine DL_q rfl rfl (Zn (b.drew) A100 rfl rfl rfl ⟨rfl, ?_⟩)
 obtain ⟨aU, an, hm⟩ := Zg hm
 refine DL_q rfl rfl (Exec.index_repE S100 rfl rfl rfl y an ?_)
 intro a8 aI ag aC
 refine ⟨rfl, ?_⟩
 refine DL_q rfl rfl (Zw (E := encGExpr) b.drew A102 rfl rfl rfl ag ?_)
 intro aN ao
 obtain ⟨aK, rfl, aw⟩ := encGExpr_val.1 ao
 refine ⟨rfl, ?_⟩
 obtain ⟨a1, ap, hm⟩ := Zg hm
 obtain ⟨p, q⟩ := a1
 replace hm := un2_eq hm
 refine DL_e rfl rfl (Tc rfl rfl rfl (Zi rfl (Zi rfl args_nil)) (ih ap b.drew x o aw).r ?_)
 rintro _ aR ⟨ay, g, i, rfl⟩
 refine ⟨ag_nil, ?_⟩
 refine DL_q rfl rfl (Zm (v := Value.tuple #[Vi (p), Value.bool (q)]) rfl rfl ⟨rfl, ?_⟩)
 refine DL_q rfl rfl (Exec.extract (v := Vi (p)) rfl rfl rfl ⟨rfl, ?_⟩)
 refine DL_q rfl rfl (Exec.extract (v := Value.bool (q)) rfl rfl rfl ⟨rfl, ?_⟩)
 refine DL_q rfl rfl (Zo (v := Vi (p)) rfl rfl ⟨rfl, ?_⟩)
 refine DL_done (Za rfl rfl (Zo (v := Value.bool (q)) rfl rfl (Zb (Ze (Zc (Zc (Zd (Za rfl rfl (Zm (v := Value.bool (q)) rfl rfl (Za rfl rfl (Exec.not rfl rfl (Zb (Ze ?_)))))))))))))
 rcases ite_some hm with ⟨l, hm⟩ | ⟨l, hm⟩
 ·refine W_cond_t rfl l (Zc (Zd (Za rfl rfl (Zo (v := Vi (0)) rfl rfl (Za rfl rfl (Zo (v := Value.bool (false)) rfl rfl (Zb (Ze (W_ret (at_ret ?_))))))))))
  have aD := Zu hm
  subst r
  refine ⟨_, ret2 rfl, ?_⟩
  exact ⟨ay, g, ((i).drop).drop, (tup2 rfl rfl)⟩
 refine W_cond_f rfl l ?_
 replace l := Zk l
 refine W_skip (Ze (Zc (W_dl (n0 := 10) (qs 0 5 (.e 5 [] (qs 6 4 .done))) hmix (by kernel_rfl) (by kernel_rfl) (DL_q rfl rfl (Exec.load_box_agg (ds := [c, d]) ((i.drew).f1) A33 rfl rfl rfl ⟨rfl, ?_⟩)))))
 refine DL_q rfl rfl (Zp F102_2 rfl rfl rfl ⟨rfl, ?_⟩)
 refine DL_q rfl rfl (Zn (i.drew) A100 rfl rfl rfl ⟨rfl, ?_⟩)
 obtain ⟨aV, aq, hm⟩ := Zg hm
 refine DL_q rfl rfl (Exec.index_repE S100 rfl rfl rfl (y.mono g) aq ?_)
 intro a9 aJ ah aE
 refine ⟨rfl, ?_⟩
 refine DL_q rfl rfl (Zw (E := encGExpr) i.drew A102 rfl rfl rfl ah ?_)
 intro aO ar
 obtain ⟨aL, rfl, ax⟩ := encGExpr_val.1 ar
 refine ⟨rfl, ?_⟩
 obtain ⟨a2, au, hm⟩ := Zg hm
 obtain ⟨t, u⟩ := a2
 replace hm := un2_eq hm
 refine DL_e rfl rfl (Tc rfl rfl rfl (Zi rfl (Zi rfl args_nil)) (ih au i.drew (x.mono g) (o.mono g) ax).r ?_)
 rintro _ aS ⟨az, ac, z, rfl⟩
 refine ⟨ag_nil, ?_⟩
 refine DL_q rfl rfl (Zm (v := Value.tuple #[Vi (t), Value.bool (u)]) rfl rfl ⟨rfl, ?_⟩)
 refine DL_q rfl rfl (Exec.extract (v := Vi (t)) rfl rfl rfl ⟨rfl, ?_⟩)
 refine DL_q rfl rfl (Exec.extract (v := Value.bool (u)) rfl rfl rfl ⟨rfl, ?_⟩)
 refine DL_q rfl rfl (Zo (v := Vi (t)) rfl rfl ⟨rfl, ?_⟩)
 refine DL_done (Za rfl rfl (Zo (v := Value.bool (u)) rfl rfl (Zb (Ze (Zc (Zc (Zd (Za rfl rfl (Zm (v := Value.bool (u)) rfl rfl (Za rfl rfl (Exec.not rfl rfl (Zb (Ze ?_)))))))))))))
 rcases ite_some hm with ⟨m, hm⟩ | ⟨m, hm⟩
 ·refine W_cond_t rfl m (Zc (Zd (Za rfl rfl (Zo (v := Vi (0)) rfl rfl (Za rfl rfl (Zo (v := Value.bool (false)) rfl rfl (Zb (Ze (W_ret (at_ret ?_))))))))))
  have aF := Zu hm
  subst r
  refine ⟨_, ret2 rfl, ?_⟩
  exact ⟨az, (Zt g ac), ((z).drop).drop, (tup2 rfl rfl)⟩
 refine W_cond_f rfl m ?_
 replace m := Zk m
 refine W_skip (Ze (Zc (Zd (Za rfl rfl (Zp F102_0 rfl rfl rfl (Za rfl rfl (Zn (z) A9 rfl rfl rfl (Za rfl rfl (Zm (v := Vi (p)) rfl rfl (Za rfl rfl (Zm (v := Vi (t)) rfl rfl ?_)))))))))))
 obtain ⟨a3, av, hm⟩ := Zg hm
 obtain ⟨ad, ae⟩ := a3
 replace hm := un2_eq hm
 refine Za rfl rfl (Tc rfl rfl rfl (Zi rfl (Zi rfl (Zi rfl args_nil))) (ground_combine_sim av z ).r ?_)
 rintro _ aT ⟨a0, ak, aj, rfl⟩
 refine Za rfl rfl (Exec.extract (v := Vi (ad)) rfl rfl rfl (Za rfl rfl (Exec.extract (v := Value.bool (ae)) rfl rfl rfl (Za rfl rfl (Zo (v := Vi (ad)) rfl rfl (Za rfl rfl (Zo (v := Value.bool (ae)) rfl rfl (Zb (Ze (W_ret ?_))))))))))
 have aG := Zu hm
 subst r
 refine ⟨_, ret2 rfl, ?_⟩
 exact ⟨a0, (Zt (Zt g ac) ak), ((aj).drop).drop, (tup2 rfl rfl)⟩
theorem ground_value_sim {fu : Nat} : ∀ {w0 w : World} {s : PHeap} {H : List Res} {b : GState} {a : GExpr} {d : Value} {f : Value} {g : Value} {r : Int × Bool} (hm : ground_value_p fu b a = some r) (hS : St w0 s (H) w) (j : SliceRep (encInt .i64) s d b.True) (k : SliceRep (encInt .i64) s f b.Values) (l : SliceRep encGExpr s g a.Kids), Calls Tryz.prog 62 #[Value.agg #[d, f], Value.agg #[Value.string (a.Op), Vi (a.N), g]] w fun e w' => ∃ v, e = .returned v ∧ ((un2 fun (h : Int) (i : Bool) => ∃ (c : PHeap) , PHeap.le s c ∧ St w0 c (H) w' ∧ v = Value.tuple #[Vi (h), Value.bool (i)]) r) := by
 induction fu with
 | zero => intros; rename_i hm _ _ _ _; rw [ground_value_p] at hm; cases hm
 | succ fu ih => exact ground_value_step ih
theorem ground_test_sim {w0 w : World} {s : PHeap} {H : List Res} {fu : Nat} {ag : GState} {b : GTest} {y : Value} {z : Value} {ac : Value} {ad : Value} {r : Bool} (hm : ground_test_p fu ag b = some r) (hS : St w0 s (H) w) (ah : SliceRep (encInt .i64) s y ag.True) (ai : SliceRep (encInt .i64) s z ag.Values) (al : SliceRep encGExpr s ac b.A.Kids) (am : SliceRep encGExpr s ad b.B.Kids) :
  Calls Tryz.prog 68 #[Value.agg #[y, z], Value.agg #[Value.string (b.Op), Value.string (b.A.Op), Vi (b.A.N), ac, Value.string (b.B.Op), Vi (b.B.N), ad]] w fun e w' => ∃ v, e = .returned v ∧ ((fun (a0 : Bool) => ∃ (aj : PHeap) , PHeap.le s aj ∧ St w0 aj (H) w' ∧ v = Value.bool (a0)) r) := by
 unfold ground_test_p at hm
 refine calls_of_W Tryz.func68 rfl rfl (Zc (Zd (Za rfl rfl (Exec.box (cs := [y, z]) hS rfl rfl rfl ?_))))
 intro a1 a6 ao
 refine Za rfl rfl (Exec.box (cs := [Value.string (b.Op), Value.string (b.A.Op), Vi (b.A.N), ac, Value.string (b.B.Op), Vi (b.B.N), ad]) ao rfl rfl rfl ?_)
 intro a2 a7 ae
 refine Za rfl rfl (Zo (v := Value.bool (false)) rfl rfl (Zb (Ze (Zc (Zd (Za rfl rfl (Exec.load_box_agg (ds := [y, z]) ((ae).f1) A33 rfl rfl rfl (Za rfl rfl (Zp F104_1 rfl rfl rfl (Za rfl rfl (Exec.load_box_agg (ds := [Value.string (b.A.Op), Vi (b.A.N), ac]) (ae) A102 rfl rfl rfl ?_)))))))))))
 obtain ⟨ay, av, hm⟩ := Zg hm
 obtain ⟨c, aa⟩ := ay
 replace hm := un2_eq hm
 refine Za rfl rfl (Tc rfl rfl rfl (Zi rfl (Zi rfl args_nil)) (ground_value_sim av ae ah ai al).r ?_)
 rintro _ a8 ⟨a5, ab, af, rfl⟩
 refine Za rfl rfl (Zm (v := Value.tuple #[Vi (c), Value.bool (aa)]) rfl rfl (Za rfl rfl (Exec.extract (v := Vi (c)) rfl rfl rfl (Za rfl rfl (Exec.extract (v := Value.bool (aa)) rfl rfl rfl (Za rfl rfl (Zo (v := Vi (c)) rfl rfl (Za rfl rfl (Zo (v := Value.bool (aa)) rfl rfl (Zb (Ze (Zc (Zd (Za rfl rfl (Exec.load_box_agg (ds := [y, z]) ((af).f1) A33 rfl rfl rfl (Za rfl rfl (Zp F104_2 rfl rfl rfl (Za rfl rfl (Exec.load_box_agg (ds := [Value.string (b.B.Op), Vi (b.B.N), ad]) (af) A102 rfl rfl rfl ?_)))))))))))))))))))
 obtain ⟨az, aw, hm⟩ := Zg hm
 obtain ⟨d, x⟩ := az
 replace hm := un2_eq hm
 refine Za rfl rfl (Tc rfl rfl rfl (Zi rfl (Zi rfl args_nil)) (ground_value_sim aw af (ah.mono ab) (ai.mono ab) (am.mono ab)).r ?_)
 rintro _ a9 ⟨m, aq, g, rfl⟩
 refine Za rfl rfl (Zm (v := Value.tuple #[Vi (d), Value.bool (x)]) rfl rfl (Za rfl rfl (Exec.extract (v := Vi (d)) rfl rfl rfl (Za rfl rfl (Exec.extract (v := Value.bool (x)) rfl rfl rfl (Za rfl rfl (Zo (v := Vi (d)) rfl rfl (Za rfl rfl (Zo (v := Value.bool (x)) rfl rfl (Zb (Ze (Zc (W_mid (M := fun f' w' => ∃ (ak : PHeap) , PHeap.le m ak ∧ St w0 ak (H) w' ∧ f' 4 = Value.bool ((aa && (x && (bif (decide (b.Op = (⟨#[60]⟩))) then ((decide (c < d)) || (bif (decide (b.Op = (⟨#[60, 61]⟩))) then ((decide (c ≤ d)) || ((decide (b.Op = (⟨#[61]⟩))) && decide (c = d))) else ((decide (b.Op = (⟨#[61]⟩))) && decide (c = d)))) else (bif (decide (b.Op = (⟨#[60, 61]⟩))) then ((decide (c ≤ d)) || ((decide (b.Op = (⟨#[61]⟩))) && decide (c = d))) else ((decide (b.Op = (⟨#[61]⟩))) && decide (c = d)))))))) ?_ ?_)))))))))))))
 ·refine Zd (WL_passes 2 rfl ?_)
  by_cases h : aa = true
  ·refine WL_run rfl (Zf rfl (Zx h)) rfl (Zm (v := Value.bool (x)) rfl rfl ?_)
   refine WL_passes 2 (by rw [h]; rfl) ?_
   by_cases a : x = true
   ·refine WL_run rfl (Zf rfl (Zx a)) rfl (Zp F104_0 rfl rfl rfl (WL_run rfl (Zf rfl (Zx a)) rfl (Zn (g) A9 rfl rfl rfl (WL_run rfl (Zf rfl (Zx a)) rfl (Exec.str_eql rfl rfl rfl (WL_run rfl (Zf rfl (Zx a)) rfl (Zm (v := Value.bool (decide (b.Op = (⟨#[60]⟩)))) rfl rfl ?_)))))))
    by_cases i : (decide (b.Op = (⟨#[60]⟩))) = true
    ·refine WL_run rfl (Zf rfl (Zx i)) rfl (Zm (v := Vi (c)) rfl rfl (WL_run rfl (Zf rfl (Zx i)) rfl (Zm (v := Vi (d)) rfl rfl (WL_run rfl (Zf rfl (Zx i)) rfl (Zq rfl rfl rfl (WL_run rfl (Zf rfl (Zx a)) rfl (Zs (v := Value.bool (decide (c < d))) rfl (Zx i) rfl (WL_run rfl (Zf rfl (Zx a)) rfl (Zm (v := Value.bool (decide (c < d))) rfl rfl ?_)))))))))
     by_cases j : (decide (c < d)) = true
     ·refine WL_passes 8 (by rw [j]; rfl) ?_
      refine WL_run rfl (Zf rfl (Zx a)) rfl (Zs (v := Value.bool (true)) rfl rfl rfl (WL_run rfl (Zf rfl (Zx a)) rfl (Zm (v := Value.bool (true)) rfl rfl (WL_passes 8 rfl (WL_run rfl (Zf rfl (Zx a)) rfl (Zs (v := Value.bool (true)) rfl rfl rfl ?_))))))
      refine WL_passes 2 (by rw [a]; rfl) ?_
      refine Zb (Ze ?_)
      exact ⟨m, (Zv _), ((g).drop).drop, (Zx (Eq.trans (and_t h) (Eq.trans (and_t a) (Eq.trans (cnd_t i) (or_t j))))).symm⟩
     replace j := Zk j
     refine WL_run rfl (Zf rfl (Zx j)) rfl (Zp F104_0 rfl rfl rfl (WL_run rfl (Zf rfl (Zx j)) rfl (Zn (g) A9 rfl rfl rfl (WL_run rfl (Zf rfl (Zx j)) rfl (Exec.str_eql rfl rfl rfl (WL_run rfl (Zf rfl (Zx j)) rfl (Zm (v := Value.bool (decide (b.Op = (⟨#[60, 61]⟩)))) rfl rfl ?_)))))))
     by_cases n : (decide (b.Op = (⟨#[60, 61]⟩))) = true
     ·refine WL_run rfl (Zf rfl (Zx n)) rfl (Zm (v := Vi (c)) rfl rfl (WL_run rfl (Zf rfl (Zx n)) rfl (Zm (v := Vi (d)) rfl rfl (WL_run rfl (Zf rfl (Zx n)) rfl (Exec.leq rfl rfl rfl (WL_run rfl (Zf rfl (Zx j)) rfl (Zs (v := Value.bool (decide (c ≤ d))) rfl (Zx n) rfl (WL_run rfl (Zf rfl (Zx a)) rfl (Exec.pick_f (v := Value.bool (decide (c ≤ d))) rfl (Zx j) rfl (WL_run rfl (Zf rfl (Zx a)) rfl (Zm (v := Value.bool (decide (c ≤ d))) rfl rfl ?_)))))))))))
      by_cases k : (decide (c ≤ d)) = true
      ·refine WL_passes 8 (by rw [k]; rfl) ?_
       refine WL_run rfl (Zf rfl (Zx a)) rfl (Zs (v := Value.bool (true)) rfl rfl rfl ?_)
       refine WL_passes 2 (by rw [a]; rfl) ?_
       refine Zb (Ze ?_)
       exact ⟨m, (Zv _), ((g).drop).drop, (Zx (Eq.trans (and_t h) (Eq.trans (and_t a) (Eq.trans (cnd_t i) (Eq.trans (or_f j) (Eq.trans (cnd_t n) (or_t k))))))).symm⟩
      replace k := Zk k
      refine WL_run rfl (Zf rfl (Zx k)) rfl (Zp F104_0 rfl rfl rfl (WL_run rfl (Zf rfl (Zx k)) rfl (Zn (g) A9 rfl rfl rfl (WL_run rfl (Zf rfl (Zx k)) rfl (Exec.str_eql rfl rfl rfl (WL_run rfl (Zf rfl (Zx k)) rfl (Zm (v := Value.bool (decide (b.Op = (⟨#[61]⟩)))) rfl rfl ?_)))))))
      by_cases p : (decide (b.Op = (⟨#[61]⟩))) = true
      ·refine WL_run rfl (Zf rfl (Zx p)) rfl (Zm (v := Vi (c)) rfl rfl (WL_run rfl (Zf rfl (Zx p)) rfl (Zm (v := Vi (d)) rfl rfl (WL_run rfl (Zf rfl (Zx p)) rfl (Exec.eql rfl rfl rfl (WL_run rfl (Zf rfl (Zx k)) rfl (Zs (v := Value.bool (decide (c = d))) rfl (Zx p) rfl (WL_run rfl (Zf rfl (Zx a)) rfl (Exec.pick_f (v := Value.bool (decide (c = d))) rfl (Zx k) rfl ?_)))))))))
       refine WL_passes 2 (by rw [a]; rfl) ?_
       refine Zb (Ze ?_)
       exact ⟨m, (Zv _), ((g).drop).drop, (Zx (Eq.trans (and_t h) (Eq.trans (and_t a) (Eq.trans (cnd_t i) (Eq.trans (or_f j) (Eq.trans (cnd_t n) (Eq.trans (or_f k) (and_t p)))))))).symm⟩
      replace p := Zk p
      refine WL_passes 3 (by rw [p]; rfl) ?_
      refine WL_run rfl (Zf rfl (Zx k)) rfl (Exec.pick_f (v := Value.bool (false)) rfl rfl rfl (WL_run rfl (Zf rfl (Zx a)) rfl (Exec.pick_f (v := Value.bool (false)) rfl (Zx k) rfl ?_)))
      refine WL_passes 2 (by rw [a]; rfl) ?_
      refine Zb (Ze ?_)
      exact ⟨m, (Zv _), ((g).drop).drop, (Zx (Eq.trans (and_t h) (Eq.trans (and_t a) (Eq.trans (cnd_t i) (Eq.trans (or_f j) (Eq.trans (cnd_t n) (Eq.trans (or_f k) (and_f p)))))))).symm⟩
     replace n := Zk n
     refine WL_passes 3 (by rw [n]; rfl) ?_
     refine WL_run rfl (Zf rfl (Zx j)) rfl (Exec.pick_f (v := Value.bool (false)) rfl rfl rfl (WL_run rfl (Zf rfl (Zx a)) rfl (Exec.pick_f (v := Value.bool (false)) rfl (Zx j) rfl (WL_run rfl (Zf rfl (Zx a)) rfl (Zm (v := Value.bool (false)) rfl rfl (WL_run rfl (Zf rfl rfl) rfl (Zp F104_0 rfl rfl rfl (WL_run rfl (Zf rfl rfl) rfl (Zn (g) A9 rfl rfl rfl (WL_run rfl (Zf rfl rfl) rfl (Exec.str_eql rfl rfl rfl (WL_run rfl (Zf rfl rfl) rfl (Zm (v := Value.bool (decide (b.Op = (⟨#[61]⟩)))) rfl rfl ?_)))))))))))))
     by_cases q : (decide (b.Op = (⟨#[61]⟩))) = true
     ·refine WL_run rfl (Zf rfl (Zx q)) rfl (Zm (v := Vi (c)) rfl rfl (WL_run rfl (Zf rfl (Zx q)) rfl (Zm (v := Vi (d)) rfl rfl (WL_run rfl (Zf rfl (Zx q)) rfl (Exec.eql rfl rfl rfl (WL_run rfl (Zf rfl rfl) rfl (Zs (v := Value.bool (decide (c = d))) rfl (Zx q) rfl (WL_run rfl (Zf rfl (Zx a)) rfl (Exec.pick_f (v := Value.bool (decide (c = d))) rfl rfl rfl ?_)))))))))
      refine WL_passes 2 (by rw [a]; rfl) ?_
      refine Zb (Ze ?_)
      exact ⟨m, (Zv _), ((g).drop).drop, (Zx (Eq.trans (and_t h) (Eq.trans (and_t a) (Eq.trans (cnd_t i) (Eq.trans (or_f j) (Eq.trans (cnd_f n) (and_t q))))))).symm⟩
     replace q := Zk q
     refine WL_passes 3 (by rw [q]; rfl) ?_
     refine WL_run rfl (Zf rfl rfl) rfl (Exec.pick_f (v := Value.bool (false)) rfl rfl rfl (WL_run rfl (Zf rfl (Zx a)) rfl (Exec.pick_f (v := Value.bool (false)) rfl rfl rfl ?_)))
     refine WL_passes 2 (by rw [a]; rfl) ?_
     refine Zb (Ze ?_)
     exact ⟨m, (Zv _), ((g).drop).drop, (Zx (Eq.trans (and_t h) (Eq.trans (and_t a) (Eq.trans (cnd_t i) (Eq.trans (or_f j) (Eq.trans (cnd_f n) (and_f q))))))).symm⟩
    replace i := Zk i
    refine WL_passes 3 (by rw [i]; rfl) ?_
    refine WL_run rfl (Zf rfl (Zx a)) rfl (Exec.pick_f (v := Value.bool (false)) rfl rfl rfl (WL_run rfl (Zf rfl (Zx a)) rfl (Zm (v := Value.bool (false)) rfl rfl (WL_run rfl (Zf rfl rfl) rfl (Zp F104_0 rfl rfl rfl (WL_run rfl (Zf rfl rfl) rfl (Zn (g) A9 rfl rfl rfl (WL_run rfl (Zf rfl rfl) rfl (Exec.str_eql rfl rfl rfl (WL_run rfl (Zf rfl rfl) rfl (Zm (v := Value.bool (decide (b.Op = (⟨#[60, 61]⟩)))) rfl rfl ?_)))))))))))
    by_cases o : (decide (b.Op = (⟨#[60, 61]⟩))) = true
    ·refine WL_run rfl (Zf rfl (Zx o)) rfl (Zm (v := Vi (c)) rfl rfl (WL_run rfl (Zf rfl (Zx o)) rfl (Zm (v := Vi (d)) rfl rfl (WL_run rfl (Zf rfl (Zx o)) rfl (Exec.leq rfl rfl rfl (WL_run rfl (Zf rfl rfl) rfl (Zs (v := Value.bool (decide (c ≤ d))) rfl (Zx o) rfl (WL_run rfl (Zf rfl (Zx a)) rfl (Exec.pick_f (v := Value.bool (decide (c ≤ d))) rfl rfl rfl (WL_run rfl (Zf rfl (Zx a)) rfl (Zm (v := Value.bool (decide (c ≤ d))) rfl rfl ?_)))))))))))
     by_cases l : (decide (c ≤ d)) = true
     ·refine WL_passes 8 (by rw [l]; rfl) ?_
      refine WL_run rfl (Zf rfl (Zx a)) rfl (Zs (v := Value.bool (true)) rfl rfl rfl ?_)
      refine WL_passes 2 (by rw [a]; rfl) ?_
      refine Zb (Ze ?_)
      exact ⟨m, (Zv _), ((g).drop).drop, (Zx (Eq.trans (and_t h) (Eq.trans (and_t a) (Eq.trans (cnd_f i) (Eq.trans (cnd_t o) (or_t l)))))).symm⟩
     replace l := Zk l
     refine WL_run rfl (Zf rfl (Zx l)) rfl (Zp F104_0 rfl rfl rfl (WL_run rfl (Zf rfl (Zx l)) rfl (Zn (g) A9 rfl rfl rfl (WL_run rfl (Zf rfl (Zx l)) rfl (Exec.str_eql rfl rfl rfl (WL_run rfl (Zf rfl (Zx l)) rfl (Zm (v := Value.bool (decide (b.Op = (⟨#[61]⟩)))) rfl rfl ?_)))))))
     by_cases t : (decide (b.Op = (⟨#[61]⟩))) = true
     ·refine WL_run rfl (Zf rfl (Zx t)) rfl (Zm (v := Vi (c)) rfl rfl (WL_run rfl (Zf rfl (Zx t)) rfl (Zm (v := Vi (d)) rfl rfl (WL_run rfl (Zf rfl (Zx t)) rfl (Exec.eql rfl rfl rfl (WL_run rfl (Zf rfl (Zx l)) rfl (Zs (v := Value.bool (decide (c = d))) rfl (Zx t) rfl (WL_run rfl (Zf rfl (Zx a)) rfl (Exec.pick_f (v := Value.bool (decide (c = d))) rfl (Zx l) rfl ?_)))))))))
      refine WL_passes 2 (by rw [a]; rfl) ?_
      refine Zb (Ze ?_)
      exact ⟨m, (Zv _), ((g).drop).drop, (Zx (Eq.trans (and_t h) (Eq.trans (and_t a) (Eq.trans (cnd_f i) (Eq.trans (cnd_t o) (Eq.trans (or_f l) (and_t t))))))).symm⟩
     replace t := Zk t
     refine WL_passes 3 (by rw [t]; rfl) ?_
     refine WL_run rfl (Zf rfl (Zx l)) rfl (Exec.pick_f (v := Value.bool (false)) rfl rfl rfl (WL_run rfl (Zf rfl (Zx a)) rfl (Exec.pick_f (v := Value.bool (false)) rfl (Zx l) rfl ?_)))
     refine WL_passes 2 (by rw [a]; rfl) ?_
     refine Zb (Ze ?_)
     exact ⟨m, (Zv _), ((g).drop).drop, (Zx (Eq.trans (and_t h) (Eq.trans (and_t a) (Eq.trans (cnd_f i) (Eq.trans (cnd_t o) (Eq.trans (or_f l) (and_f t))))))).symm⟩
    replace o := Zk o
    refine WL_passes 3 (by rw [o]; rfl) ?_
    refine WL_run rfl (Zf rfl rfl) rfl (Exec.pick_f (v := Value.bool (false)) rfl rfl rfl (WL_run rfl (Zf rfl (Zx a)) rfl (Exec.pick_f (v := Value.bool (false)) rfl rfl rfl (WL_run rfl (Zf rfl (Zx a)) rfl (Zm (v := Value.bool (false)) rfl rfl (WL_run rfl (Zf rfl rfl) rfl (Zp F104_0 rfl rfl rfl (WL_run rfl (Zf rfl rfl) rfl (Zn (g) A9 rfl rfl rfl (WL_run rfl (Zf rfl rfl) rfl (Exec.str_eql rfl rfl rfl (WL_run rfl (Zf rfl rfl) rfl (Zm (v := Value.bool (decide (b.Op = (⟨#[61]⟩)))) rfl rfl ?_)))))))))))))
    by_cases u : (decide (b.Op = (⟨#[61]⟩))) = true
    ·refine WL_run rfl (Zf rfl (Zx u)) rfl (Zm (v := Vi (c)) rfl rfl (WL_run rfl (Zf rfl (Zx u)) rfl (Zm (v := Vi (d)) rfl rfl (WL_run rfl (Zf rfl (Zx u)) rfl (Exec.eql rfl rfl rfl (WL_run rfl (Zf rfl rfl) rfl (Zs (v := Value.bool (decide (c = d))) rfl (Zx u) rfl (WL_run rfl (Zf rfl (Zx a)) rfl (Exec.pick_f (v := Value.bool (decide (c = d))) rfl rfl rfl ?_)))))))))
     refine WL_passes 2 (by rw [a]; rfl) ?_
     refine Zb (Ze ?_)
     exact ⟨m, (Zv _), ((g).drop).drop, (Zx (Eq.trans (and_t h) (Eq.trans (and_t a) (Eq.trans (cnd_f i) (Eq.trans (cnd_f o) (and_t u)))))).symm⟩
    replace u := Zk u
    refine WL_passes 3 (by rw [u]; rfl) ?_
    refine WL_run rfl (Zf rfl rfl) rfl (Exec.pick_f (v := Value.bool (false)) rfl rfl rfl (WL_run rfl (Zf rfl (Zx a)) rfl (Exec.pick_f (v := Value.bool (false)) rfl rfl rfl ?_)))
    refine WL_passes 2 (by rw [a]; rfl) ?_
    refine Zb (Ze ?_)
    exact ⟨m, (Zv _), ((g).drop).drop, (Zx (Eq.trans (and_t h) (Eq.trans (and_t a) (Eq.trans (cnd_f i) (Eq.trans (cnd_f o) (and_f u)))))).symm⟩
   replace a := Zk a
   refine WL_passes 30 (by rw [a]; rfl) ?_
   refine Zb (Ze ?_)
   exact ⟨m, (Zv _), ((g).drop).drop, (Zx (Eq.trans (and_t h) (and_f a))).symm⟩
  replace h := Zk h
  refine WL_passes 33 (by rw [h]; rfl) ?_
  refine Zb (Ze ?_)
  exact ⟨m, (Zv _), ((g).drop).drop, (Zx (and_f h)).symm⟩
 intro a4 aA an
 obtain ⟨ax, ar, ap, au⟩ := an
 refine (Ze (W_ret ?_))
 have a3 := Zu hm
 subst r
 refine ⟨_, ret1 rfl, ?_⟩
 exact ⟨ax, (Zt (Zt ab aq) ar), ap, au⟩
theorem N67 : (Tryz.f67.name == "runtime.NumGoroutine") = false := by kernel_rfl
theorem ground_holds_c3_sim {w0 w : World} {s : PHeap} {H : List Res} {fu : Nat} {a : GTest} {g : GState} {b : Value} {c : Value} {f h : Nat} {r : Bool} (hm : ground_holds_c3_p fu a g = some r) (hS : St w0 s (H) w) (j : SliceRep encGExpr s b a.A.Kids) (k : SliceRep encGExpr s c a.B.Kids) (l : At s f h encGState g) :
  Calls Tryz.prog 67 #[Value.agg #[Value.string (a.Op), Value.string (a.A.Op), Vi (a.A.N), b, Value.string (a.B.Op), Vi (a.B.N), c], Value.pointer (some ⟨f, h, none⟩)] w fun e w' => ∃ v, e = .returned v ∧ ((fun (x : Bool) => ∃ (i : PHeap) , PHeap.le s i ∧ St w0 i (H) w' ∧ v = Value.bool (x)) r) := by
 unfold ground_holds_c3_p at hm
 refine calls_of_W Tryz.func67 rfl rfl (Zc (Zd (Za rfl rfl (Exec.box (cs := [Value.string (a.Op), Value.string (a.A.Op), Vi (a.A.N), b, Value.string (a.B.Op), Vi (a.B.N), c]) hS rfl rfl rfl ?_))))
 intro z ae d
 refine Za rfl rfl (Zo (v := Value.bool (false)) rfl rfl (Zb (Ze (Zc (Zd (Za rfl rfl (Zw (E := encGState) d A33 rfl rfl rfl l ?_)))))))
 intro ad o
 obtain ⟨ab, ac, rfl, q, t⟩ := encGState_val.1 o
 refine Za rfl rfl (Exec.load_box_agg (ds := [Value.string (a.Op), Value.string (a.A.Op), Vi (a.A.N), b, Value.string (a.B.Op), Vi (a.B.N), c]) (d) A104 rfl rfl rfl ?_)
 obtain ⟨y, p, hm⟩ := Zg hm
 refine Za rfl rfl (Tc rfl rfl rfl (Zi rfl (Zi rfl args_nil)) (ground_test_sim p d q t j k).r ?_)
 rintro _ af ⟨u, n, m, rfl⟩
 refine Za rfl rfl (Exec.not rfl rfl (Za rfl rfl (Zo (v := Value.bool (!y)) rfl rfl (Zb (Ze (W_ret ?_))))))
 have aa := Zu hm
 subst r
 refine ⟨_, ret1 rfl, ?_⟩
 exact ⟨u, n, (m).drop, rfl⟩
theorem slices_IndexFunc_apiGTest_holds_c3_sim {w0 w : World} {s : PHeap} {H : List Res} {fu : Nat} {l : (List GTest)} {o : GState} {c : Value} {d i : Nat} {r : Int} (hm : slices_IndexFunc_apiGTest_holds_c3_p fu l o = some r) (hS : St w0 s (H) w) (m : SliceRep encGTest s c l) (ah : At s d i encGState o) :
  Calls Tryz.prog 84 #[c, Value.func (.func 67) #[] #[Value.pointer (some ⟨d, i, none⟩)]] w fun e w' => ∃ v, e = .returned v ∧ ((fun (aA : Int) => ∃ (ad : PHeap) , PHeap.le s ad ∧ St w0 ad (H) w' ∧ v = Vi (aA)) r) := by
 unfold slices_IndexFunc_apiGTest_holds_c3_p at hm
 refine calls_of_W Tryz.func84 rfl rfl (Zc (Zd (Za rfl rfl (Zo (v := Vi (0)) rfl rfl (Zb (Ze (Zc (Zc (Zd (Za rfl rfl (Zm (v := c) rfl rfl (Za rfl rfl (Zr S57 rfl rfl m (Za rfl rfl (Zm (v := Vi (0)) rfl rfl (Zb (Ze ?_)))))))))))))))))
 obtain ⟨p, aj, av, ar, ap⟩ := ctl_some hm
 refine W_mid (M := fun f' w' => ∃ s', (p = .next s' ∨ p = .brk s') ∧ (fun (_ : Unit) => ∃ (ae : PHeap) , PHeap.le s ae ∧ St w0 ae (H) w' ∧ f' 0 = c ∧ f' 1 = Value.func (.func 67) #[] #[Value.pointer (some ⟨d, i, none⟩)] ∧ f' 7 = Vi ((l.length : Int))) s') ?_ ?_
 ·refine W_block (W_forC (fun k' s' f' w' => (fun (_ : Unit) => ∃ (af : PHeap) , PHeap.le s af ∧ St w0 af (H) w' ∧ f' 0 = c ∧ f' 1 = Value.func (.func 67) #[] #[Value.pointer (some ⟨d, i, none⟩)] ∧ f' 7 = Vi ((l.length : Int)) ∧ f' 8 = Vi (k' : Int)) s') aj ?_ ?_ ?_)
  ·exact ⟨s, (Zv _), hS, rfl, rfl, rfl, rfl⟩
  ·intro b aO q aG aU aq ak a aw
   obtain ⟨aN, j, t, z, aa, ab, n⟩ := ak
   refine Zc (Zd (Za rfl rfl (Zq rfl n ab (Zb (Ze (Zc (W_true (Zx (decide_eq_true (by omega))) (W_skip (Ze (Zc (W_block (Zc (Zd (Za rfl rfl (Zm (v := Vi ((b : Int))) rfl n (Za rfl rfl (Zo (v := Vi ((b : Int))) rfl rfl (Zb (Ze (Zc (Zd (Za rfl rfl (Zm (v := Value.func (.func 67) #[] #[Value.pointer (some ⟨d, i, none⟩)]) rfl aa (Za rfl rfl (Zm (v := c) rfl z (Za rfl rfl (Zm (v := Vi ((b : Int))) rfl rfl ?_)))))))))))))))))))))))))))
   obtain ⟨aY, a2, a⟩ := Zg a
   refine Za rfl rfl (Exec.index_rep S57 rfl rfl rfl (m.mono j) a2 ?_)
   intro aB aJ ai
   refine Za rfl rfl (Zw (E := encGTest) t A104 rfl rfl rfl ai ?_)
   intro aT a3
   obtain ⟨aR, aS, rfl, a5, a6⟩ := encGTest_val.1 a3
   obtain ⟨aZ, a4, a⟩ := Zg a
   refine Za rfl rfl (Exec.callc rfl rfl Tryz.func67 rfl N67 (Zi rfl args_nil) rfl ((ground_holds_c3_sim a4 t a5 a6 (ah.mono j)).mono ?_))
   rintro _ aV ⟨_, rfl, ⟨ag, y, u, rfl⟩⟩
   refine ⟨_, rfl, ?_⟩
   refine Zb (Ze ?_)
   rcases ite_some a with ⟨g, a⟩ | ⟨g, a⟩
   ·refine W_cond_t rfl g (Zc (Zd (Za rfl rfl (Zm (v := Vi ((b : Int))) rfl rfl (Za rfl rfl (Zo (v := Vi ((b : Int))) rfl rfl (Zb (Ze (W_ret (ib_ret (at_ret (at_ret (ib_ret (at_ret (at_ret ?_)))))))))))))))
    have aC := Zu a
    subst q
    have au := av _ (aw (by intro _ h; cases h))
    have aD := Zu au
    subst r
    refine ⟨_, ret1 rfl, ?_⟩
    exact ⟨ag, (Zt j y), u, rfl⟩
   refine W_cond_f rfl g ?_
   replace g := Zk g
   refine W_skip (ib_normal (Ze (Zd (Za rfl rfl (Exec.add rfl n rfl (Za rfl rfl (Zm (v := Vi (IntKind.i64.wrap ((b : Int) + 1))) rfl rfl (Zb (Ze ?_)))))))))
   have aE := Zu a
   subst q
   refine ⟨_, rfl, ?_⟩; exact ⟨ag, (Zt j y), u, z, aa, ab, (Eq.trans rfl (wrap_up aq (SliceRep.le m)))⟩
  intro aP aH aW al ax
  obtain ⟨a7, ay, an, a0, a1, ac, a9⟩ := al
  refine Zc (Zd (Za rfl rfl (Zq rfl a9 ac (Zb (Ze (Zc (W_false (Zx (decide_eq_false (by omega))) (W_exit (at_exit (at_exit (ib_here (Ze ?_))))))))))))
  refine ⟨_, .inl ax, ?_⟩; exact ⟨a7, ay, an, a0, a1, ac⟩
 rintro aI aX ⟨aQ, x, am⟩
 have hm := x.elim (ar _) (ap _)
 clear x
 obtain ⟨a8, az, ao, aK, aL, aM⟩ := am
 refine (Ze (Zc (Zd (Za rfl rfl (Zo (v := Vi ((-1))) rfl rfl (Zb (Ze (W_ret ?_))))))))
 have aF := Zu hm
 subst r
 refine ⟨_, ret1 rfl, ?_⟩
 exact ⟨a8, az, ao, rfl⟩
theorem slices_ContainsFunc_apiGTest_holds_c3_sim {w0 w : World} {s : PHeap} {H : List Res} {fu : Nat} {g : (List GTest)} {d : GState} {c : Value} {a b : Nat} {r : Bool} (hm : slices_ContainsFunc_apiGTest_holds_c3_p fu g d = some r) (hS : St w0 s (H) w) (h : SliceRep encGTest s c g) (i : At s a b encGState d) :
  Calls Tryz.prog 66 #[c, Value.func (.func 67) #[] #[Value.pointer (some ⟨a, b, none⟩)]] w fun e w' => ∃ v, e = .returned v ∧ ((fun (n : Bool) => ∃ (f : PHeap) , PHeap.le s f ∧ St w0 f (H) w' ∧ v = Value.bool (n)) r) := by
 unfold slices_ContainsFunc_apiGTest_holds_c3_p at hm
 refine calls_of_W Tryz.func66 rfl rfl (Zc (Zd (Za rfl rfl (Zo (v := Value.bool (false)) rfl rfl (Zb (Ze (Zc (Zd (Za rfl rfl (Zm (v := c) rfl rfl (Za rfl rfl (Zm (v := Value.func (.func 67) #[] #[Value.pointer (some ⟨a, b, none⟩)]) rfl rfl ?_))))))))))))
 obtain ⟨o, l, hm⟩ := Zg hm
 refine Za rfl rfl (Tc rfl rfl rfl (Zi rfl (Zi rfl args_nil)) (slices_IndexFunc_apiGTest_holds_c3_sim l hS h i).r ?_)
 rintro _ q ⟨m, k, j, rfl⟩
 refine Za rfl rfl (Exec.geq rfl rfl rfl (Za rfl rfl (Zo (v := Value.bool (decide (0 ≤ o))) rfl rfl (Zb (Ze (W_ret ?_))))))
 have p := Zu hm
 subst r
 refine ⟨_, ret1 rfl, ?_⟩
 exact ⟨m, k, j, rfl⟩
theorem ground_holds_sim {w0 w : World} {s : PHeap} {H : List Res} {fu : Nat} {l : GState} {h : Cond} {m : Value} {n : Value} {q : Value} {t : Value} {u : Value} {r : Bool} (hm : ground_holds_p fu l h = some r) (hS : St w0 s (H) w) (ac : SliceRep (encInt .i64) s m l.True) (ad : SliceRep (encInt .i64) s n l.Values) (ae : SliceRep (encInt .i64) s q h.Pos) (af : SliceRep (encInt .i64) s t h.Neg) (ag : SliceRep encGTest s u h.Tests) :
  Calls Tryz.prog 42 #[Value.agg #[m, n], Value.agg #[q, t, u]] w fun e w' => ∃ v, e = .returned v ∧ ((fun (a1 : Bool) => ∃ (aa : PHeap) , PHeap.le s aa ∧ St w0 aa (H) w' ∧ v = Value.bool (a1)) r) := by
 unfold ground_holds_p at hm
 refine calls_of_W Tryz.func42 rfl rfl (Zc (Zd (Za rfl rfl (Exec.box (cs := [m, n]) hS rfl rfl rfl ?_))))
 intro x aA ai
 refine Za rfl rfl (Exec.box (cs := [q, t, u]) ai rfl rfl rfl ?_)
 intro a3 aB aj
 refine Za rfl rfl (Zo (v := Value.bool (false)) rfl rfl (Zb (Ze (Zc (Zd ?_)))))
 obtain ⟨aw, j, ak, p⟩ := St.freezeVar (E := encGState) (y := l) (aj).f1 ⟨[m], [n], rfl, ⟨_, rfl, ac⟩, ⟨_, rfl, ad⟩⟩
 refine Za rfl rfl (Exec.makeFunc rfl (Zi rfl args_nil) (Za rfl rfl (Exec.alloc (cs := [Value.nilFunc]) ak Z113 rfl rfl ?_)))
 intro a4 aC al
 refine Za rfl rfl (Exec.store_box (ds := [Value.func (.func 63) #[] #[Value.pointer (some ⟨x, 0, none⟩)]]) (es := [Value.func (.func 63) #[] #[Value.pointer (some ⟨x, 0, none⟩)]]) al A113 rfl rfl rfl rfl (Zj rfl one_nil) (Nat.le_of_ble_eq_true rfl) rfl ?_)
 intro aD z
 refine Zb (Ze (Zc ?_))
 obtain ⟨g, a, hm⟩ := Zg hm
 refine W_mid (M := fun f' w' => (fun (g : Bool) => ∃ (ab : PHeap) , PHeap.le aw ab ∧ St w0 ab (H) w' ∧ f' 4 = Value.bool (g)) g) ?_ ?_
 ·refine Zd (Za rfl rfl (Zp F59_0 rfl rfl rfl (Za rfl rfl (Zn ((z).f1) A24 rfl rfl rfl (Za rfl rfl (Exec.makeFunc rfl (Zi rfl args_nil) ?_))))))
  obtain ⟨a2, ar, a⟩ := Zg a
  refine Za rfl rfl (Tc rfl rfl rfl (Zi rfl (Zi rfl args_nil)) (slices_ContainsFunc_int_holds_c2_sim ar z (ae.mono j) p).r ?_)
  rintro _ aE ⟨ax, d, i, rfl⟩
  refine Za rfl rfl (Exec.not rfl rfl (Za rfl rfl (Zm (v := Value.bool (!a2)) rfl rfl ?_)))
  rcases ite_some a with ⟨b, a⟩ | ⟨b, a⟩
  ·refine WL_run rfl (Zf rfl (Zx b)) rfl (Zp F59_1 rfl rfl rfl (WL_run rfl (Zf rfl (Zx b)) rfl (Zn ((i).f1) A24 rfl rfl rfl (WL_run rfl (Zf rfl (Zx b)) rfl (Zn (i) A113 rfl rfl rfl ?_)))))
   obtain ⟨aI, au, a⟩ := Zg a
   refine WL_run rfl (Zf rfl (Zx b)) rfl (Tc rfl rfl rfl (Zi rfl (Zi rfl args_nil)) (slices_ContainsFunc_int_holds_c1_sim au i (af.mono (Zt j d)) (p.mono d)).r ?_)
   rintro _ aF ⟨ay, k, o, rfl⟩
   refine WL_run rfl (Zf rfl (Zx b)) rfl (Exec.not rfl rfl ?_)
   refine WL_passes 2 (by rw [b]; rfl) ?_
   rcases ite_some a with ⟨c, a⟩ | ⟨c, a⟩
   ·refine WL_run rfl (Zf rfl (Zx c)) rfl (Zp F59_2 rfl rfl rfl (WL_run rfl (Zf rfl (Zx c)) rfl (Zn ((o).f1) A57 rfl rfl rfl (WL_run rfl (Zf rfl (Zx c)) rfl (Exec.makeFunc rfl (Zi rfl args_nil) ?_)))))
    obtain ⟨aJ, av, a⟩ := Zg a
    refine WL_run rfl (Zf rfl (Zx c)) rfl (Tc rfl rfl rfl (Zi rfl (Zi rfl args_nil)) (slices_ContainsFunc_apiGTest_holds_c3_sim av o (ag.mono (Zt (Zt j d) k)) (p.mono (Zt d k))).r ?_)
    rintro _ aG ⟨az, ao, am, rfl⟩
    refine WL_run rfl (Zf rfl (Zx c)) rfl (Exec.not rfl rfl ?_)
    refine WL_passes 2 (by rw [c]; rfl) ?_
    refine Zb (Ze ?_)
    have a5 := Zu a
    subst g
    exact ⟨az, (Zt (Zt d k) ao), ((am).drop).drop, rfl⟩
   replace c := Zk c
   refine WL_passes 7 (by rw [c]; rfl) ?_
   refine Zb (Ze ?_)
   have a6 := Zu a
   subst g
   exact ⟨ay, (Zt d k), ((o).drop).drop, rfl⟩
  replace b := Zk b
  refine WL_passes 14 (by rw [b]; rfl) ?_
  refine Zb (Ze ?_)
  have a7 := Zu a
  subst g
  exact ⟨ax, d, ((i).drop).drop, rfl⟩
 intro a9 aH ah
 obtain ⟨a0, ap, an, aq⟩ := ah
 refine (Ze (W_ret ?_))
 have a8 := Zu hm
 subst r
 refine ⟨_, ret1 rfl, ?_⟩
 exact ⟨a0, (Zt j ap), an, aq⟩
theorem ground_assigned_sim {w0 w : World} {s : PHeap} {H : List Res} {fu : Nat} {af : Ground} {aL : GState} {n : Int} {y : Value} {z : Value} {aa : Value} {ab : Value} {ac : Value} {q : Value} {t : Value} {r : (List Int) × (Option Int)} (hm : ground_assigned_p fu af aL n = some r) (hS : St w0 s (H) w) (aQ : SliceRep encAtom s y af.Atoms) (av : SliceRep encGFluent s z af.Fluents) (aR : SliceRep (encInt .i64) s aa af.Init) (aS : SliceRep encCond s ab af.Goal) (aw : SliceRep encGOp s ac af.Ops) (aC : SliceRep (encInt .i64) s q aL.True) (ax : SliceRep (encInt .i64) s t aL.Values) :
  Calls Tryz.prog 41 #[Value.agg #[y, z, aa, ab, ac], Value.agg #[q, t], Vi (n)] w fun e w' => ∃ v, e = .returned v ∧ ((un2 fun (cy : (List Int)) (cz : (Option Int)) => ∃ (aJ : PHeap) (bt : Value), PHeap.le s aJ ∧ St w0 aJ (H) w' ∧ v = Value.tuple #[bt, errV 45 (cz)] ∧ SliceRep (encInt .i64) aJ bt cy) r) := by
 unfold ground_assigned_p at hm
 refine calls_of_W Tryz.func41 rfl rfl (Zc (Zd (Za rfl rfl (Exec.box (cs := [y, z, aa, ab, ac]) hS rfl rfl rfl ?_))))
 intro ad da b5
 refine Za rfl rfl (Exec.box (cs := [q, t]) b5 rfl rfl rfl ?_)
 intro ae db aX
 refine Za rfl rfl (Zo (v := Value.slice none 0 0) rfl rfl (Za rfl rfl (Zo (v := errV 45 (none)) rfl rfl (Zb (Ze (Zc (Zc (Zd (Za rfl rfl (Exec.load_box_agg (ds := [y, z, aa, ab, ac]) ((aX).f1) A28 rfl rfl rfl ?_))))))))))
 obtain ⟨du, ca, hm⟩ := Zg hm
 refine Za rfl rfl (Tc rfl rfl rfl (Zi rfl args_nil) (ground_Valid_sim ca aX aQ av aR aS aw).r ?_)
 rintro _ dc ⟨a9, a, ay, rfl⟩
 refine Za rfl rfl (Exec.not rfl rfl (Zb (Ze ?_)))
 rcases ite_some hm with ⟨ak, hm⟩ | ⟨ak, hm⟩
 ·refine W_cond_t rfl ak (Zc (Zd (Za rfl rfl (Exec.makeInterface C45 rfl rfl (Za rfl rfl (Zo (v := Value.slice none 0 0) rfl rfl (Za rfl rfl (Zo (v := errV 45 (some 2)) rfl rfl (Zb (Ze (W_ret (at_ret ?_))))))))))))
  have c6 := Zu hm
  subst r
  refine ⟨_, ret2 rfl, ?_⟩
  exact ⟨a9, (Value.slice none 0 0), a, ((ay).drop).drop, (tup2 rfl rfl), (SliceRep.nil _ _)⟩
 refine W_cond_f rfl ak ?_
 replace ak := Zk ak
 refine W_skip (Ze (Zc (Zc (W_mid (M := fun f' w' => ∃ (bn : PHeap) , PHeap.le a9 bn ∧ St w0 bn (Res.box ad 28 [y, z, aa, ab, ac] :: Res.box ae 33 [q, t] :: H) w' ∧ f' 2 = Vi (n) ∧ f' 3 = Value.pointer (some ⟨ad, 0, none⟩) ∧ f' 4 = Value.pointer (some ⟨ae, 0, none⟩) ∧ f' 26 = Value.bool (((decide (n < 0)) || decide ((af.Ops.length : Int) ≤ n)))) ?_ ?_))))
 ·refine Zd (Za rfl rfl (Zm (v := Vi (n)) rfl rfl (Za rfl rfl (Zq rfl rfl rfl (Za rfl rfl (Zm (v := Value.bool (decide (n < 0))) rfl rfl ?_))))))
  by_cases j : (decide (n < 0)) = true
  ·refine WL_passes 6 (by rw [j]; rfl) ?_
   refine Zb (Ze ?_)
   exact ⟨a9, (Zv _), (ay).f1, rfl, rfl, rfl, (Zx (or_t j)).symm⟩
  replace j := Zk j
  refine WL_run rfl (Zf rfl (Zx j)) rfl (Zm (v := Vi (n)) rfl rfl (WL_run rfl (Zf rfl (Zx j)) rfl (Zp F28_4 rfl rfl rfl (WL_run rfl (Zf rfl (Zx j)) rfl (Zn ((ay).f1) A26 rfl rfl rfl (WL_run rfl (Zf rfl (Zx j)) rfl (Zr S26 rfl rfl (aw.mono a) (WL_run rfl (Zf rfl (Zx j)) rfl (Exec.geq rfl rfl rfl (Za rfl rfl (Exec.pick_f (v := Value.bool (decide ((af.Ops.length : Int) ≤ n))) rfl (Zx j) rfl (Zb (Ze ?_)))))))))))))
  exact ⟨a9, (Zv _), (ay).f1, rfl, rfl, rfl, (Zx (or_f j)).symm⟩
 intro cH dd b2
 obtain ⟨co, b, az, bN, aG, a4, be⟩ := b2
 refine (Ze ?_)
 rcases ite_some hm with ⟨al, hm⟩ | ⟨al, hm⟩
 ·refine W_cond_t be al (Zc (Zd (Za rfl rfl (Exec.makeInterface C45 rfl rfl (Za rfl rfl (Zo (v := Value.slice none 0 0) rfl rfl (Za rfl rfl (Zo (v := errV 45 (some 1)) rfl rfl (Zb (Ze (W_ret (at_ret ?_))))))))))))
  have c7 := Zu hm
  subst r
  refine ⟨_, ret2 rfl, ?_⟩
  exact ⟨co, (Value.slice none 0 0), (Zt a b), ((az).drop).drop, (tup2 rfl rfl), (SliceRep.nil _ _)⟩
 refine W_cond_f be al ?_
 replace al := Zk al
 refine W_skip (Ze (Zc (Zc (Zd (Za rfl rfl (Exec.load_box_agg (ds := [y, z, aa, ab, ac]) (az) A28 rfl aG rfl (Za rfl rfl (Exec.load_box_agg (ds := [q, t]) ((az).f1) A33 rfl a4 rfl ?_))))))))
 obtain ⟨dv, cb, hm⟩ := Zg hm
 refine Za rfl rfl (Tc rfl rfl rfl (Zi rfl (Zi rfl args_nil)) (ground_proper_sim cb az (aQ.mono (Zt a b)) (av.mono (Zt a b)) (aR.mono (Zt a b)) (aS.mono (Zt a b)) (aw.mono (Zt a b)) (aC.mono (Zt a b)) (ax.mono (Zt a b))).r ?_)
 rintro _ de ⟨cp, i, a0, rfl⟩
 refine Za rfl rfl (Exec.not rfl rfl (Zb (Ze ?_)))
 rcases ite_some hm with ⟨am, hm⟩ | ⟨am, hm⟩
 ·refine W_cond_t rfl am (Zc (Zd (Za rfl rfl (Exec.makeInterface C45 rfl rfl (Za rfl rfl (Zo (v := Value.slice none 0 0) rfl rfl (Za rfl rfl (Zo (v := errV 45 (some 2)) rfl rfl (Zb (Ze (W_ret (at_ret ?_))))))))))))
  have c8 := Zu hm
  subst r
  refine ⟨_, ret2 rfl, ?_⟩
  exact ⟨cp, (Value.slice none 0 0), (Zt (Zt a b) i), ((a0).drop).drop, (tup2 rfl rfl), (SliceRep.nil _ _)⟩
 refine W_cond_f rfl am ?_
 replace am := Zk am
 refine W_skip (Ze (Zc (Zd (Za rfl rfl (Zp F28_4 rfl aG rfl (Za rfl rfl (Zn (a0) A26 rfl rfl rfl (Za rfl rfl (Zm (v := Vi (n)) rfl bN ?_)))))))))
 obtain ⟨ai, cc, hm⟩ := Zg hm
 refine Za rfl rfl (Exec.index_rep S26 rfl rfl rfl (aw.mono (Zt (Zt a b) i)) cc ?_)
 intro c0 cO bu
 refine Za rfl rfl (Zw (E := encGOp) a0 A63 rfl rfl rfl bu ?_)
 intro cY cd
 obtain ⟨aM, aN, aO, bs, aq, rfl, bj, bk, bl, cm, a8⟩ := encGOp_val.1 cd
 refine Za rfl rfl (Exec.alloc (cs := [Value.string (⟨#[]⟩), Vi (0), Value.slice none 0 0, Value.slice none 0 0, Value.slice none 0 0, Value.slice none 0 0, Value.slice none 0 0]) a0 Z63 rfl rfl ?_)
 intro c1 df b6
 refine Za rfl rfl (Exec.store_box (ds := [Value.string (ai.Name), Vi (ai.Cost), aM, aN, aO, bs, aq]) (es := [Value.string (ai.Name), Vi (ai.Cost), aM, aN, aO, bs, aq]) b6 A63 rfl rfl rfl rfl (Zj rfl (Zj rfl (Zj (bj).one (Zj (bk).one (Zj (bl).one (Zj (cm).one (Zj (a8).one one_nil))))))) (Nat.le_of_ble_eq_true rfl) rfl ?_)
 intro dg aD
 refine Zb (Ze (Zc (Zc (Zd (Za rfl rfl (Exec.load_box_agg (ds := [q, t]) ((aD).f2) A33 rfl a4 rfl (Za rfl rfl (Zp F63_2 rfl rfl rfl (Za rfl rfl (Exec.load_box_agg (ds := [aM, aN, aO]) (aD) A59 rfl rfl rfl ?_))))))))))
 obtain ⟨dw, ce, hm⟩ := Zg hm
 refine Za rfl rfl (Tc rfl rfl rfl (Zi rfl (Zi rfl args_nil)) (ground_holds_sim ce aD (aC.mono (Zt (Zt a b) i)) (ax.mono (Zt (Zt a b) i)) bj bk bl).r ?_)
 rintro _ dh ⟨cq, m, aE, rfl⟩
 refine Za rfl rfl (Exec.not rfl rfl (Zb (Ze ?_)))
 rcases ite_some hm with ⟨an, hm⟩ | ⟨an, hm⟩
 ·refine W_cond_t rfl an (Zc (Zd (Za rfl rfl (Exec.makeInterface C45 rfl rfl (Za rfl rfl (Zo (v := Value.slice none 0 0) rfl rfl (Za rfl rfl (Zo (v := errV 45 (some 12)) rfl rfl (Zb (Ze (W_ret (at_ret ?_))))))))))))
  have c9 := Zu hm
  subst r
  refine ⟨_, ret2 rfl, ?_⟩
  exact ⟨cq, (Value.slice none 0 0), (Zt (Zt (Zt a b) i) m), (((aE).drop).drop).drop, (tup2 rfl rfl), (SliceRep.nil _ _)⟩
 refine W_cond_f rfl an ?_
 replace an := Zk an
 refine W_skip (Ze (Zc (Zd (Za rfl rfl (Zp F33_1 rfl a4 rfl (Za rfl rfl (Zn ((aE).f2) A24 rfl rfl rfl ?_)))))))
 obtain ⟨dx, cf, hm⟩ := Zg hm
 refine Za rfl rfl (Tc rfl rfl rfl (Zi rfl args_nil) (slices_Clone_int_sim cf aE (ax.mono (Zt (Zt (Zt a b) i) m))).r ?_)
 rintro o di ⟨aK, _, x, aY, rfl⟩
 refine Za rfl rfl (Zo (v := o) rfl rfl (Zb (Ze (Zc (Zc (Zd (Za rfl rfl (Zp F63_4 rfl rfl rfl (Za rfl rfl (Zn ((aY).f1) A61 rfl rfl rfl (Za rfl rfl (Zr S61 rfl rfl (a8.mono (Zt m x)) (Za rfl rfl (Zm (v := Vi (0)) rfl rfl (Zb (Ze ?_))))))))))))))))
 obtain ⟨aU, bz, bH, bF, bD⟩ := ctl_some hm
 refine W_mid (M := fun f' w' => ∃ s', (aU = .next s' ∨ aU = .brk s') ∧ (fun (bc : (List Int)) => ∃ (bo : PHeap) , PHeap.le aK bo ∧ St w0 bo (Res.box ad 28 [y, z, aa, ab, ac] :: Res.box ae 33 [q, t] :: Res.arr (encInt .i64) 3 o bc :: H) w' ∧ f' 3 = Value.pointer (some ⟨ad, 0, none⟩) ∧ f' 4 = Value.pointer (some ⟨ae, 0, none⟩) ∧ f' 9 = o ∧ f' 48 = aq ∧ f' 49 = Vi ((ai.Assigns.length : Int))) s') ?_ ?_
 ·refine W_block (W_forC (fun k' s' f' w' => (fun (a2 : (List Int)) => ∃ (bp : PHeap) , PHeap.le aK bp ∧ St w0 bp (Res.box ad 28 [y, z, aa, ab, ac] :: Res.box ae 33 [q, t] :: Res.arr (encInt .i64) 3 o a2 :: H) w' ∧ f' 3 = Value.pointer (some ⟨ad, 0, none⟩) ∧ f' 4 = Value.pointer (some ⟨ae, 0, none⟩) ∧ f' 9 = o ∧ f' 48 = aq ∧ f' 49 = Vi ((ai.Assigns.length : Int)) ∧ f' 50 = Vi (k' : Int)) s') bz ?_ ?_ ?_)
  ·have b7 := ((aY).f1).drop
   exact ⟨aK, (Zv _), ((b7).f2).f2, aG, a4, rfl, rfl, rfl, rfl⟩
  ·intro bb a2 aV cI dj bE b0 c bI
   obtain ⟨cW, ah, aZ, ap, a5, aH, a6, a7, ar⟩ := b0
   refine Zc (Zd (Za rfl rfl (Zq rfl ar a7 (Zb (Ze (Zc (W_true (Zx (decide_eq_true (by omega))) (W_skip (Ze (Zc (W_block (Zc (Zd ?_)))))))))))))
   obtain ⟨p, cg, c⟩ := Zg c
   refine Za rfl rfl (Exec.index_rep S61 rfl a6 ar (a8.mono (Zt (Zt m x) ah)) cg ?_)
   intro c2 cP bv
   refine Za rfl rfl (Zw (E := encGAssign) aZ A109 rfl rfl rfl bv ?_)
   intro cZ ch
   obtain ⟨aB, rfl, bm⟩ := encGAssign_val.1 ch
   refine Za rfl rfl (Exec.alloc (cs := [Vi (0), Value.string (⟨#[]⟩), Vi (0), Value.slice none 0 0]) aZ Z109 rfl rfl ?_)
   intro aT dk b8
   refine Za rfl rfl (Exec.store_box (ds := [Vi (p.Fluent), Value.string (p.Value.Op), Vi (p.Value.N), aB]) (es := [Vi (p.Fluent), Value.string (p.Value.Op), Vi (p.Value.N), aB]) b8 A109 rfl rfl rfl rfl (Zj rfl (Zj rfl (Zj rfl (Zj (bm).one one_nil)))) (Nat.le_of_ble_eq_true rfl) rfl ?_)
   intro dl aF
   refine Zb (Ze (Zc (Zd (Za rfl rfl (Exec.load_box_agg (ds := [q, t]) ((aF).f2) A33 rfl a5 rfl (Za rfl rfl (Zp F109_1 rfl rfl rfl (Za rfl rfl (Exec.load_box_agg (ds := [Value.string (p.Value.Op), Vi (p.Value.N), aB]) (aF) A102 rfl rfl rfl ?_)))))))))
   obtain ⟨cu, ci, c⟩ := Zg c
   obtain ⟨ag, au⟩ := cu
   replace c := un2_eq c
   refine Za rfl rfl (Tc rfl rfl rfl (Zi rfl (Zi rfl args_nil)) (ground_value_sim ci aF (aC.mono (Zt (Zt (Zt (Zt (Zt a b) i) m) x) ah)) (ax.mono (Zt (Zt (Zt (Zt (Zt a b) i) m) x) ah)) bm).r ?_)
   rintro _ dm ⟨aA, a3, u, rfl⟩
   refine Za rfl rfl (Zm (v := Value.tuple #[Vi (ag), Value.bool (au)]) rfl rfl (Za rfl rfl (Exec.extract (v := Vi (ag)) rfl rfl rfl (Za rfl rfl (Exec.extract (v := Value.bool (au)) rfl rfl rfl (Za rfl rfl (Zo (v := Vi (ag)) rfl rfl (Za rfl rfl (Zo (v := Value.bool (au)) rfl rfl (Zb (Ze (Zc (Zc ?_)))))))))))))
   obtain ⟨aj, l, c⟩ := Zg c
   refine W_mid (M := fun f' w' => (fun (aj : Bool) => ∃ (bq : PHeap) , PHeap.le aA bq ∧ St w0 bq (Res.box ad 28 [y, z, aa, ab, ac] :: Res.box ae 33 [q, t] :: Res.arr (encInt .i64) 3 o a2 :: Res.box aT 109 [Vi (p.Fluent), Value.string (p.Value.Op), Vi (p.Value.N), aB] :: H) w' ∧ f' 3 = Value.pointer (some ⟨ad, 0, none⟩) ∧ f' 4 = Value.pointer (some ⟨ae, 0, none⟩) ∧ f' 9 = o ∧ f' 11 = Value.pointer (some ⟨aT, 0, none⟩) ∧ f' 12 = Vi (ag) ∧ f' 48 = aq ∧ f' 49 = Vi ((ai.Assigns.length : Int)) ∧ f' 50 = Vi ((bb : Int)) ∧ f' 84 = Value.bool (aj)) aj) ?_ ?_
   ·refine Zd (Za rfl rfl (Zm (v := Value.bool (au)) rfl rfl (Za rfl rfl (Exec.not rfl rfl (Za rfl rfl (Zm (v := Value.bool (!au)) rfl rfl ?_))))))
    rcases ite_some l with ⟨d, l⟩ | ⟨d, l⟩
    ·refine WL_passes 21 (by rw [d]; rfl) ?_
     refine Zb (Ze ?_)
     have cA := Zu l
     subst aj
     exact ⟨aA, (Zv _), (((u).f3).f3).f3, ap, a5, aH, rfl, rfl, a6, a7, ar, rfl⟩
    replace d := Zk d
    refine WL_run rfl (Zf rfl (Zx d)) rfl (Zm (v := Vi (ag)) rfl rfl (WL_run rfl (Zf rfl (Zx d)) rfl (Zp F28_1 rfl ap rfl (WL_run rfl (Zf rfl (Zx d)) rfl (Zn ((u).f1) A23 rfl rfl rfl (WL_run rfl (Zf rfl (Zx d)) rfl (Zp F109_0 rfl rfl rfl (WL_run rfl (Zf rfl (Zx d)) rfl (Zn (u) A3 rfl rfl rfl ?_)))))))))
    obtain ⟨aP, bi, l⟩ := Zg l
    refine WL_run rfl (Zf rfl (Zx d)) rfl (Exec.index_rep S23 rfl rfl rfl (av.mono (Zt (Zt (Zt (Zt (Zt (Zt a b) i) m) x) ah) a3)) bi ?_)
    intro c3 cQ bw
    refine WL_run rfl (Zf rfl (Zx d)) rfl (Zp F69_1 rfl rfl rfl (WL_run rfl (Zf rfl (Zx d)) rfl (Zw (E := (encInt .i64)) u A3 rfl rfl rfl (bw.sub (Sub.iso (Sub.snd (Sub.fst (Sub.refl _)) rfl)) rfl) ?_)))
    intro cv cj
    obtain rfl : cv = Vi (aP.Lo) := encInt_val.1 cj
    refine WL_run rfl (Zf rfl (Zx d)) rfl (Zq rfl rfl rfl ?_)
    refine WL_passes 2 (by rw [d]; rfl) ?_
    rcases ite_some l with ⟨g, l⟩ | ⟨g, l⟩
    ·refine WL_passes 10 (by rw [g]; rfl) ?_
     refine Zb (Ze ?_)
     have cB := Zu l
     subst aj
     exact ⟨aA, (Zv _), (((u).f3).f3).f3, ap, a5, aH, rfl, rfl, a6, a7, ar, rfl⟩
    replace g := Zk g
    refine WL_run rfl (Zf rfl (Zx g)) rfl (Zm (v := Vi (ag)) rfl rfl (WL_run rfl (Zf rfl (Zx g)) rfl (Zp F28_1 rfl ap rfl (WL_run rfl (Zf rfl (Zx g)) rfl (Zn ((u).f1) A23 rfl rfl rfl (WL_run rfl (Zf rfl (Zx g)) rfl (Zp F109_0 rfl rfl rfl (WL_run rfl (Zf rfl (Zx g)) rfl (Zn (u) A3 rfl rfl rfl (WL_run rfl (Zf rfl (Zx g)) rfl (Exec.index_rep S23 rfl rfl rfl (av.mono (Zt (Zt (Zt (Zt (Zt (Zt a b) i) m) x) ah) a3)) bi ?_)))))))))))
    intro c4 cR bx
    refine WL_run rfl (Zf rfl (Zx g)) rfl (Zp F69_2 rfl rfl rfl (WL_run rfl (Zf rfl (Zx g)) rfl (Zw (E := (encInt .i64)) u A3 rfl rfl rfl (bx.sub (Sub.iso (Sub.snd (Sub.snd (Sub.fst (Sub.refl _)) rfl) rfl)) rfl) ?_)))
    intro cw ck
    obtain rfl : cw = Vi (aP.Hi) := encInt_val.1 ck
    refine WL_run rfl (Zf rfl (Zx g)) rfl (Exec.gtr rfl rfl rfl (Za rfl rfl (Exec.pick_f (v := Value.bool (decide (aP.Hi < ag))) rfl (Zx g) rfl (Zb (Ze ?_)))))
    have cC := Zu l
    subst aj
    exact ⟨aA, (Zv _), (((u).f3).f3).f3, ap, a5, aH, rfl, rfl, a6, a7, ar, rfl⟩
   intro cJ dn b3
   obtain ⟨br, bd, a1, bO, bP, bf, bQ, bR, bS, bT, bU, bg⟩ := b3
   refine (Ze ?_)
   rcases ite_some c with ⟨ao, c⟩ | ⟨ao, c⟩
   ·refine W_cond_t bg ao (Zc (Zd (Za rfl rfl (Exec.makeInterface C45 rfl rfl (Za rfl rfl (Zo (v := Value.slice none 0 0) rfl rfl (Za rfl rfl (Zo (v := errV 45 (some 14)) rfl rfl (Zb (Ze (W_ret (at_ret (ib_ret (at_ret (at_ret (ib_ret (at_ret (at_ret ?_))))))))))))))))))
    have cD := Zu c
    subst aV
    have bG := bH _ (bI (by intro _ h; cases h))
    have cE := Zu bG
    subst r
    refine ⟨_, ret2 rfl, ?_⟩
    exact ⟨br, (Value.slice none 0 0), (Zt (Zt (Zt (Zt (Zt (Zt (Zt a b) i) m) x) ah) a3) bd), ((((a1).drop).drop).drop).drop, (tup2 rfl rfl), (SliceRep.nil _ _)⟩
   refine W_cond_f bg ao ?_
   replace ao := Zk ao
   refine W_skip (Ze (Zd (Za rfl rfl (Zm (v := o) rfl bf (Za rfl rfl (Zp F109_0 rfl bQ rfl (Za rfl rfl (Zn ((a1).f3) A3 rfl rfl rfl (Za rfl rfl (Zm (v := Vi (ag)) rfl bR ?_))))))))))
   obtain ⟨dt, aI, c⟩ := Zg c
   obtain ⟨cM, c5, aW⟩ := ((a1).f2).arr_at aI
   refine Za rfl rfl (Exec.index_slice S24 rfl aW rfl (idx_some aI).1 (idx_some aI).2.1 ?_)
   obtain ⟨cN, cl, c⟩ := Zg c
   refine Za rfl rfl (Exec.store_arr (a1).f2 aW A3 rfl rfl rfl rfl (encInt_val.2 rfl) cl ?_)
   intro dp b9
   refine Zb (ib_normal (Ze (Zd (Za rfl rfl (Exec.add rfl bU rfl (Za rfl rfl (Zm (v := Vi (IntKind.i64.wrap ((bb : Int) + 1))) rfl rfl (Zb (Ze ?_)))))))))
   have cF := Zu c
   subst aV
   refine ⟨_, rfl, ?_⟩; exact ⟨br, (Zt (Zt ah a3) bd), ((((b9).f3).drop).f2).f2, bO, bP, bf, bS, bT, (Eq.trans rfl (wrap_up bE (SliceRep.le (a8.mono (Zt m x)))))⟩
  intro a2 cK dq b1 bJ
  obtain ⟨cr, bK, bA, bV, bW, bX, bY, bh, cx⟩ := b1
  refine Zc (Zd (Za rfl rfl (Zq rfl cx bh (Zb (Ze (Zc (W_false (Zx (decide_eq_false (by omega))) (W_exit (at_exit (at_exit (ib_here (Ze ?_))))))))))))
  refine ⟨_, .inl bJ, ?_⟩; exact ⟨cr, bK, (((bA).f2).f2).f2, bV, bW, bX, bY, bh⟩
 rintro cL dr ⟨bc, ba, b4⟩
 have hm := ba.elim (bF _) (bD _)
 clear ba
 obtain ⟨cX, bL, bB, cS, cT, bZ, cU, cV⟩ := b4
 refine (Ze (Zc (Zd (Za rfl rfl (Zm (v := o) rfl bZ (Za rfl rfl (Zo (v := o) rfl rfl (Za rfl rfl (Zo (v := errV 45 (none)) rfl rfl (Zb (Ze (W_ret ?_))))))))))))
 have cG := Zu hm
 subst r
 refine ⟨_, ret2 rfl, ?_⟩
 obtain ⟨ct, bM, bC, cn⟩ := (bB).f2.freezeArr
 exact ⟨ct, o, (Zt (Zt (Zt (Zt (Zt (Zt a b) i) m) x) bL) bM), ((bC).drop).drop, (tup2 rfl rfl), cn⟩
end Go.Pw
