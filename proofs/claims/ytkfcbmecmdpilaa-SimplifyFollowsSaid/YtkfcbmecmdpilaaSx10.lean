/-
  The walks (printed by my generator).
-/
import Derived.Test.YtkfcbmecmdpilaaL29
import Derived.Test.YtkfcbmecmdpilaaL27
import Derived.Test.YtkfcbmecmdpilaaSx9
set_option maxRecDepth 100000
set_option maxHeartbeats 4000000
set_option linter.unusedVariables false
namespace Go.Pw
open Go.Proofs
theorem ground_assigned_sim {w0 w : World} {s : PHeap} {H : List Res} {fu : Nat} {af : Ground} {aL : GState} {n : Int} {y : Value} {z : Value} {aa : Value} {ab : Value} {ac : Value} {q : Value} {t : Value} {r : (List Int) × (Option Int)} (hm : ground_assigned_p fu af aL n = some r) (hS : St w0 s (H) w) (aQ : SliceRep encAtom s y af.Atoms) (av : SliceRep encGFluent s z af.Fluents) (aR : SliceRep (encInt .i64) s aa af.Init) (aS : SliceRep encCond s ab af.Goal) (aw : SliceRep encGOp s ac af.Ops) (aC : SliceRep (encInt .i64) s q aL.True) (ax : SliceRep (encInt .i64) s t aL.Values) :
  Calls Try.prog 75 #[Value.agg #[y, z, aa, ab, ac], Value.agg #[q, t], Vi (n)] w fun e w' => ∃ v, e = .returned v ∧ ((un2 fun (cy : (List Int)) (cz : (Option Int)) => ∃ (aJ : PHeap) (bt : Value), PHeap.le s aJ ∧ St w0 aJ (H) w' ∧ v = Value.tuple #[bt, errV 41 (cz)] ∧ SliceRep (encInt .i64) aJ bt cy) r) := by
 unfold ground_assigned_p at hm
 refine calls_of_W Try.func75 rfl rfl (Zc (Zd (Za rfl rfl (Exec.box (cs := [y, z, aa, ab, ac]) hS rfl rfl rfl ?_))))
 intro ad da b5
 refine Za rfl rfl (Exec.box (cs := [q, t]) b5 rfl rfl rfl ?_)
 intro ae db aX
 refine Za rfl rfl (Zo (v := Value.slice none 0 0) rfl rfl (Za rfl rfl (Zo (v := errV 41 (none)) rfl rfl (Zb (Ze (Zc (Zc (Zd (Za rfl rfl (Exec.load_box_agg (ds := [y, z, aa, ab, ac]) ((aX).f1) A28 rfl rfl rfl ?_))))))))))
 obtain ⟨du, ca, hm⟩ := Zg hm
 refine Za rfl rfl (Tc rfl rfl rfl (Zi rfl args_nil) (ground_Valid_sim ca aX aQ av aR aS aw).r ?_)
 rintro _ dc ⟨a9, a, ay, rfl⟩
 refine Za rfl rfl (Exec.not rfl rfl (Zb (Ze ?_)))
 rcases ite_some hm with ⟨ak, hm⟩ | ⟨ak, hm⟩
 ·refine W_cond_t rfl ak (Zc (Zd (Za rfl rfl (Exec.makeInterface C41 rfl rfl (Za rfl rfl (Zo (v := Value.slice none 0 0) rfl rfl (Za rfl rfl (Zo (v := errV 41 (some 2)) rfl rfl (Zb (Ze (W_ret (at_ret ?_))))))))))))
  have c6 := Zu hm
  subst r
  refine ⟨_, ret2 rfl, ?_⟩
  exact ⟨a9, (Value.slice none 0 0), a, ((ay).drop).drop, (tup2 rfl rfl), (SliceRep.nil _ _)⟩
 refine W_cond_f rfl ak ?_
 replace ak := Zk ak
 refine W_skip (Ze (Zc (Zc (W_mid (M := fun f' w' => ∃ (bn : PHeap) , PHeap.le a9 bn ∧ St w0 bn (Res.box ad 28 [y, z, aa, ab, ac] :: Res.box ae 69 [q, t] :: H) w' ∧ f' 2 = Vi (n) ∧ f' 3 = Value.pointer (some ⟨ad, 0, none⟩) ∧ f' 4 = Value.pointer (some ⟨ae, 0, none⟩) ∧ f' 26 = Value.bool (((decide (n < 0)) || decide ((af.Ops.length : Int) ≤ n)))) ?_ ?_))))
 ·refine Zd (Za rfl rfl (Zm (v := Vi (n)) rfl rfl (Za rfl rfl (Zq rfl rfl rfl (Za rfl rfl (Zm (v := Value.bool (decide (n < 0))) rfl rfl ?_))))))
  by_cases j : (decide (n < 0)) = true
  ·refine WL_passes 6 (by rw [j]; rfl) ?_
   refine Zb (Ze ?_)
   exact ⟨a9, (Zv _), (ay).f1, rfl, rfl, rfl, (Zx (or_t j)).symm⟩
  replace j := Zk j
  refine WL_run rfl (Zf rfl (Zx j)) rfl (Zm (v := Vi (n)) rfl rfl (WL_run rfl (Zf rfl (Zx j)) rfl (Zp F28_4 rfl rfl rfl (WL_run rfl (Zf rfl (Zx j)) rfl (Zn ((ay).f1) A26 rfl rfl rfl (WL_run rfl (Zf rfl (Zx j)) rfl (Zr S26 rfl rfl (aw.mono a) (WL_run rfl (Zf rfl (Zx j)) rfl (Exec.geq rfl rfl rfl (Za rfl rfl (Exec.pick_f (v := Value.bool (decide ((af.Ops.length : Int) ≤ n))) rfl (Zx j) rfl (Zb (Ze ?_)))))))))))))
  exact ⟨a9, (Zv _), (ay).f1, rfl, rfl, rfl, (Zx (or_f j)).symm⟩
 intro cH dd b2
 obtain ⟨co, b, az, bN, aG, a4, be⟩ := b2
 refine (Ze ?_)
 rcases ite_some hm with ⟨al, hm⟩ | ⟨al, hm⟩
 ·refine W_cond_t be al (Zc (Zd (Za rfl rfl (Exec.makeInterface C41 rfl rfl (Za rfl rfl (Zo (v := Value.slice none 0 0) rfl rfl (Za rfl rfl (Zo (v := errV 41 (some 1)) rfl rfl (Zb (Ze (W_ret (at_ret ?_))))))))))))
  have c7 := Zu hm
  subst r
  refine ⟨_, ret2 rfl, ?_⟩
  exact ⟨co, (Value.slice none 0 0), (Zt a b), ((az).drop).drop, (tup2 rfl rfl), (SliceRep.nil _ _)⟩
 refine W_cond_f be al ?_
 replace al := Zk al
 refine W_skip (Ze (Zc (Zc (Zd (Za rfl rfl (Exec.load_box_agg (ds := [y, z, aa, ab, ac]) (az) A28 rfl aG rfl (Za rfl rfl (Exec.load_box_agg (ds := [q, t]) ((az).f1) A69 rfl a4 rfl ?_))))))))
 obtain ⟨dv, cb, hm⟩ := Zg hm
 refine Za rfl rfl (Tc rfl rfl rfl (Zi rfl (Zi rfl args_nil)) (ground_proper_sim cb az (aQ.mono (Zt a b)) (av.mono (Zt a b)) (aR.mono (Zt a b)) (aS.mono (Zt a b)) (aw.mono (Zt a b)) (aC.mono (Zt a b)) (ax.mono (Zt a b))).r ?_)
 rintro _ de ⟨cp, i, a0, rfl⟩
 refine Za rfl rfl (Exec.not rfl rfl (Zb (Ze ?_)))
 rcases ite_some hm with ⟨am, hm⟩ | ⟨am, hm⟩
 ·refine W_cond_t rfl am (Zc (Zd (Za rfl rfl (Exec.makeInterface C41 rfl rfl (Za rfl rfl (Zo (v := Value.slice none 0 0) rfl rfl (Za rfl rfl (Zo (v := errV 41 (some 2)) rfl rfl (Zb (Ze (W_ret (at_ret ?_))))))))))))
  have c8 := Zu hm
  subst r
  refine ⟨_, ret2 rfl, ?_⟩
  exact ⟨cp, (Value.slice none 0 0), (Zt (Zt a b) i), ((a0).drop).drop, (tup2 rfl rfl), (SliceRep.nil _ _)⟩
 refine W_cond_f rfl am ?_
 replace am := Zk am
 refine W_skip (Ze (Zc (Zd (Za rfl rfl (Zp F28_4 rfl aG rfl (Za rfl rfl (Zn (a0) A26 rfl rfl rfl (Za rfl rfl (Zm (v := Vi (n)) rfl bN ?_)))))))))
 obtain ⟨ai, cc, hm⟩ := Zg hm
 refine Za rfl rfl (Exec.index_rep S26 rfl rfl rfl (aw.mono (Zt (Zt a b) i)) cc ?_)
 intro c0 cO bu
 refine Za rfl rfl (Zw (E := encGOp) a0 A51 rfl rfl rfl bu ?_)
 intro cY cd
 obtain ⟨aM, aN, aO, bs, aq, rfl, bj, bk, bl, cm, a8⟩ := encGOp_val.1 cd
 refine Za rfl rfl (Exec.alloc (cs := [Value.string (⟨#[]⟩), Vi (0), Value.slice none 0 0, Value.slice none 0 0, Value.slice none 0 0, Value.slice none 0 0, Value.slice none 0 0]) a0 Z51 rfl rfl ?_)
 intro c1 df b6
 refine Za rfl rfl (Exec.store_box (ds := [Value.string (ai.Name), Vi (ai.Cost), aM, aN, aO, bs, aq]) (es := [Value.string (ai.Name), Vi (ai.Cost), aM, aN, aO, bs, aq]) b6 A51 rfl rfl rfl rfl (Zj rfl (Zj rfl (Zj (bj).one (Zj (bk).one (Zj (bl).one (Zj (cm).one (Zj (a8).one one_nil))))))) (Nat.le_of_ble_eq_true rfl) rfl ?_)
 intro dg aD
 refine Zb (Ze (Zc (Zc (Zd (Za rfl rfl (Exec.load_box_agg (ds := [q, t]) ((aD).f2) A69 rfl a4 rfl (Za rfl rfl (Zp F51_2 rfl rfl rfl (Za rfl rfl (Exec.load_box_agg (ds := [aM, aN, aO]) (aD) A47 rfl rfl rfl ?_))))))))))
 obtain ⟨dw, ce, hm⟩ := Zg hm
 refine Za rfl rfl (Tc rfl rfl rfl (Zi rfl (Zi rfl args_nil)) (ground_holds_sim ce aD (aC.mono (Zt (Zt a b) i)) (ax.mono (Zt (Zt a b) i)) bj bk bl).r ?_)
 rintro _ dh ⟨cq, m, aE, rfl⟩
 refine Za rfl rfl (Exec.not rfl rfl (Zb (Ze ?_)))
 rcases ite_some hm with ⟨an, hm⟩ | ⟨an, hm⟩
 ·refine W_cond_t rfl an (Zc (Zd (Za rfl rfl (Exec.makeInterface C41 rfl rfl (Za rfl rfl (Zo (v := Value.slice none 0 0) rfl rfl (Za rfl rfl (Zo (v := errV 41 (some 12)) rfl rfl (Zb (Ze (W_ret (at_ret ?_))))))))))))
  have c9 := Zu hm
  subst r
  refine ⟨_, ret2 rfl, ?_⟩
  exact ⟨cq, (Value.slice none 0 0), (Zt (Zt (Zt a b) i) m), (((aE).drop).drop).drop, (tup2 rfl rfl), (SliceRep.nil _ _)⟩
 refine W_cond_f rfl an ?_
 replace an := Zk an
 refine W_skip (Ze (Zc (Zd (Za rfl rfl (Zp F69_1 rfl a4 rfl (Za rfl rfl (Zn ((aE).f2) A24 rfl rfl rfl ?_)))))))
 obtain ⟨dx, cf, hm⟩ := Zg hm
 refine Za rfl rfl (Tc rfl rfl rfl (Zi rfl args_nil) (slices_Clone___int_int__sim cf aE (ax.mono (Zt (Zt (Zt a b) i) m))).r ?_)
 rintro o di ⟨aK, _, x, aY, rfl⟩
 refine Za rfl rfl (Zo (v := o) rfl rfl (Zb (Ze (Zc (Zc (Zd (Za rfl rfl (Zp F51_4 rfl rfl rfl (Za rfl rfl (Zn ((aY).f1) A49 rfl rfl rfl (Za rfl rfl (Zr S49 rfl rfl (a8.mono (Zt m x)) (Za rfl rfl (Zm (v := Vi (0)) rfl rfl (Zb (Ze ?_))))))))))))))))
 obtain ⟨aU, bz, bH, bF, bD⟩ := ctl_some hm
 refine W_mid (M := fun f' w' => ∃ s', (aU = .next s' ∨ aU = .brk s') ∧ (fun (bc : (List Int)) => ∃ (bo : PHeap) , PHeap.le aK bo ∧ St w0 bo (Res.box ad 28 [y, z, aa, ab, ac] :: Res.box ae 69 [q, t] :: Res.arr (encInt .i64) 3 o bc :: H) w' ∧ f' 3 = Value.pointer (some ⟨ad, 0, none⟩) ∧ f' 4 = Value.pointer (some ⟨ae, 0, none⟩) ∧ f' 9 = o ∧ f' 48 = aq ∧ f' 49 = Vi ((ai.Assigns.length : Int))) s') ?_ ?_
 ·refine W_block (W_forC (fun k' s' f' w' => (fun (a2 : (List Int)) => ∃ (bp : PHeap) , PHeap.le aK bp ∧ St w0 bp (Res.box ad 28 [y, z, aa, ab, ac] :: Res.box ae 69 [q, t] :: Res.arr (encInt .i64) 3 o a2 :: H) w' ∧ f' 3 = Value.pointer (some ⟨ad, 0, none⟩) ∧ f' 4 = Value.pointer (some ⟨ae, 0, none⟩) ∧ f' 9 = o ∧ f' 48 = aq ∧ f' 49 = Vi ((ai.Assigns.length : Int)) ∧ f' 50 = Vi (k' : Int)) s') bz ?_ ?_ ?_)
  ·have b7 := ((aY).f1).drop
   exact ⟨aK, (Zv _), ((b7).f2).f2, aG, a4, rfl, rfl, rfl, rfl⟩
  ·intro bb a2 aV cI dj bE b0 c bI
   obtain ⟨cW, ah, aZ, ap, a5, aH, a6, a7, ar⟩ := b0
   refine Zc (Zd (Za rfl rfl (Zq rfl ar a7 (Zb (Ze (Zc (W_true (Zx (decide_eq_true (by omega))) (W_skip (Ze (Zc (W_block (Zc (Zd ?_)))))))))))))
   obtain ⟨p, cg, c⟩ := Zg c
   refine Za rfl rfl (Exec.index_rep S49 rfl a6 ar (a8.mono (Zt (Zt m x) ah)) cg ?_)
   intro c2 cP bv
   refine Za rfl rfl (Zw (E := encGAssign) aZ A84 rfl rfl rfl bv ?_)
   intro cZ ch
   obtain ⟨aB, rfl, bm⟩ := encGAssign_val.1 ch
   refine Za rfl rfl (Exec.alloc (cs := [Vi (0), Value.string (⟨#[]⟩), Vi (0), Value.slice none 0 0]) aZ Z84 rfl rfl ?_)
   intro aT dk b8
   refine Za rfl rfl (Exec.store_box (ds := [Vi (p.Fluent), Value.string (p.Value.Op), Vi (p.Value.N), aB]) (es := [Vi (p.Fluent), Value.string (p.Value.Op), Vi (p.Value.N), aB]) b8 A84 rfl rfl rfl rfl (Zj rfl (Zj rfl (Zj rfl (Zj (bm).one one_nil)))) (Nat.le_of_ble_eq_true rfl) rfl ?_)
   intro dl aF
   refine Zb (Ze (Zc (Zd (Za rfl rfl (Exec.load_box_agg (ds := [q, t]) ((aF).f2) A69 rfl a5 rfl (Za rfl rfl (Zp F84_1 rfl rfl rfl (Za rfl rfl (Exec.load_box_agg (ds := [Value.string (p.Value.Op), Vi (p.Value.N), aB]) (aF) A82 rfl rfl rfl ?_)))))))))
   obtain ⟨cu, ci, c⟩ := Zg c
   obtain ⟨ag, au⟩ := cu
   replace c := un2_eq c
   refine Za rfl rfl (Tc rfl rfl rfl (Zi rfl (Zi rfl args_nil)) (ground_value_sim ci aF (aC.mono (Zt (Zt (Zt (Zt (Zt a b) i) m) x) ah)) (ax.mono (Zt (Zt (Zt (Zt (Zt a b) i) m) x) ah)) bm).r ?_)
   rintro _ dm ⟨aA, a3, u, rfl⟩
   refine Za rfl rfl (Zm (v := Value.tuple #[Vi (ag), Value.bool (au)]) rfl rfl (Za rfl rfl (Exec.extract (v := Vi (ag)) rfl rfl rfl (Za rfl rfl (Exec.extract (v := Value.bool (au)) rfl rfl rfl (Za rfl rfl (Zo (v := Vi (ag)) rfl rfl (Za rfl rfl (Zo (v := Value.bool (au)) rfl rfl (Zb (Ze (Zc (Zc ?_)))))))))))))
   obtain ⟨aj, l, c⟩ := Zg c
   refine W_mid (M := fun f' w' => (fun (aj : Bool) => ∃ (bq : PHeap) , PHeap.le aA bq ∧ St w0 bq (Res.box ad 28 [y, z, aa, ab, ac] :: Res.box ae 69 [q, t] :: Res.arr (encInt .i64) 3 o a2 :: Res.box aT 84 [Vi (p.Fluent), Value.string (p.Value.Op), Vi (p.Value.N), aB] :: H) w' ∧ f' 3 = Value.pointer (some ⟨ad, 0, none⟩) ∧ f' 4 = Value.pointer (some ⟨ae, 0, none⟩) ∧ f' 9 = o ∧ f' 11 = Value.pointer (some ⟨aT, 0, none⟩) ∧ f' 12 = Vi (ag) ∧ f' 48 = aq ∧ f' 49 = Vi ((ai.Assigns.length : Int)) ∧ f' 50 = Vi ((bb : Int)) ∧ f' 84 = Value.bool (aj)) aj) ?_ ?_
   ·refine Zd (Za rfl rfl (Zm (v := Value.bool (au)) rfl rfl (Za rfl rfl (Exec.not rfl rfl (Za rfl rfl (Zm (v := Value.bool (!au)) rfl rfl ?_))))))
    rcases ite_some l with ⟨d, l⟩ | ⟨d, l⟩
    ·refine WL_passes 21 (by rw [d]; rfl) ?_
     refine Zb (Ze ?_)
     have cA := Zu l
     subst aj
     exact ⟨aA, (Zv _), (((u).f3).f3).f3, ap, a5, aH, rfl, rfl, a6, a7, ar, rfl⟩
    replace d := Zk d
    refine WL_run rfl (Zf rfl (Zx d)) rfl (Zm (v := Vi (ag)) rfl rfl (WL_run rfl (Zf rfl (Zx d)) rfl (Zp F28_1 rfl ap rfl (WL_run rfl (Zf rfl (Zx d)) rfl (Zn ((u).f1) A23 rfl rfl rfl (WL_run rfl (Zf rfl (Zx d)) rfl (Zp F84_0 rfl rfl rfl (WL_run rfl (Zf rfl (Zx d)) rfl (Zn (u) A3 rfl rfl rfl ?_)))))))))
    obtain ⟨aP, bi, l⟩ := Zg l
    refine WL_run rfl (Zf rfl (Zx d)) rfl (Exec.index_rep S23 rfl rfl rfl (av.mono (Zt (Zt (Zt (Zt (Zt (Zt a b) i) m) x) ah) a3)) bi ?_)
    intro c3 cQ bw
    refine WL_run rfl (Zf rfl (Zx d)) rfl (Zp F93_1 rfl rfl rfl (WL_run rfl (Zf rfl (Zx d)) rfl (Zw (E := (encInt .i64)) u A3 rfl rfl rfl (bw.sub (Sub.iso (Sub.snd (Sub.fst (Sub.refl _)) rfl)) rfl) ?_)))
    intro cv cj
    obtain rfl : cv = Vi (aP.Lo) := encInt_val.1 cj
    refine WL_run rfl (Zf rfl (Zx d)) rfl (Zq rfl rfl rfl ?_)
    refine WL_passes 2 (by rw [d]; rfl) ?_
    rcases ite_some l with ⟨g, l⟩ | ⟨g, l⟩
    ·refine WL_passes 10 (by rw [g]; rfl) ?_
     refine Zb (Ze ?_)
     have cB := Zu l
     subst aj
     exact ⟨aA, (Zv _), (((u).f3).f3).f3, ap, a5, aH, rfl, rfl, a6, a7, ar, rfl⟩
    replace g := Zk g
    refine WL_run rfl (Zf rfl (Zx g)) rfl (Zm (v := Vi (ag)) rfl rfl (WL_run rfl (Zf rfl (Zx g)) rfl (Zp F28_1 rfl ap rfl (WL_run rfl (Zf rfl (Zx g)) rfl (Zn ((u).f1) A23 rfl rfl rfl (WL_run rfl (Zf rfl (Zx g)) rfl (Zp F84_0 rfl rfl rfl (WL_run rfl (Zf rfl (Zx g)) rfl (Zn (u) A3 rfl rfl rfl (WL_run rfl (Zf rfl (Zx g)) rfl (Exec.index_rep S23 rfl rfl rfl (av.mono (Zt (Zt (Zt (Zt (Zt (Zt a b) i) m) x) ah) a3)) bi ?_)))))))))))
    intro c4 cR bx
    refine WL_run rfl (Zf rfl (Zx g)) rfl (Zp F93_2 rfl rfl rfl (WL_run rfl (Zf rfl (Zx g)) rfl (Zw (E := (encInt .i64)) u A3 rfl rfl rfl (bx.sub (Sub.iso (Sub.snd (Sub.snd (Sub.fst (Sub.refl _)) rfl) rfl)) rfl) ?_)))
    intro cw ck
    obtain rfl : cw = Vi (aP.Hi) := encInt_val.1 ck
    refine WL_run rfl (Zf rfl (Zx g)) rfl (Exec.gtr rfl rfl rfl (Za rfl rfl (Exec.pick_f (v := Value.bool (decide (aP.Hi < ag))) rfl (Zx g) rfl (Zb (Ze ?_)))))
    have cC := Zu l
    subst aj
    exact ⟨aA, (Zv _), (((u).f3).f3).f3, ap, a5, aH, rfl, rfl, a6, a7, ar, rfl⟩
   intro cJ dn b3
   obtain ⟨br, bd, a1, bO, bP, bf, bQ, bR, bS, bT, bU, bg⟩ := b3
   refine (Ze ?_)
   rcases ite_some c with ⟨ao, c⟩ | ⟨ao, c⟩
   ·refine W_cond_t bg ao (Zc (Zd (Za rfl rfl (Exec.makeInterface C41 rfl rfl (Za rfl rfl (Zo (v := Value.slice none 0 0) rfl rfl (Za rfl rfl (Zo (v := errV 41 (some 14)) rfl rfl (Zb (Ze (W_ret (at_ret (ib_ret (at_ret (at_ret (ib_ret (at_ret (at_ret ?_))))))))))))))))))
    have cD := Zu c
    subst aV
    have bG := bH _ (bI (by intro _ h; cases h))
    have cE := Zu bG
    subst r
    refine ⟨_, ret2 rfl, ?_⟩
    exact ⟨br, (Value.slice none 0 0), (Zt (Zt (Zt (Zt (Zt (Zt (Zt a b) i) m) x) ah) a3) bd), ((((a1).drop).drop).drop).drop, (tup2 rfl rfl), (SliceRep.nil _ _)⟩
   refine W_cond_f bg ao ?_
   replace ao := Zk ao
   refine W_skip (Ze (Zd (Za rfl rfl (Zm (v := o) rfl bf (Za rfl rfl (Zp F84_0 rfl bQ rfl (Za rfl rfl (Zn ((a1).f3) A3 rfl rfl rfl (Za rfl rfl (Zm (v := Vi (ag)) rfl bR ?_))))))))))
   obtain ⟨dt, aI, c⟩ := Zg c
   obtain ⟨cM, c5, aW⟩ := ((a1).f2).arr_at aI
   refine Za rfl rfl (Exec.index_slice S24 rfl aW rfl (idx_some aI).1 (idx_some aI).2.1 ?_)
   obtain ⟨cN, cl, c⟩ := Zg c
   refine Za rfl rfl (Exec.store_arr (a1).f2 aW A3 rfl rfl rfl rfl (encInt_val.2 rfl) cl ?_)
   intro dp b9
   refine Zb (ib_normal (Ze (Zd (Za rfl rfl (Exec.add rfl bU rfl (Za rfl rfl (Zm (v := Vi (IntKind.i64.wrap ((bb : Int) + 1))) rfl rfl (Zb (Ze ?_)))))))))
   have cF := Zu c
   subst aV
   refine ⟨_, rfl, ?_⟩; exact ⟨br, (Zt (Zt ah a3) bd), ((((b9).f3).drop).f2).f2, bO, bP, bf, bS, bT, (Eq.trans rfl (wrap_up bE (SliceRep.le (a8.mono (Zt m x)))))⟩
  intro a2 cK dq b1 bJ
  obtain ⟨cr, bK, bA, bV, bW, bX, bY, bh, cx⟩ := b1
  refine Zc (Zd (Za rfl rfl (Zq rfl cx bh (Zb (Ze (Zc (W_false (Zx (decide_eq_false (by omega))) (W_exit (at_exit (at_exit (ib_here (Ze ?_))))))))))))
  refine ⟨_, .inl bJ, ?_⟩; exact ⟨cr, bK, (((bA).f2).f2).f2, bV, bW, bX, bY, bh⟩
 rintro cL dr ⟨bc, ba, b4⟩
 have hm := ba.elim (bF _) (bD _)
 clear ba
 obtain ⟨cX, bL, bB, cS, cT, bZ, cU, cV⟩ := b4
 refine (Ze (Zc (Zd (Za rfl rfl (Zm (v := o) rfl bZ (Za rfl rfl (Zo (v := o) rfl rfl (Za rfl rfl (Zo (v := errV 41 (none)) rfl rfl (Zb (Ze (W_ret ?_))))))))))))
 have cG := Zu hm
 subst r
 refine ⟨_, ret2 rfl, ?_⟩
 obtain ⟨ct, bM, bC, cn⟩ := (bB).f2.freezeArr
 exact ⟨ct, o, (Zt (Zt (Zt (Zt (Zt (Zt a b) i) m) x) bL) bM), ((bC).drop).drop, (tup2 rfl rfl), cn⟩
theorem ground_Apply_sim {w0 w : World} {s : PHeap} {H : List Res} {fu : Nat} {q : Ground} {ba : GState} {az : Int} {af : Value} {ag : Value} {ah : Value} {ai : Value} {aj : Value} {o : Value} {p : Value} {r : (Option Int) × GState} (hm : ground_Apply_p fu q ba az = some r) (hS : St w0 s (H) w) (aJ : SliceRep encAtom s af q.Atoms) (bJ : SliceRep encGFluent s ag q.Fluents) (bK : SliceRep (encInt .i64) s ah q.Init) (bL : SliceRep encCond s ai q.Goal) (bh : SliceRep encGOp s aj q.Ops) (aK : SliceRep (encInt .i64) s o ba.True) (bi : SliceRep (encInt .i64) s p ba.Values) :
  Calls Try.prog 29 #[Value.agg #[af, ag, ah, ai, aj], Value.agg #[o, p], Vi (az)] w fun e w' => ∃ v, e = .returned v ∧ ((un2 fun (dg : (Option Int)) (bI : GState) => ∃ (aC : PHeap) (bF : Value) (bG : Value), PHeap.le s aC ∧ St w0 aC (H) w' ∧ v = Value.tuple #[Value.agg #[bF, bG], errV 41 (dg)] ∧ SliceRep (encInt .i64) aC bF bI.True ∧ SliceRep (encInt .i64) aC bG bI.Values) r) := by
 unfold ground_Apply_p at hm
 refine calls_of_W Try.func29 rfl rfl (Zc (Zd (Za rfl rfl (Exec.box (cs := [af, ag, ah, ai, aj]) hS rfl rfl rfl ?_))))
 intro ay dJ bX
 refine Za rfl rfl (Exec.box (cs := [o, p]) bX rfl rfl rfl ?_)
 intro l dK bY
 refine Za rfl rfl (Exec.alloc (cs := [Value.slice none 0 0, Value.slice none 0 0]) bY Z69 rfl rfl ?_)
 intro m dL aL
 refine Za rfl rfl (Zo (v := errV 41 (none)) rfl rfl (Zb (Ze (Zc (Zd (Za rfl rfl (Exec.load_box_agg (ds := [af, ag, ah, ai, aj]) ((aL).f2) A28 rfl rfl rfl (Za rfl rfl (Exec.load_box_agg (ds := [o, p]) ((aL).f1) A69 rfl rfl rfl (Za rfl rfl (Zm (v := Vi (az)) rfl rfl ?_)))))))))))
 obtain ⟨da, cI, hm⟩ := Zg hm
 obtain ⟨ej, ak⟩ := da
 replace hm := un2_eq hm
 refine Za rfl rfl (Tc rfl rfl rfl (Zi rfl (Zi rfl (Zi rfl args_nil))) (ground_assigned_sim cI aL aJ bJ bK bL bh aK bi).r ?_)
 rintro _ dM ⟨aY, a, y, bj, rfl, aA⟩
 refine Za rfl rfl (Zm (v := Value.tuple #[a, errV 41 (ak)]) rfl rfl (Za rfl rfl (Exec.extract (v := a) rfl rfl rfl (Za rfl rfl (Exec.extract (v := errV 41 (ak)) rfl rfl rfl (Za rfl rfl (Zo (v := a) rfl rfl (Za rfl rfl (Zo (v := errV 41 (ak)) rfl rfl (Zb (Ze (Zc (Zc (Zd (Za rfl rfl (Zm (v := errV 41 (ak)) rfl rfl (Za rfl rfl (Exec.err_neq_nil (T := 41) Try.underlying34 rfl rfl rfl (Zb (Ze ?_))))))))))))))))))))
 rcases ite_some hm with ⟨an, hm⟩ | ⟨an, hm⟩
 ·refine W_cond_t rfl an (Zc (Zd (Za rfl rfl (Exec.build rfl parts_nil (v := Value.agg #[Value.slice none 0 0, Value.slice none 0 0]) (fun _ => by kernel_rfl) (Za rfl rfl (Zm (v := errV 41 (ak)) rfl rfl (Za rfl rfl (Exec.store_box (ds := [Value.slice none 0 0, Value.slice none 0 0]) (es := [Value.slice none 0 0, Value.slice none 0 0]) bj A69 rfl rfl rfl rfl (Zj rfl (Zj rfl one_nil)) (Nat.le_of_ble_eq_true rfl) rfl ?_))))))))
  intro dN bk
  refine Za rfl rfl (Zo (v := errV 41 (ak)) rfl rfl (Zb (Ze (W_ret (at_ret ?_)))))
  have dl := Zu hm
  subst r
  refine ⟨_, retG2 rfl ⟨_, _, rfl, cellRes (bk) A69⟩ rfl, ?_⟩
  exact ⟨aY, (Value.slice none 0 0), (Value.slice none 0 0), y, (((bk).drop).drop).drop, (tup2 rfl rfl), (SliceRep.nil _ _), (SliceRep.nil _ _)⟩
 refine W_cond_f rfl an ?_
 replace an := Zk an
 refine W_skip (Ze (Zc (Zd (Za rfl rfl (Exec.make_bmap (k := 3) (e := 4) bj rfl ?_)))))
 intro g dO bZ
 refine Za rfl rfl (Exec.make_bmap (k := 3) (e := 4) bZ rfl ?_)
 intro h dP aM
 refine Za rfl rfl (Zo (v := Value.map (some g)) rfl rfl (Za rfl rfl (Zo (v := Value.map (some h)) rfl rfl (Zb (Ze (Zc (Zc (Zd (Za rfl rfl (Zp F28_4 rfl rfl rfl (Za rfl rfl (Zn ((aM).f4) A26 rfl rfl rfl (Za rfl rfl (Zm (v := Vi (az)) rfl rfl ?_))))))))))))))
 obtain ⟨bf, cJ, hm⟩ := Zg hm
 refine Za rfl rfl (Exec.index_rep S26 rfl rfl rfl (bh.mono y) cJ ?_)
 intro dh d9 bM
 refine Za rfl rfl (Zp F51_3 rfl rfl rfl (Za rfl rfl (Zw (E := (encSlice encGChange)) aM A48 rfl rfl rfl (bM.sub (Sub.iso (Sub.snd (Sub.snd (Sub.snd (Sub.fst (Sub.refl _)) rfl) rfl) rfl)) rfl) ?_)))
 intro bH cK
 have aB : SliceRep _ _ _ (bf.Changes) := encSlice_val.1 cK
 refine Za rfl rfl (Zr S48 rfl rfl aB (Za rfl rfl (Zm (v := Vi (0)) rfl rfl (Zb (Ze ?_)))))
 obtain ⟨db, bO, hm⟩ := Zg hm
 refine W_block (W_forS (fun k' s' f' w' => (un2 fun (ad : BMap) (ae : BMap) => ∃ (b8 : PHeap) , PHeap.le aY b8 ∧ St w0 b8 (Res.box ay 28 [af, ag, ah, ai, aj] :: Res.box l 69 [o, p] :: Res.box m 69 [Value.slice none 0 0, Value.slice none 0 0] :: Res.bmap Try.prog 3 4 g ad :: Res.bmap Try.prog 3 4 h ae :: H) w' ∧ f' 3 = Value.pointer (some ⟨ay, 0, none⟩) ∧ f' 4 = Value.pointer (some ⟨l, 0, none⟩) ∧ f' 6 = Value.pointer (some ⟨m, 0, none⟩) ∧ f' 8 = a ∧ f' 10 = Value.map (some g) ∧ f' 11 = Value.map (some h) ∧ f' 36 = bH ∧ f' 37 = Vi ((bf.Changes.length : Int)) ∧ f' 38 = Vi (k' : Int)) s') bO ?_ ?_ ?_)
 ·have ca := (aM).f1
  exact ⟨aY, (Zv _), (((ca).f2).f3).f4, rfl, rfl, rfl, rfl, rfl, rfl, rfl, rfl, rfl⟩
 ·intro aR dc b9 dz dQ bp bQ b
  obtain ⟨ad, ae⟩ := dc
  replace b := un2_eq b
  obtain ⟨dF, ar, bl, aT, a0, aU, aV, a1, a2, a3, a4, av⟩ := bQ
  refine Zc (Zd (Za rfl rfl (Zq rfl av a4 (Zb (Ze (Zc (W_true (Zx (decide_eq_true (by omega))) (W_skip (Ze (Zc (W_block (Zc (Zd ?_)))))))))))))
  obtain ⟨aH, cL, b⟩ := Zg b
  refine Za rfl rfl (Exec.index_rep S48 rfl a3 av (aB.mono ar) cL ?_)
  intro di dA bN
  refine Za rfl rfl (Zw (E := encGChange) bl A58 rfl rfl rfl bN ?_)
  intro dI cM
  obtain ⟨bb, bc, bd, rfl, b5, b6, b7⟩ := encGChange_val.1 cM
  refine Za rfl rfl (Exec.alloc (cs := [Value.slice none 0 0, Value.slice none 0 0, Value.slice none 0 0, Vi (0), Value.bool (false)]) bl Z58 rfl rfl ?_)
  intro dj dR cb
  refine Za rfl rfl (Exec.store_box (ds := [bb, bc, bd, Vi (aH.Atom), Value.bool (aH.Add)]) (es := [bb, bc, bd, Vi (aH.Atom), Value.bool (aH.Add)]) cb A58 rfl rfl rfl rfl (Zj (b5).one (Zj (b6).one (Zj (b7).one (Zj rfl (Zj rfl one_nil))))) (Nat.le_of_ble_eq_true rfl) rfl ?_)
  intro dS aN
  refine Zb (Ze (Zc (Zc (Zd (Za rfl rfl (Exec.load_box_agg (ds := [o, p]) ((aN).f2) A69 rfl a0 rfl (Za rfl rfl (Zp F58_0 rfl rfl rfl (Za rfl rfl (Exec.load_box_agg (ds := [bb, bc, bd]) (aN) A47 rfl rfl rfl ?_))))))))))
  obtain ⟨ek, cN, b⟩ := Zg b
  refine Za rfl rfl (Tc rfl rfl rfl (Zi rfl (Zi rfl args_nil)) (ground_holds_sim cN aN (aK.mono (Zt y ar)) (bi.mono (Zt y ar)) b5 b6 b7).r ?_)
  rintro _ dT ⟨aD, bq, ac, rfl⟩
  refine Za rfl rfl (Exec.not rfl rfl (Zb (Ze ?_)))
  rcases ite_some b with ⟨ao, b⟩ | ⟨ao, b⟩
  ·refine W_cond_t rfl ao (W_exit (at_exit (ib_here (Ze (Zd (Za rfl rfl (Exec.add rfl av rfl (Za rfl rfl (Zm (v := Vi (IntKind.i64.wrap ((aR : Int) + 1))) rfl rfl (Zb (Ze ?_)))))))))))
   have dm := Zu b
   subst b9
   exact ⟨aD, (Zt ar bq), ((((((ac).drop).f4).f4).f4).f4).f4, aT, a0, aU, aV, a1, a2, a3, a4, (Eq.trans rfl (wrap_up bp (SliceRep.le aB)))⟩
  refine W_cond_f rfl ao ?_
  replace ao := Zk ao
  refine W_skip (Ze (Zc (Zd (Za rfl rfl (Zp F58_2 rfl rfl rfl (Za rfl rfl (Zn (ac) A4 rfl rfl rfl (Zb (Ze ?_)))))))))
  obtain ⟨aF, x, b⟩ := Zg b
  refine W_mid (M := fun f' w' => (un2 fun (br : BMap) (bs : BMap) => ∃ (bA : PHeap) , PHeap.le aD bA ∧ St w0 bA (Res.box ay 28 [af, ag, ah, ai, aj] :: Res.box l 69 [o, p] :: Res.box m 69 [Value.slice none 0 0, Value.slice none 0 0] :: Res.bmap Try.prog 3 4 g br :: Res.bmap Try.prog 3 4 h bs :: H) w' ∧ f' 3 = Value.pointer (some ⟨ay, 0, none⟩) ∧ f' 4 = Value.pointer (some ⟨l, 0, none⟩) ∧ f' 6 = Value.pointer (some ⟨m, 0, none⟩) ∧ f' 8 = a ∧ f' 10 = Value.map (some g) ∧ f' 11 = Value.map (some h) ∧ f' 36 = bH ∧ f' 37 = Vi ((bf.Changes.length : Int)) ∧ f' 38 = Vi ((aR : Int))) aF) ?_ ?_
  ·rcases ite_some x with ⟨ap, x⟩ | ⟨ap, x⟩
   ·refine W_cond_t rfl ap (Zd (Za rfl rfl (Zm (v := Value.map (some g)) rfl a1 (Za rfl rfl (Zp F58_1 rfl rfl rfl (Za rfl rfl (Zn (ac) A3 rfl rfl rfl ?_)))))))
    obtain ⟨d7, cO, x⟩ := Zg x
    refine Za rfl rfl (Exec.bmap_put (ac).f4 ⟨Try.underlying125, Try.underlying3, Try.underlying4⟩ rfl rfl rfl rfl cO ?_)
    intro dU cc
    refine Zb (Ze ?_)
    have dn := Zu x
    subst aF
    exact ⟨aD, (Zv _), (((((((cc).f1).drop).f4).f1).f4).f4).f4, aT, a0, aU, aV, a1, a2, a3, a4, av⟩
   refine W_cond_f rfl ap ?_
   replace ap := Zk ap
   refine Zd (Za rfl rfl (Zm (v := Value.map (some h)) rfl a2 (Za rfl rfl (Zp F58_1 rfl rfl rfl (Za rfl rfl (Zn (ac) A3 rfl rfl rfl ?_))))))
   obtain ⟨d8, cP, x⟩ := Zg x
   refine Za rfl rfl (Exec.bmap_put (ac).f5 ⟨Try.underlying125, Try.underlying3, Try.underlying4⟩ rfl rfl rfl rfl cP ?_)
   intro dV cd
   refine Zb (Ze ?_)
   have dp := Zu x
   subst aF
   exact ⟨aD, (Zv _), ((((((cd).f1).drop).f4).f4).f4).f4, aT, a0, aU, aV, a1, a2, a3, a4, av⟩
  intro d0 dW bU
  obtain ⟨br, bs⟩ := aF
  replace b := un2_eq b
  obtain ⟨cW, cn, ce, cr, ct, cu, cv, cw, cx, cy, cz, c0⟩ := bU
  refine (ib_normal (Ze (Zd (Za rfl rfl (Exec.add rfl c0 rfl (Za rfl rfl (Zm (v := Vi (IntKind.i64.wrap ((aR : Int) + 1))) rfl rfl (Zb (Ze ?_)))))))))
  have dq := Zu b
  subst b9
  exact ⟨cW, (Zt (Zt ar bq) cn), (((((ce).f4).f4).f4).f4).f4, cr, ct, cu, cv, cw, cx, cy, cz, (Eq.trans rfl (wrap_up bp (SliceRep.le aB)))⟩
 intro d1 dX bR
 obtain ⟨ad, ae⟩ := db
 replace hm := un2_eq hm
 obtain ⟨bB, z, cf, c1, c2, c3, c4, c5, c6, dB, c7, de⟩ := bR
 refine Zc (Zd (Za rfl rfl (Zq rfl de c7 (Zb (Ze (Zc (W_false (Zx (decide_eq_false (by omega))) (W_exit (at_exit (at_exit (ib_here (Ze (Zc (Zd (Za rfl rfl (Zm (v := a) rfl c4 (Za rfl rfl (Exec.build rfl (parts_cons (c := [a]) (cells_of rfl (cells_one ((aA.mono z)).one)) parts_nil) (v := Value.agg #[Value.slice none 0 0, a]) (fun _ => by kernel_rfl) (Za rfl rfl (Exec.alloc (cs := [Value.slice none 0 0, Value.slice none 0 0]) cf Z69 rfl rfl ?_))))))))))))))))))))
 intro ab dY cg
 refine Za rfl rfl (Exec.store_box (ds := [Value.slice none 0 0, a]) (es := [Value.slice none 0 0, a]) cg A69 rfl rfl rfl rfl (Zj rfl (Zj ((aA.mono z)).one one_nil)) (Nat.le_of_ble_eq_true rfl) rfl ?_)
 intro dZ bm
 refine Zb (Ze (Zc (Zc (Zd (Za rfl rfl (Zp F28_0 rfl c1 rfl (Za rfl rfl (Zn ((bm).f1) A22 rfl rfl rfl (Za rfl rfl (Zr S22 rfl rfl (aJ.mono (Zt y z)) (Za rfl rfl (Zm (v := Vi (0)) rfl rfl (Zb (Ze ?_))))))))))))))
 obtain ⟨aI, bP, hm⟩ := Zg hm
 refine W_block (W_forS (fun k' s' f' w' => (fun (aI : (List Int)) => ∃ (bC : PHeap) (j : Value), PHeap.le bB bC ∧ St w0 bC (Res.box l 69 [o, p] :: Res.box m 69 [Value.slice none 0 0, Value.slice none 0 0] :: Res.bmap Try.prog 3 4 g ad :: Res.bmap Try.prog 3 4 h ae :: Res.box ab 69 [j, a] :: Res.arr (encInt .i64) 3 j aI :: H) w' ∧ f' 4 = Value.pointer (some ⟨l, 0, none⟩) ∧ f' 6 = Value.pointer (some ⟨m, 0, none⟩) ∧ f' 10 = Value.map (some g) ∧ f' 11 = Value.map (some h) ∧ f' 14 = Value.pointer (some ⟨ab, 0, none⟩) ∧ f' 60 = Vi ((q.Atoms.length : Int)) ∧ f' 61 = Vi (k' : Int)) s') bP ?_ ?_ ?_)
 ·have ch := bm.nilArr (encInt .i64) 3
  exact ⟨bB, (Value.slice none 0 0), (Zv _), (((((((ch).f2).drop).f1).f5).f5).f5).f5, c2, c3, c5, c6, rfl, rfl, rfl⟩
 ·intro d aI cX d2 ea cm bS u
  obtain ⟨dG, j, bt, bn, a5, aW, a6, a7, aX, a8, aw⟩ := bS
  refine Zc (Zd (Za rfl rfl (Zq rfl aw a8 (Zb (Ze (Zc (W_true (Zx (decide_eq_true (by omega))) (W_skip (Ze (Zc (W_block (Zc (Zd (Za rfl rfl (Zm (v := Vi ((d : Int))) rfl aw (Za rfl rfl (Zo (v := Vi ((d : Int))) rfl rfl (Zb (Ze (Zc (Zd (Za rfl rfl (Zp F69_0 rfl a5 rfl (Za rfl rfl (Zn (bn) A24 rfl rfl rfl (Za rfl rfl (Zm (v := Vi ((d : Int))) rfl rfl ?_)))))))))))))))))))))))))))
  obtain ⟨dd, cQ, u⟩ := Zg u
  obtain ⟨bg, ax⟩ := dd
  replace u := un2_eq u
  refine Za rfl rfl (Tc rfl rfl rfl (Zi rfl (Zi rfl args_nil)) (slices_BinarySearch___int_int__sim cQ bn (aK.mono (Zt (Zt y z) bt))).r ?_)
  rintro _ eb ⟨aE, co, am, rfl⟩
  refine Za rfl rfl (Zm (v := Value.tuple #[Vi (bg), Value.bool (ax)]) rfl rfl (Za rfl rfl (Exec.extract (v := Vi (bg)) rfl rfl rfl (Za rfl rfl (Exec.extract (v := Value.bool (ax)) rfl rfl rfl (Za rfl rfl (Zo (v := Vi (bg)) rfl rfl (Za rfl rfl (Zo (v := Value.bool (ax)) rfl rfl (Zb (Ze (Zc ?_))))))))))))
  obtain ⟨al, i, u⟩ := Zg u
  refine W_mid (M := fun f' w' => (fun (al : Bool) => ∃ (bD : PHeap) , PHeap.le aE bD ∧ St w0 bD (Res.box l 69 [o, p] :: Res.box m 69 [Value.slice none 0 0, Value.slice none 0 0] :: Res.bmap Try.prog 3 4 g ad :: Res.bmap Try.prog 3 4 h ae :: Res.box ab 69 [j, a] :: Res.arr (encInt .i64) 3 j aI :: H) w' ∧ f' 4 = Value.pointer (some ⟨l, 0, none⟩) ∧ f' 6 = Value.pointer (some ⟨m, 0, none⟩) ∧ f' 10 = Value.map (some g) ∧ f' 11 = Value.map (some h) ∧ f' 14 = Value.pointer (some ⟨ab, 0, none⟩) ∧ f' 15 = Vi ((d : Int)) ∧ f' 60 = Vi ((q.Atoms.length : Int)) ∧ f' 61 = Vi ((d : Int)) ∧ f' 82 = Value.bool (al)) al) ?_ ?_
  ·refine Zd (Za rfl rfl (Zm (v := Value.map (some g)) rfl a6 (Za rfl rfl (Zm (v := Vi ((d : Int))) rfl rfl ?_))))
   obtain ⟨cR, cS, i⟩ := Zg i
   refine Za rfl rfl (Exec.bmap_get ((am).f2) ⟨Try.underlying125, Try.underlying3, Try.underlying4⟩ Z4 rfl rfl rfl cS (Za rfl rfl (Zm (v := Value.bool (cR)) rfl rfl ?_)))
   rcases ite_some i with ⟨n, i⟩ | ⟨n, i⟩
   ·refine WL_passes 8 (by rw [n]; rfl) ?_
    refine Zb (Ze ?_)
    have dr := Zu i
    subst al
    exact ⟨aE, (Zv _), ((((((am).f5).f5).f5).f5).f5).f5, a5, aW, a6, a7, aX, rfl, a8, aw, rfl⟩
   replace n := Zk n
   refine WL_run rfl (Zf rfl (Zx n)) rfl (Zm (v := Value.bool (ax)) rfl rfl (WL_run rfl (Zf rfl (Zx n)) rfl (Zm (v := Value.bool (ax)) rfl rfl ?_)))
   rcases ite_some i with ⟨t, i⟩ | ⟨t, i⟩
   ·refine WL_run rfl (Zf rfl (Zx t)) rfl (Zm (v := Value.map (some h)) rfl a7 (WL_run rfl (Zf rfl (Zx t)) rfl (Zm (v := Vi ((d : Int))) rfl rfl ?_)))
    obtain ⟨b4, cT, i⟩ := Zg i
    refine WL_run rfl (Zf rfl (Zx t)) rfl (Exec.bmap_get ((am).f3) ⟨Try.underlying125, Try.underlying3, Try.underlying4⟩ Z4 rfl rfl rfl cT (WL_run rfl (Zf rfl (Zx t)) rfl (Exec.not rfl rfl (WL_run rfl (Zf rfl (Zx n)) rfl (Zs (v := Value.bool (!b4)) rfl (Zx t) rfl (Za rfl rfl (Exec.pick_f (v := Value.bool (!b4)) rfl (Zx n) rfl (Zb (Ze ?_)))))))))
    have dt := Zu i
    subst al
    exact ⟨aE, (Zv _), ((((((am).f5).f5).f5).f5).f5).f5, a5, aW, a6, a7, aX, rfl, a8, aw, rfl⟩
   replace t := Zk t
   refine WL_passes 4 (by rw [t]; rfl) ?_
   refine WL_run rfl (Zf rfl (Zx n)) rfl (Exec.pick_f (v := Value.bool (false)) rfl rfl rfl (Za rfl rfl (Exec.pick_f (v := Value.bool (false)) rfl (Zx n) rfl (Zb (Ze ?_)))))
   have du := Zu i
   subst al
   exact ⟨aE, (Zv _), ((((((am).f5).f5).f5).f5).f5).f5, a5, aW, a6, a7, aX, rfl, a8, aw, rfl⟩
  intro d3 ec bV
  obtain ⟨aZ, cp, aO, bv, bw, bx, bz, a9, c8, b0, b1, b2⟩ := bV
  refine (Ze ?_)
  obtain ⟨au, aa, u⟩ := Zg u
  refine W_mid (M := fun f' w' => (fun (au : (List Int)) => ∃ (bE : PHeap) (aG : Value), PHeap.le aZ bE ∧ St w0 bE (Res.box l 69 [o, p] :: Res.box m 69 [Value.slice none 0 0, Value.slice none 0 0] :: Res.bmap Try.prog 3 4 g ad :: Res.bmap Try.prog 3 4 h ae :: Res.box ab 69 [aG, a] :: Res.arr (encInt .i64) 3 aG au :: H) w' ∧ f' 4 = Value.pointer (some ⟨l, 0, none⟩) ∧ f' 6 = Value.pointer (some ⟨m, 0, none⟩) ∧ f' 10 = Value.map (some g) ∧ f' 11 = Value.map (some h) ∧ f' 14 = Value.pointer (some ⟨ab, 0, none⟩) ∧ f' 60 = Vi ((q.Atoms.length : Int)) ∧ f' 61 = Vi ((d : Int))) au) ?_ ?_
  ·rcases ite_some aa with ⟨aq, aa⟩ | ⟨aq, aa⟩
   ·refine W_cond_t b2 aq (Zd (Za rfl rfl (Zp F69_0 rfl a9 rfl (Za rfl rfl (Zn ((aO).f4) A24 rfl rfl rfl (Za rfl rfl (Zm (v := Vi ((d : Int))) rfl c8 (Za rfl rfl (Exec.buildSlice (Te := 3) (cs := [Vi ((d : Int))]) aO rfl (parts_cons (c := [Vi ((d : Int))]) (cells_of rfl rfl) parts_nil) (fun _ => by kernel_rfl) ?_)))))))))
    intro dk ed ci
    obtain ⟨d6, cU, aa⟩ := Zg aa
    refine Za rfl rfl (Exec.append_box (E := (encInt .i64)) (ys := [(d : Int)]) (ci).f6 S24 Z3 rfl (by decide) rfl rfl rfl rfl ⟨[Vi ((d : Int))], [], rfl, rfl, rfl⟩ rfl cU ?_)
    intro be ee aP
    refine Za rfl rfl (Zp F69_0 rfl a9 rfl (Za rfl rfl (Exec.store_box (ds := [be]) (es := [be, a]) (aP).f5 A24 rfl rfl rfl (cells_one (((aP).f5).f1).arr_one) (Zj (((aP).f5).f1).arr_one one_nil) (Nat.le_of_ble_eq_true rfl) rfl ?_)))
    intro ef cj
    refine Zb (Ze ?_)
    have dv := Zu aa
    subst au
    exact ⟨aZ, be, (Zv _), ((((((cj).f1).f1).f5).f5).f5).f5, bv, bw, bx, bz, a9, b0, b1⟩
   refine W_cond_f b2 aq ?_
   replace aq := Zk aq
   refine W_skip (Ze ?_)
   have dw := Zu aa
   subst au
   exact ⟨aZ, j, (Zv _), ((((((aO).f5).f5).f5).f5).f5).f5, bv, bw, bx, bz, a9, b0, b1⟩
  intro d4 eg bW
  obtain ⟨cY, aG, cq, ck, c9, cA, cB, cC, cD, cE, cF⟩ := bW
  refine (ib_normal (Ze (Zd (Za rfl rfl (Exec.add rfl cF rfl (Za rfl rfl (Zm (v := Vi (IntKind.i64.wrap ((d : Int) + 1))) rfl rfl (Zb (Ze ?_)))))))))
  have dx := Zu u
  subst cX
  exact ⟨cY, aG, (Zt (Zt (Zt bt co) cp) cq), ((((((ck).f5).f5).f5).f5).f5).f5, c9, cA, cB, cC, cD, cE, (Eq.trans rfl (wrap_up cm (SliceRep.le (aJ.mono (Zt y z)))))⟩
 intro d5 eh bT
 obtain ⟨dH, j, aS, aQ, dC, b3, dD, dE, cG, cH, df⟩ := bT
 refine Zc (Zd (Za rfl rfl (Zq rfl df cH (Zb (Ze (Zc (W_false (Zx (decide_eq_false (by omega))) (W_exit (at_exit (at_exit (ib_here (Ze (Zc (Zd (Za rfl rfl (Exec.load_box_agg (ds := [j, a]) ((aQ).f4) A69 rfl cG rfl (Za rfl rfl (Exec.store_box (ds := [j, a]) (es := [j, a]) (aQ).f1 A69 rfl b3 rfl rfl (Zj (((aQ).f1).f5).arr_one (Zj ((aA.mono (Zt z aS))).one one_nil)) (Nat.le_of_ble_eq_true rfl) rfl ?_))))))))))))))))))
 intro ei bo
 refine Za rfl rfl (Zo (v := errV 41 (none)) rfl rfl (Zb (Ze (W_ret ?_))))
 have dy := Zu hm
 subst r
 refine ⟨_, retG2 rfl ⟨_, _, b3, cellRes (bo) A69⟩ rfl, ?_⟩
 obtain ⟨cZ, bu, cl, cV⟩ := (bo).f5.freezeArr
 exact ⟨cZ, j, a, (Zt (Zt (Zt y z) aS) bu), (((((cl).drop).drop).drop).drop).drop, (tup2 rfl rfl), cV, (aA.mono (Zt (Zt z aS) bu))⟩
theorem law19_replaced_sim {w0 w : World} {s : PHeap} {H : List Res} {fu : Nat} {ad : Ground} {ar : GState} {av : GState} {ac : Int} {m : Value} {n : Value} {o : Value} {p : Value} {q : Value} {t : Value} {u : Value} {x : Value} {y : Value} {r : Bool} (hm : law19_replaced_p fu ad ar av ac = some r) (hS : St w0 s (H) w) (aA : SliceRep encAtom s m ad.Atoms) (aB : SliceRep encGFluent s n ad.Fluents) (aC : SliceRep (encInt .i64) s o ad.Init) (aD : SliceRep encCond s p ad.Goal) (ap : SliceRep encGOp s q ad.Ops) (aE : SliceRep (encInt .i64) s t ar.True) (aF : SliceRep (encInt .i64) s u ar.Values) (aG : SliceRep (encInt .i64) s x av.True) (aH : SliceRep (encInt .i64) s y av.Values) :
  Calls Try.prog 30 #[Value.agg #[m, n, o, p, q], Value.agg #[t, u], Value.agg #[x, y], Vi (ac)] w fun e w' => ∃ v, e = .returned v ∧ ((fun (bq : Bool) => ∃ (a5 : PHeap) , PHeap.le s a5 ∧ St w0 a5 (H) w' ∧ v = Value.bool (bq)) r) := by
 unfold law19_replaced_p at hm
 refine calls_of_W Try.func30 rfl rfl (Zc (Zd (Za rfl rfl (Exec.box (cs := [m, n, o, p, q]) hS rfl rfl rfl ?_))))
 intro z bC aN
 refine Za rfl rfl (Exec.box (cs := [t, u]) aN rfl rfl rfl ?_)
 intro aa bD aO
 refine Za rfl rfl (Exec.box (cs := [x, y]) aO rfl rfl rfl ?_)
 intro ab bE aP
 refine Za rfl rfl (Zo (v := Value.bool (false)) rfl rfl (Zb (Ze (Zc (Zc (Zd (Za rfl rfl (Zo (v := Vi (0)) rfl rfl (Zb (Ze ?_))))))))))
 obtain ⟨aw, aJ, aY, aW, aV⟩ := ctl_some hm
 refine W_mid (M := fun f' w' => ∃ s', (aw = .next s' ∨ aw = .brk s') ∧ (fun (a0 : Int) => ∃ (a6 : PHeap) , PHeap.le s a6 ∧ St w0 a6 (Res.box z 28 [m, n, o, p, q] :: Res.box aa 69 [t, u] :: Res.box ab 69 [x, y] :: H) w' ∧ f' 3 = Vi (ac) ∧ f' 4 = Value.pointer (some ⟨z, 0, none⟩) ∧ f' 5 = Value.pointer (some ⟨aa, 0, none⟩) ∧ f' 6 = Value.pointer (some ⟨ab, 0, none⟩) ∧ f' 9 = Vi (a0)) s') ?_ ?_
 ·refine W_block (W_while (fun s' f' w' => (fun (i : Int) => ∃ (a7 : PHeap) , PHeap.le s a7 ∧ St w0 a7 (Res.box z 28 [m, n, o, p, q] :: Res.box aa 69 [t, u] :: Res.box ab 69 [x, y] :: H) w' ∧ f' 3 = Vi (ac) ∧ f' 4 = Value.pointer (some ⟨z, 0, none⟩) ∧ f' 5 = Value.pointer (some ⟨aa, 0, none⟩) ∧ f' 6 = Value.pointer (some ⟨ab, 0, none⟩) ∧ f' 9 = Vi (i)) s') aJ ?_ ?_)
  ·have aQ := (aP).f1
   exact ⟨s, (Zv _), (aQ).f2, rfl, rfl, rfl, rfl, rfl⟩
  intro i aq b3 bF aK a az
  obtain ⟨bk, b, af, aj, k, ak, al, l⟩ := aK
  refine Zc (Zc (Zd (Za rfl rfl (Zm (v := Vi (i)) rfl l (Za rfl rfl (Zp F28_4 rfl k rfl (Za rfl rfl (Zn (af) A26 rfl rfl rfl (Za rfl rfl (Zr S26 rfl rfl (ap.mono b) (Za rfl rfl (Zq rfl rfl rfl (Zb (Ze ?_))))))))))))))
  rcases ite_some a with ⟨ag, a⟩ | ⟨ag, a⟩
  ·refine W_cond_t rfl ag (W_skip (Ze (Zc (W_block (Zc (Zd (Za rfl rfl (Exec.load_box_agg (ds := [m, n, o, p, q]) (af) A28 rfl k rfl (Za rfl rfl (Exec.load_box_agg (ds := [t, u]) ((af).f1) A69 rfl ak rfl (Za rfl rfl (Zm (v := Vi (i)) rfl l ?_))))))))))))
   obtain ⟨bn, bg, a⟩ := Zg a
   obtain ⟨ao, bM⟩ := bn
   replace a := un2_eq a
   refine Za rfl rfl (Tc rfl rfl rfl (Zi rfl (Zi rfl (Zi rfl args_nil))) (ground_Apply_sim bg af (aA.mono b) (aB.mono b) (aC.mono b) (aD.mono b) (ap.mono b) (aE.mono b) (aF.mono b)).r ?_)
   rintro _ bG ⟨au, am, an, ai, aR, rfl, a3, a4⟩
   refine Za rfl rfl (Zm (v := Value.tuple #[Value.agg #[am, an], errV 41 (ao)]) rfl rfl (Za rfl rfl (Exec.extract (v := Value.agg #[am, an]) rfl rfl rfl (Za rfl rfl (Exec.extract (v := errV 41 (ao)) rfl rfl rfl (Za rfl rfl (Exec.alloc (cs := [Value.slice none 0 0, Value.slice none 0 0]) aR Z69 rfl rfl ?_)))))))
   intro bs bH aS
   refine Za rfl rfl (Exec.store_box (ds := [am, an]) (es := [am, an]) aS A69 rfl rfl rfl rfl (Zj (a3).one (Zj (a4).one one_nil)) (Nat.le_of_ble_eq_true rfl) rfl ?_)
   intro bI j
   refine Za rfl rfl (Zo (v := errV 41 (ao)) rfl rfl (Zb (Ze (Zc ?_))))
   obtain ⟨ae, d, a⟩ := Zg a
   refine W_mid (M := fun f' w' => (fun (ae : Bool) => ∃ (a8 : PHeap) , PHeap.le au a8 ∧ St w0 a8 (Res.box z 28 [m, n, o, p, q] :: Res.box aa 69 [t, u] :: Res.box ab 69 [x, y] :: H) w' ∧ f' 3 = Vi (ac) ∧ f' 4 = Value.pointer (some ⟨z, 0, none⟩) ∧ f' 5 = Value.pointer (some ⟨aa, 0, none⟩) ∧ f' 6 = Value.pointer (some ⟨ab, 0, none⟩) ∧ f' 9 = Vi (i) ∧ f' 42 = Value.bool (ae)) ae) ?_ ?_
   ·refine Zd (Za rfl rfl (Zm (v := errV 41 (ao)) rfl rfl (Za rfl rfl (Exec.err_eql_nil (T := 41) Try.underlying34 rfl rfl rfl (Za rfl rfl (Zm (v := Value.bool (ao.isNone)) rfl rfl ?_))))))
    rcases ite_some d with ⟨c, d⟩ | ⟨c, d⟩
    ·refine WL_run rfl (Zf rfl (Zx c)) rfl (Zp F28_4 rfl k rfl (WL_run rfl (Zf rfl (Zx c)) rfl (Zn ((j).f1) A26 rfl rfl rfl (WL_run rfl (Zf rfl (Zx c)) rfl (Zm (v := Vi (i)) rfl l ?_)))))
     obtain ⟨bp, bh, d⟩ := Zg d
     refine WL_run rfl (Zf rfl (Zx c)) rfl (Exec.index_rep S26 rfl rfl rfl (ap.mono (Zt b ai)) bh ?_)
     intro bt b6 aI
     refine WL_run rfl (Zf rfl (Zx c)) rfl (Zp F51_1 rfl rfl rfl (WL_run rfl (Zf rfl (Zx c)) rfl (Zw (E := (encInt .i64)) j A3 rfl rfl rfl (aI.sub (Sub.iso (Sub.snd (Sub.fst (Sub.refl _)) rfl)) rfl) ?_)))
     intro bo bi
     obtain rfl : bo = Vi (bp.Cost) := encInt_val.1 bi
     refine WL_run rfl (Zf rfl (Zx c)) rfl (Zm (v := Vi (ac)) rfl aj (WL_run rfl (Zf rfl (Zx c)) rfl (Exec.leq rfl rfl rfl ?_)))
     refine WL_passes 2 (by rw [c]; rfl) ?_
     rcases ite_some d with ⟨g, d⟩ | ⟨g, d⟩
     ·refine WL_run rfl (Zf rfl (Zx g)) rfl (Exec.load_box_agg (ds := [am, an]) (j) A69 rfl rfl rfl (WL_run rfl (Zf rfl (Zx g)) rfl (Exec.load_box_agg (ds := [x, y]) ((j).f3) A69 rfl al rfl ?_)))
      obtain ⟨br, bj, d⟩ := Zg d
      refine WL_run rfl (Zf rfl (Zx g)) rfl (Tc rfl rfl rfl (Zi rfl (Zi rfl args_nil)) (ref18_SameState_sim bj j a3 a4 (aG.mono (Zt b ai)) (aH.mono (Zt b ai))).r ?_)
      rintro _ bJ ⟨bl, aZ, aT, rfl⟩
      refine Za rfl rfl (Zs (v := Value.bool (br)) rfl (Zx g) rfl (Zb (Ze ?_)))
      have bu := Zu d
      subst ae
      exact ⟨bl, aZ, ((((aT).drop).f2).f2).f2, aj, k, ak, al, l, rfl⟩
     replace g := Zk g
     refine WL_passes 4 (by rw [g]; rfl) ?_
     refine Zb (Ze ?_)
     have bv := Zu d
     subst ae
     exact ⟨au, (Zv _), ((((j).drop).f2).f2).f2, aj, k, ak, al, l, rfl⟩
    replace c := Zk c
    refine WL_passes 14 (by rw [c]; rfl) ?_
    refine Zb (Ze ?_)
    have bw := Zu d
    subst ae
    exact ⟨au, (Zv _), ((((j).drop).f2).f2).f2, aj, k, ak, al, l, rfl⟩
   intro b4 bK aL
   obtain ⟨a9, a1, ax, bb, bc, bd, be, bf, a2⟩ := aL
   refine (Ze ?_)
   rcases ite_some a with ⟨ah, a⟩ | ⟨ah, a⟩
   ·refine W_cond_t a2 ah (Zc (Zd (Za rfl rfl (Zo (v := Value.bool (true)) rfl rfl (Zb (Ze (W_ret (ib_ret (at_ret (at_ret (ib_ret (at_ret (at_ret ?_)))))))))))))
    have bx := Zu a
    subst aq
    have aX := aY _ (az (by intro _ h; cases h))
    have bz := Zu aX
    subst r
    refine ⟨_, ret1 rfl, ?_⟩
    exact ⟨a9, (Zt (Zt b ai) a1), (((ax).drop).drop).drop, rfl⟩
   refine W_cond_f a2 ah ?_
   replace ah := Zk ah
   refine W_skip (ib_normal (Ze (Zd (Za rfl rfl (Zm (v := Vi (i)) rfl bf (Za rfl rfl (Exec.add rfl rfl rfl (Za rfl rfl (Zo (v := Vi (IntKind.i64.wrap (i + 1))) rfl rfl (Zb (Ze ?_)))))))))))
   have b0 := Zu a
   subst aq
   refine ⟨_, rfl, ?_⟩; exact ⟨a9, (Zt (Zt b ai) a1), (((ax).f2).f2).f2, bb, bc, bd, be, rfl⟩
  refine W_cond_f rfl ag ?_
  replace ag := Zk ag
  refine W_exit (at_exit (at_exit (ib_here (Ze ?_))))
  have b1 := Zu a
  subst aq
  refine ⟨_, .inr (az (by intro _ h; cases h)), ?_⟩; exact ⟨bk, b, (((af).f2).f2).f2, aj, k, ak, al, l⟩
 rintro b5 bL ⟨a0, ay, aM⟩
 have hm := ay.elim (aW _) (aV _)
 clear ay
 obtain ⟨bm, ba, aU, b7, b8, b9, bA, bB⟩ := aM
 refine (Ze (Zc (Zd (Za rfl rfl (Zo (v := Value.bool (false)) rfl rfl (Zb (Ze (W_ret ?_))))))))
 have b2 := Zu hm
 subst r
 refine ⟨_, ret1 rfl, ?_⟩
 exact ⟨bm, ba, (((aU).drop).drop).drop, rfl⟩
theorem A5 : tyAgg Try.prog 5 = some (false, 1) := by kernel_rfl
theorem law19_SimplifyFollows_sim {w0 w : World} {s : PHeap} {H : List Res} {fu : Nat} {aF : Ground} {cn : (List Int)} {ae : Value} {af : Value} {ag : Value} {ah : Value} {ai : Value} {a2 : Value} {r : Bool} (hm : law19_SimplifyFollows_p fu aF cn = some r) (hS : St w0 s (H) w) (bc : SliceRep encAtom s ae aF.Atoms) (bd : SliceRep encGFluent s af aF.Fluents) (bo : SliceRep (encInt .i64) s ag aF.Init) (bp : SliceRep encCond s ah aF.Goal) (aE : SliceRep encGOp s ai aF.Ops) (cf : SliceRep (encInt .u8) s a2 cn) :
  Calls Try.prog 9 #[Value.agg #[ae, af, ag, ah, ai], a2] w fun e w' => ∃ v, e = .returned v ∧ ((fun (g6 : Bool) => ∃ (dK : PHeap) , PHeap.le s dK ∧ St w0 dK (H) w' ∧ v = Value.bool (g6)) r) := by
 unfold law19_SimplifyFollows_p at hm
 refine calls_of_W Try.func9 rfl rfl (Zc (Zd (Za rfl rfl (Exec.box (cs := [ae, af, ag, ah, ai]) hS rfl rfl rfl ?_))))
 intro ad iz df
 refine Za rfl rfl (Zo (v := Value.bool (false)) rfl rfl (Zb (Ze (Zc (Zc ?_)))))
 obtain ⟨b2, ax, hm⟩ := Zg hm
 refine W_mid (M := fun f' w' => (fun (b2 : Bool) => ∃ (dL : PHeap) , PHeap.le s dL ∧ St w0 dL (Res.box ad 28 [ae, af, ag, ah, ai] :: H) w' ∧ f' 1 = a2 ∧ f' 2 = Value.pointer (some ⟨ad, 0, none⟩) ∧ f' 34 = Value.bool (b2)) b2) ?_ ?_
 ·refine Zd (Za rfl rfl (Exec.load_box_agg (ds := [ae, af, ag, ah, ai]) (df) A28 rfl rfl rfl ?_))
  obtain ⟨g7, fs, ax⟩ := Zg ax
  refine Za rfl rfl (Tc rfl rfl rfl (Zi rfl args_nil) (law18_Large_sim fs df bc bd bo bp aE).r ?_)
  rintro _ i0 ⟨cT, b7, bE, rfl⟩
  refine Za rfl rfl (Zm (v := Value.bool (g7)) rfl rfl ?_)
  rcases ite_some ax with ⟨aT, ax⟩ | ⟨aT, ax⟩
  ·refine WL_passes 14 (by rw [aT]; rfl) ?_
   refine Zb (Ze ?_)
   have gO := Zu ax
   subst b2
   exact ⟨cT, b7, bE, rfl, rfl, rfl⟩
  replace aT := Zk aT
  refine WL_run rfl (Zf rfl (Zx aT)) rfl (Zp F28_4 rfl rfl rfl (WL_run rfl (Zf rfl (Zx aT)) rfl (Zn (bE) A26 rfl rfl rfl (WL_run rfl (Zf rfl (Zx aT)) rfl (Zr S26 rfl rfl (aE.mono b7) (WL_run rfl (Zf rfl (Zx aT)) rfl (Exec.gtr rfl rfl rfl ?_)))))))
  refine WL_passes 2 (by rw [aT]; rfl) ?_
  rcases ite_some ax with ⟨bh, ax⟩ | ⟨bh, ax⟩
  ·refine WL_passes 8 (by rw [bh]; rfl) ?_
   refine Zb (Ze ?_)
   have gP := Zu ax
   subst b2
   exact ⟨cT, b7, bE, rfl, rfl, rfl⟩
  replace bh := Zk bh
  refine WL_run rfl (Zf rfl (Zx bh)) rfl (Zm (v := a2) rfl rfl (WL_run rfl (Zf rfl (Zx bh)) rfl (Zr S67 rfl rfl (cf.mono b7) (WL_run rfl (Zf rfl (Zx bh)) rfl (Exec.gtr rfl rfl rfl ?_)))))
  refine WL_passes 2 (by rw [bh]; rfl) ?_
  rcases ite_some ax with ⟨br, ax⟩ | ⟨br, ax⟩
  ·refine WL_passes 3 (by rw [br]; rfl) ?_
   refine Zb (Ze ?_)
   have gQ := Zu ax
   subst b2
   exact ⟨cT, b7, bE, rfl, rfl, rfl⟩
  replace br := Zk br
  obtain ⟨g8, ft, ax⟩ := Zg ax
  refine WL_run rfl (Zf rfl (Zx br)) rfl (Tc rfl rfl rfl args_nil (law19_awake_sim ft bE ).r ?_)
  rintro _ i1 ⟨gh, eU, ex, rfl⟩
  refine WL_run rfl (Zf rfl (Zx br)) rfl (Exec.not rfl rfl (Za rfl rfl (Exec.pick_f (v := Value.bool (!g8)) rfl (Zx br) rfl (Zb (Ze ?_)))))
  have gR := Zu ax
  subst b2
  exact ⟨gh, (Zt b7 eU), ex, rfl, rfl, rfl⟩
 intro h4 i2 en
 obtain ⟨hY, n, c2, c7, bi, dz⟩ := en
 refine (Ze ?_)
 rcases ite_some hm with ⟨bI, hm⟩ | ⟨bI, hm⟩
 ·refine W_cond_t dz bI (Zc (Zd ?_))
  obtain ⟨g9, fv, hm⟩ := Zg hm
  refine Za rfl rfl (Tc rfl rfl rfl args_nil (law19_awake_sim fv c2 ).r ?_)
  rintro _ i3 ⟨gi, eV, ey, rfl⟩
  refine Za rfl rfl (Zo (v := Value.bool (g9)) rfl rfl (Zb (Ze (W_ret (at_ret ?_)))))
  have gS := Zu hm
  subst r
  refine ⟨_, ret1 rfl, ?_⟩
  exact ⟨gi, (Zt n eV), (ey).drop, rfl⟩
 refine W_cond_f dz bI ?_
 replace bI := Zk bI
 refine W_skip (Ze (Zc (Zd (Za rfl rfl (Exec.load_box_agg (ds := [ae, af, ag, ah, ai]) (c2) A28 rfl bi rfl ?_)))))
 obtain ⟨gr, fw, hm⟩ := Zg hm
 obtain ⟨c0, gA, b1⟩ := gr
 replace hm := un3_eq hm
 refine Za rfl rfl (Tc rfl rfl rfl (Zi rfl args_nil) (simplify_Simplify_sim fw c2 (bc.mono n) (bd.mono n) (bo.mono n) (bp.mono n) (aE.mono n)).r ?_)
 rintro _ i4 ⟨cr, aj, ak, al, am, an, au, av, aw, p, ez, rfl, bW, bX, bY, bZ, bj, bv, bw, bk⟩
 refine Za rfl rfl (Zm (v := Value.tuple #[Value.agg #[aj, ak, al, am, an], Value.agg #[au, av, aw], errV 41 (c0)]) rfl rfl (Za rfl rfl (Exec.extract (v := Value.agg #[aj, ak, al, am, an]) rfl rfl rfl (Za rfl rfl (Exec.extract (v := Value.agg #[au, av, aw]) rfl rfl rfl (Za rfl rfl (Exec.extract (v := errV 41 (c0)) rfl rfl rfl (Za rfl rfl (Exec.alloc (cs := [Value.slice none 0 0, Value.slice none 0 0, Value.slice none 0 0, Value.slice none 0 0, Value.slice none 0 0]) ez Z28 rfl rfl ?_)))))))))
 intro ao i5 e0
 refine Za rfl rfl (Exec.alloc (cs := [Value.slice none 0 0, Value.slice none 0 0, Value.slice none 0 0]) e0 Z32 rfl rfl ?_)
 intro ap i6 e1
 refine Za rfl rfl (Exec.store_box (ds := [aj, ak, al, am, an]) (es := [aj, ak, al, am, an]) (e1).f1 A28 rfl rfl rfl rfl (Zj (bW).one (Zj (bX).one (Zj (bY).one (Zj (bZ).one (Zj (bj).one one_nil))))) (Nat.le_of_ble_eq_true rfl) rfl ?_)
 intro i7 e2
 refine Za rfl rfl (Exec.store_box (ds := [au, av, aw]) (es := [au, av, aw]) (e2).f1 A32 rfl rfl rfl rfl (Zj (bv).one (Zj (bw).one (Zj (bk).one one_nil))) (Nat.le_of_ble_eq_true rfl) rfl ?_)
 intro i8 aM
 refine Za rfl rfl (Zo (v := errV 41 (c0)) rfl rfl (Zb (Ze (Zc (Zc (Zd (Za rfl rfl (Zm (v := errV 41 (c0)) rfl rfl (Za rfl rfl (Exec.err_neq_nil (T := 41) Try.underlying34 rfl rfl rfl (Zb (Ze ?_))))))))))))
 rcases ite_some hm with ⟨bJ, hm⟩ | ⟨bJ, hm⟩
 ·refine W_cond_t rfl bJ (Zc (Zd (Za rfl rfl (Exec.load_box_agg (ds := [ae, af, ag, ah, ai]) ((aM).f2) A28 rfl bi rfl ?_))))
  obtain ⟨gB, fx, hm⟩ := Zg hm
  refine Za rfl rfl (Tc rfl rfl rfl (Zi rfl args_nil) (ground_Valid_sim fx aM (bc.mono (Zt n p)) (bd.mono (Zt n p)) (bo.mono (Zt n p)) (bp.mono (Zt n p)) (aE.mono (Zt n p))).r ?_)
  rintro _ i9 ⟨gj, eW, e3, rfl⟩
  refine Za rfl rfl (Exec.not rfl rfl (Za rfl rfl (Zo (v := Value.bool (!gB)) rfl rfl (Zb (Ze (W_ret (at_ret ?_)))))))
  have gT := Zu hm
  subst r
  refine ⟨_, ret1 rfl, ?_⟩
  exact ⟨gj, (Zt (Zt n p) eW), (((e3).drop).drop).drop, rfl⟩
 refine W_cond_f rfl bJ ?_
 replace bJ := Zk bJ
 refine W_skip (Ze (Zc (Zc (W_mid (M := fun f' w' => ∃ (dM : PHeap) , PHeap.le cr dM ∧ St w0 dM (Res.box ad 28 [ae, af, ag, ah, ai] :: Res.box ao 28 [aj, ak, al, am, an] :: Res.box ap 32 [au, av, aw] :: H) w' ∧ f' 1 = a2 ∧ f' 2 = Value.pointer (some ⟨ad, 0, none⟩) ∧ f' 5 = Value.pointer (some ⟨ao, 0, none⟩) ∧ f' 6 = Value.pointer (some ⟨ap, 0, none⟩) ∧ f' 71 = Value.bool (((!decide ((b1.Atoms.length : Int) = (aF.Atoms.length : Int))) || ((!decide ((b1.Fluents.length : Int) = (aF.Fluents.length : Int))) || !decide ((b1.Ops.length : Int) = (aF.Ops.length : Int)))))) ?_ ?_))))
 ·refine Zd (Za rfl rfl (Zp F32_0 rfl rfl rfl (Za rfl rfl (Zn (aM) A24 rfl rfl rfl (Za rfl rfl (Zr S24 rfl rfl bv (Za rfl rfl (Zp F28_0 rfl bi rfl (Za rfl rfl (Zn ((aM).f2) A22 rfl rfl rfl (Za rfl rfl (Zr S22 rfl rfl (bc.mono (Zt n p)) (Za rfl rfl (Exec.neq rfl rfl rfl (Za rfl rfl (Zm (v := Value.bool (!decide ((b1.Atoms.length : Int) = (aF.Atoms.length : Int)))) rfl rfl ?_))))))))))))))))
  by_cases a8 : (!decide ((b1.Atoms.length : Int) = (aF.Atoms.length : Int))) = true
  ·refine WL_passes 17 (by rw [a8]; rfl) ?_
   refine Zb (Ze ?_)
   exact ⟨cr, (Zv _), ((aM).f1).f2, c7, bi, rfl, rfl, (Zx (or_t a8)).symm⟩
  replace a8 := Zk a8
  refine WL_run rfl (Zf rfl (Zx a8)) rfl (Zp F32_1 rfl rfl rfl (WL_run rfl (Zf rfl (Zx a8)) rfl (Zn (aM) A24 rfl rfl rfl (WL_run rfl (Zf rfl (Zx a8)) rfl (Zr S24 rfl rfl bw (WL_run rfl (Zf rfl (Zx a8)) rfl (Zp F28_1 rfl bi rfl (WL_run rfl (Zf rfl (Zx a8)) rfl (Zn ((aM).f2) A23 rfl rfl rfl (WL_run rfl (Zf rfl (Zx a8)) rfl (Zr S23 rfl rfl (bd.mono (Zt n p)) (WL_run rfl (Zf rfl (Zx a8)) rfl (Exec.neq rfl rfl rfl ?_)))))))))))))
  refine WL_passes 2 (by rw [a8]; rfl) ?_
  by_cases aG : (!decide ((b1.Fluents.length : Int) = (aF.Fluents.length : Int))) = true
  ·refine WL_passes 8 (by rw [aG]; rfl) ?_
   refine Zb (Ze ?_)
   exact ⟨cr, (Zv _), ((aM).f1).f2, c7, bi, rfl, rfl, (Zx (Eq.trans (or_f a8) (or_t aG))).symm⟩
  replace aG := Zk aG
  refine WL_run rfl (Zf rfl (Zx aG)) rfl (Zp F32_2 rfl rfl rfl (WL_run rfl (Zf rfl (Zx aG)) rfl (Zn (aM) A24 rfl rfl rfl (WL_run rfl (Zf rfl (Zx aG)) rfl (Zr S24 rfl rfl bk (WL_run rfl (Zf rfl (Zx aG)) rfl (Zp F28_4 rfl bi rfl (WL_run rfl (Zf rfl (Zx aG)) rfl (Zn ((aM).f2) A26 rfl rfl rfl (WL_run rfl (Zf rfl (Zx aG)) rfl (Zr S26 rfl rfl (aE.mono (Zt n p)) (WL_run rfl (Zf rfl (Zx aG)) rfl (Exec.neq rfl rfl rfl (Za rfl rfl (Exec.pick_f (v := Value.bool (!decide ((b1.Ops.length : Int) = (aF.Ops.length : Int)))) rfl (Zx aG) rfl (Zb (Ze ?_)))))))))))))))))
  exact ⟨cr, (Zv _), ((aM).f1).f2, c7, bi, rfl, rfl, (Zx (Eq.trans (or_f a8) (or_f aG))).symm⟩
 intro h5 iA eo
 obtain ⟨gk, a, c3, eZ, d0, c8, d1, d2⟩ := eo
 refine (Ze ?_)
 rcases ite_some hm with ⟨bK, hm⟩ | ⟨bK, hm⟩
 ·refine W_cond_t d2 bK (Zc (Zd (Za rfl rfl (Zo (v := Value.bool (false)) rfl rfl (Zb (Ze (W_ret (at_ret ?_))))))))
  have gU := Zu hm
  subst r
  refine ⟨_, ret1 rfl, ?_⟩
  exact ⟨gk, (Zt (Zt n p) a), (((c3).drop).drop).drop, rfl⟩
 refine W_cond_f d2 bK ?_
 replace bK := Zk bK
 refine W_skip (Ze (Zc (Zd (Za rfl rfl (Exec.load_box_agg (ds := [ae, af, ag, ah, ai]) (c3) A28 rfl d0 rfl ?_)))))
 obtain ⟨jm, fy, hm⟩ := Zg hm
 refine Za rfl rfl (Tc rfl rfl rfl (Zi rfl args_nil) (ground_Initial_sim fy c3 (bc.mono (Zt (Zt n p) a)) (bd.mono (Zt (Zt n p) a)) (bo.mono (Zt (Zt n p) a)) (bp.mono (Zt (Zt n p) a)) (aE.mono (Zt (Zt n p) a))).r ?_)
 rintro _ iB ⟨hZ, cy, cz, b, e4, rfl, cR, cS⟩
 refine Za rfl rfl (Exec.alloc (cs := [Value.slice none 0 0, Value.slice none 0 0]) e4 Z69 rfl rfl ?_)
 intro a0 iC e5
 refine Za rfl rfl (Exec.store_box (ds := [cy, cz]) (es := [cy, cz]) e5 A69 rfl rfl rfl rfl (Zj (cR).one (Zj (cS).one one_nil)) (Nat.le_of_ble_eq_true rfl) rfl ?_)
 intro iD cg
 refine Zb (Ze (Zc (Zc (W_dl (n0 := 7) (.q 0 (.q 1 (.q 3 (.e 2 [3] (.e 4 [] (.e 5 [] (.q 6 .done))))))) hmix (by kernel_rfl) (by kernel_rfl) (DL_q rfl rfl (Exec.load_box_agg (ds := [cy, cz]) (cg.drew) A69 rfl rfl rfl ⟨rfl, ?_⟩))))))
 refine DL_q rfl rfl (Exec.load_box_agg (ds := [au, av, aw]) ((cg.drew).f3) A32 rfl d1 rfl ⟨rfl, ?_⟩)
 refine DL_q rfl rfl (Exec.load_box_agg (ds := [aj, ak, al, am, an]) ((cg.drew).f2) A28 rfl c8 rfl ⟨rfl, ?_⟩)
 obtain ⟨jn, fz, hm⟩ := Zg hm
 refine DL_e rfl rfl (Tc rfl rfl rfl (Zi rfl (Zi rfl args_nil)) (law19_project_sim fz cg.drew cR cS (bv.mono (Zt a b)) (bw.mono (Zt a b)) (bk.mono (Zt a b))).r ?_)
 rintro _ iE ⟨ia, ik, il, d, dg, rfl, fW, fX⟩
 refine ⟨(ag_cons (ag_r rfl rfl (Exec.load_box_agg (ds := [aj, ak, al, am, an]) ((dg).f2) A28 rfl c8 rfl ⟨rfl, rfl⟩)) ag_nil), ?_⟩
 obtain ⟨jo, f0, hm⟩ := Zg hm
 refine DL_e rfl rfl (Tc rfl rfl rfl (Zi rfl args_nil) (ground_Initial_sim f0 dg (bW.mono (Zt (Zt a b) d)) (bX.mono (Zt (Zt a b) d)) (bY.mono (Zt (Zt a b) d)) (bZ.mono (Zt (Zt a b) d)) (bj.mono (Zt (Zt a b) d))).r ?_)
 rintro _ iF ⟨ib, im, io, i, e6, rfl, fY, fZ⟩
 refine ⟨ag_nil, ?_⟩
 obtain ⟨jp, f8, hm⟩ := Zg hm
 refine DL_e rfl rfl (Tc rfl rfl rfl (Zi rfl (Zi rfl args_nil)) (ref18_SameState_sim f8 e6 (fW.mono i) (fX.mono i) fY fZ).r ?_)
 rintro _ iG ⟨ct, k, dh, rfl⟩
 refine ⟨ag_nil, ?_⟩
 refine DL_q rfl rfl (Exec.not rfl rfl ⟨rfl, ?_⟩)
 refine DL_done (Zb (Ze ?_))
 rcases ite_some hm with ⟨bL, hm⟩ | ⟨bL, hm⟩
 ·refine W_cond_t rfl bL (Zc (Zd (Za rfl rfl (Zo (v := Value.bool (false)) rfl rfl (Zb (Ze (W_ret (at_ret ?_))))))))
  have gV := Zu hm
  subst r
  refine ⟨_, ret1 rfl, ?_⟩
  exact ⟨ct, (Zt (Zt (Zt (Zt (Zt (Zt n p) a) b) d) i) k), ((((dh).drop).drop).drop).drop, rfl⟩
 refine W_cond_f rfl bL ?_
 replace bL := Zk bL
 refine W_skip (Ze (Zc (Zc (Zd (Za rfl rfl (Zo (v := Vi (0)) rfl rfl (Zb (Ze ?_))))))))
 obtain ⟨db, ej, ci, eM, eK⟩ := ctl_some hm
 refine W_mid (M := fun f' w' => ∃ s', (db = .next s' ∨ db = .brk s') ∧ (un3 fun (du : Int) (dY : (List Int)) (dZ : (List Int)) => ∃ (cu : PHeap) (cX : Value) (cY : Value), PHeap.le ct cu ∧ St w0 cu (Res.box ad 28 [ae, af, ag, ah, ai] :: Res.box ao 28 [aj, ak, al, am, an] :: Res.box ap 32 [au, av, aw] :: Res.box a0 69 [cX, cY] :: H) w' ∧ f' 1 = a2 ∧ f' 2 = Value.pointer (some ⟨ad, 0, none⟩) ∧ f' 5 = Value.pointer (some ⟨ao, 0, none⟩) ∧ f' 6 = Value.pointer (some ⟨ap, 0, none⟩) ∧ f' 8 = Value.pointer (some ⟨a0, 0, none⟩) ∧ f' 9 = Vi (du) ∧ SliceRep (encInt .i64) cu cX dY ∧ SliceRep (encInt .i64) cu cY dZ) s') ?_ ?_
 ·refine W_block (W_while (fun s' f' w' => (un3 fun (a3 : Int) (ea : (List Int)) (eb : (List Int)) => ∃ (cv : PHeap) (a6 : Value) (a7 : Value), PHeap.le ct cv ∧ St w0 cv (Res.box ad 28 [ae, af, ag, ah, ai] :: Res.box ao 28 [aj, ak, al, am, an] :: Res.box ap 32 [au, av, aw] :: Res.box a0 69 [a6, a7] :: H) w' ∧ f' 1 = a2 ∧ f' 2 = Value.pointer (some ⟨ad, 0, none⟩) ∧ f' 5 = Value.pointer (some ⟨ao, 0, none⟩) ∧ f' 6 = Value.pointer (some ⟨ap, 0, none⟩) ∧ f' 8 = Value.pointer (some ⟨a0, 0, none⟩) ∧ f' 9 = Vi (a3) ∧ SliceRep (encInt .i64) cv a6 ea ∧ SliceRep (encInt .i64) cv a7 eb) s') ej ?_ ?_)
  ·have e7 := (dh).f3
   exact ⟨ct, cy, cz, (Zv _), ((e7).f3).f3, eZ, d0, c8, d1, rfl, rfl, (cR.mono (Zt (Zt d i) k)), (cS.mono (Zt (Zt d i) k))⟩
  intro gs bq h6 iH el u b6
  obtain ⟨a3, ea, eb⟩ := gs
  replace u := un3_eq u
  obtain ⟨gl, a6, a7, l, ch, c9, cA, cj, cB, ck, cC, b4, b5⟩ := el
  refine Zc (Zc (Zd (Za rfl rfl (Zm (v := Vi (a3)) rfl cC (Za rfl rfl (Zm (v := a2) rfl c9 (Za rfl rfl (Zr S67 rfl rfl (cf.mono (Zt (Zt (Zt (Zt (Zt (Zt (Zt n p) a) b) d) i) k) l)) (Za rfl rfl (Exec.leq rfl rfl rfl (Zb (Ze ?_))))))))))))
  rcases ite_some u with ⟨bM, u⟩ | ⟨bM, u⟩
  ·refine W_cond_t rfl bM (W_skip (Ze (Zc (W_block (Zc (Zd (Za rfl rfl (Exec.load_box_agg (ds := [a6, a7]) ((ch).f3) A69 rfl ck rfl (Za rfl rfl (Exec.load_box_agg (ds := [au, av, aw]) ((ch).f2) A32 rfl cB rfl ?_))))))))))
   obtain ⟨jq, f9, u⟩ := Zg u
   refine Za rfl rfl (Tc rfl rfl rfl (Zi rfl (Zi rfl args_nil)) (law19_project_sim f9 ch b4 b5 (bv.mono (Zt (Zt (Zt (Zt (Zt a b) d) i) k) l)) (bw.mono (Zt (Zt (Zt (Zt (Zt a b) d) i) k) l)) (bk.mono (Zt (Zt (Zt (Zt (Zt a b) d) i) k) l))).r ?_)
   rintro _ iI ⟨ic, aC, aD, j, e8, rfl, ca, cb⟩
   refine Za rfl rfl (Exec.alloc (cs := [Value.slice none 0 0, Value.slice none 0 0]) e8 Z69 rfl rfl ?_)
   intro aO iJ e9
   refine Za rfl rfl (Exec.store_box (ds := [aC, aD]) (es := [aC, aD]) e9 A69 rfl rfl rfl rfl (Zj (ca).one (Zj (cb).one one_nil)) (Nat.le_of_ble_eq_true rfl) rfl ?_)
   intro iK bF
   refine Zb (Ze (Zc (Zc (W_dl (n0 := 7) (.q 0 (.q 1 (.q 3 (.q 4 (.e 2 [3, 4] (.e 5 [] (.q 6 .done))))))) hmix (by kernel_rfl) (by kernel_rfl) (DL_q rfl rfl (Exec.load_box_agg (ds := [ae, af, ag, ah, ai]) ((bF.drew).f1) A28 rfl cA rfl ⟨rfl, ?_⟩))))))
   refine DL_q rfl rfl (Exec.load_box_agg (ds := [a6, a7]) ((bF.drew).f4) A69 rfl ck rfl ⟨rfl, ?_⟩)
   refine DL_q rfl rfl (Exec.load_box_agg (ds := [aj, ak, al, am, an]) ((bF.drew).f2) A28 rfl cj rfl ⟨rfl, ?_⟩)
   refine DL_q rfl rfl (Exec.load_box_agg (ds := [aC, aD]) (bF.drew) A69 rfl rfl rfl ⟨rfl, ?_⟩)
   obtain ⟨jr, fA, u⟩ := Zg u
   refine DL_e rfl rfl (Tc rfl rfl rfl (Zi rfl (Zi rfl args_nil)) (ground_Goal_sim fA bF.drew (bc.mono (Zt (Zt (Zt (Zt (Zt (Zt (Zt (Zt n p) a) b) d) i) k) l) j)) (bd.mono (Zt (Zt (Zt (Zt (Zt (Zt (Zt (Zt n p) a) b) d) i) k) l) j)) (bo.mono (Zt (Zt (Zt (Zt (Zt (Zt (Zt (Zt n p) a) b) d) i) k) l) j)) (bp.mono (Zt (Zt (Zt (Zt (Zt (Zt (Zt (Zt n p) a) b) d) i) k) l) j)) (aE.mono (Zt (Zt (Zt (Zt (Zt (Zt (Zt (Zt n p) a) b) d) i) k) l) j)) (b4.mono j) (b5.mono j)).r ?_)
   rintro _ iL ⟨ie, g, c4, rfl⟩
   refine ⟨(ag_cons (ag_r rfl rfl (Exec.load_box_agg (ds := [aj, ak, al, am, an]) ((c4).f2) A28 rfl cj rfl ⟨rfl, rfl⟩)) (ag_cons (ag_r rfl rfl (Exec.load_box_agg (ds := [aC, aD]) (c4) A69 rfl rfl rfl ⟨rfl, rfl⟩)) ag_nil)), ?_⟩
   obtain ⟨js, fB, u⟩ := Zg u
   refine DL_e rfl rfl (Tc rfl rfl rfl (Zi rfl (Zi rfl args_nil)) (ground_Goal_sim fB c4 (bW.mono (Zt (Zt (Zt (Zt (Zt (Zt (Zt a b) d) i) k) l) j) g)) (bX.mono (Zt (Zt (Zt (Zt (Zt (Zt (Zt a b) d) i) k) l) j) g)) (bY.mono (Zt (Zt (Zt (Zt (Zt (Zt (Zt a b) d) i) k) l) j) g)) (bZ.mono (Zt (Zt (Zt (Zt (Zt (Zt (Zt a b) d) i) k) l) j) g)) (bj.mono (Zt (Zt (Zt (Zt (Zt (Zt (Zt a b) d) i) k) l) j) g)) (ca.mono g) (cb.mono g)).r ?_)
   rintro _ iM ⟨cw, m, di, rfl⟩
   refine ⟨ag_nil, ?_⟩
   refine DL_q rfl rfl (Exec.bool_neq Try.underlying4 rfl rfl rfl ⟨rfl, ?_⟩)
   refine DL_done (Zb (Ze ?_))
   rcases ite_some u with ⟨bN, u⟩ | ⟨bN, u⟩
   ·refine W_cond_t rfl bN (Zc (Zd (Za rfl rfl (Zo (v := Value.bool (false)) rfl rfl (Zb (Ze (W_ret (at_ret (ib_ret (at_ret (at_ret (ib_ret (at_ret (at_ret ?_))))))))))))))
    have gW := Zu u
    subst bq
    have eO := ci _ (b6 (by intro _ h; cases h))
    have gX := Zu eO
    subst r
    refine ⟨_, ret1 rfl, ?_⟩
    exact ⟨cw, (Zt (Zt (Zt (Zt (Zt (Zt (Zt (Zt (Zt (Zt n p) a) b) d) i) k) l) j) g) m), (((((di).drop).drop).drop).drop).drop, rfl⟩
   refine W_cond_f rfl bN ?_
   replace bN := Zk bN
   refine W_skip (Ze (Zc (Zd (Za rfl rfl (Zo (v := Value.slice none 0 0) rfl rfl (Zb (Ze (Zc (Zc (Zd (Za rfl rfl (Zo (v := Vi (0)) rfl rfl (Zb (Ze ?_))))))))))))))
   obtain ⟨dc, ek, dt, eN, eL⟩ := ctl_some u
   refine W_mid (M := fun f' w' => ∃ s', (dc = .next s' ∨ dc = .brk s') ∧ (un2 fun (b3 : (List Int)) (dy : Int) => ∃ (dN : PHeap) (bl : Value), PHeap.le cw dN ∧ St w0 dN (Res.box ad 28 [ae, af, ag, ah, ai] :: Res.box ao 28 [aj, ak, al, am, an] :: Res.box ap 32 [au, av, aw] :: Res.box a0 69 [a6, a7] :: Res.box aO 69 [aC, aD] :: Res.arr (encInt .i64) 3 bl b3 :: H) w' ∧ f' 1 = a2 ∧ f' 2 = Value.pointer (some ⟨ad, 0, none⟩) ∧ f' 5 = Value.pointer (some ⟨ao, 0, none⟩) ∧ f' 6 = Value.pointer (some ⟨ap, 0, none⟩) ∧ f' 8 = Value.pointer (some ⟨a0, 0, none⟩) ∧ f' 9 = Vi (a3) ∧ f' 10 = Value.pointer (some ⟨aO, 0, none⟩) ∧ f' 11 = bl ∧ f' 12 = Vi (dy)) s') ?_ ?_
   ·refine W_block (W_while (fun s' f' w' => (un2 fun (dd : (List Int)) (ac : Int) => ∃ (dO : PHeap) (b9 : Value), PHeap.le cw dO ∧ St w0 dO (Res.box ad 28 [ae, af, ag, ah, ai] :: Res.box ao 28 [aj, ak, al, am, an] :: Res.box ap 32 [au, av, aw] :: Res.box a0 69 [a6, a7] :: Res.box aO 69 [aC, aD] :: Res.arr (encInt .i64) 3 b9 dd :: H) w' ∧ f' 1 = a2 ∧ f' 2 = Value.pointer (some ⟨ad, 0, none⟩) ∧ f' 5 = Value.pointer (some ⟨ao, 0, none⟩) ∧ f' 6 = Value.pointer (some ⟨ap, 0, none⟩) ∧ f' 8 = Value.pointer (some ⟨a0, 0, none⟩) ∧ f' 9 = Vi (a3) ∧ f' 10 = Value.pointer (some ⟨aO, 0, none⟩) ∧ f' 11 = b9 ∧ f' 12 = Vi (ac)) s') ek ?_ ?_)
    ·have eA := di.nilArr (encInt .i64) 3
     exact ⟨cw, (Value.slice none 0 0), (Zv _), (((((eA).f1).f5).f5).f5).f5, c9, cA, cj, cB, ck, cC, rfl, rfl, rfl⟩
    intro gu bD h7 iN em y c6
    obtain ⟨dd, ac⟩ := gu
    replace y := un2_eq y
    obtain ⟨gm, b9, o, bG, cD, bV, cE, cF, cl, cG, cH, cI, b8⟩ := em
    refine Zc (Zc (Zd (Za rfl rfl (Zm (v := Vi (ac)) rfl b8 (Za rfl rfl (Zp F28_4 rfl bV rfl (Za rfl rfl (Zn (bG) A26 rfl rfl rfl (Za rfl rfl (Zr S26 rfl rfl (aE.mono (Zt (Zt (Zt (Zt (Zt (Zt (Zt (Zt (Zt (Zt (Zt n p) a) b) d) i) k) l) j) g) m) o)) (Za rfl rfl (Zq rfl rfl rfl (Zb (Ze ?_))))))))))))))
    rcases ite_some y with ⟨bO, y⟩ | ⟨bO, y⟩
    ·refine W_cond_t rfl bO (W_skip (Ze (Zc (W_block (Zc (Zd (Za rfl rfl (Exec.load_box_agg (ds := [ae, af, ag, ah, ai]) (bG) A28 rfl bV rfl (Za rfl rfl (Exec.load_box_agg (ds := [a6, a7]) ((bG).f3) A69 rfl cl rfl (Za rfl rfl (Zm (v := Vi (ac)) rfl b8 ?_))))))))))))
     obtain ⟨gv, fC, y⟩ := Zg y
     obtain ⟨aS, jt⟩ := gv
     replace y := un2_eq y
     refine Za rfl rfl (Tc rfl rfl rfl (Zi rfl (Zi rfl (Zi rfl args_nil))) (ground_Apply_sim fC bG (bc.mono (Zt (Zt (Zt (Zt (Zt (Zt (Zt (Zt (Zt (Zt (Zt n p) a) b) d) i) k) l) j) g) m) o)) (bd.mono (Zt (Zt (Zt (Zt (Zt (Zt (Zt (Zt (Zt (Zt (Zt n p) a) b) d) i) k) l) j) g) m) o)) (bo.mono (Zt (Zt (Zt (Zt (Zt (Zt (Zt (Zt (Zt (Zt (Zt n p) a) b) d) i) k) l) j) g) m) o)) (bp.mono (Zt (Zt (Zt (Zt (Zt (Zt (Zt (Zt (Zt (Zt (Zt n p) a) b) d) i) k) l) j) g) m) o)) (aE.mono (Zt (Zt (Zt (Zt (Zt (Zt (Zt (Zt (Zt (Zt (Zt n p) a) b) d) i) k) l) j) g) m) o)) (b4.mono (Zt (Zt (Zt j g) m) o)) (b5.mono (Zt (Zt (Zt j g) m) o))).r ?_)
     rintro _ iO ⟨cU, bm, bn, x, eB, rfl, cp, cq⟩
     refine Za rfl rfl (Zm (v := Value.tuple #[Value.agg #[bm, bn], errV 41 (aS)]) rfl rfl (Za rfl rfl (Exec.extract (v := Value.agg #[bm, bn]) rfl rfl rfl (Za rfl rfl (Exec.extract (v := errV 41 (aS)) rfl rfl rfl (Za rfl rfl (Exec.alloc (cs := [Value.slice none 0 0, Value.slice none 0 0]) eB Z69 rfl rfl ?_)))))))
     intro da iP eC
     refine Za rfl rfl (Exec.store_box (ds := [bm, bn]) (es := [bm, bn]) eC A69 rfl rfl rfl rfl (Zj (cp).one (Zj (cq).one one_nil)) (Nat.le_of_ble_eq_true rfl) rfl ?_)
     intro iQ dj
     refine Za rfl rfl (Zo (v := errV 41 (aS)) rfl rfl (Zb (Ze (Zc (Zc (Zd (Za rfl rfl (Zm (v := errV 41 (aS)) rfl rfl (Za rfl rfl (Exec.err_eql_nil (T := 41) Try.underlying34 rfl rfl rfl (Zb (Ze ?_))))))))))))
     obtain ⟨bt, bs, y⟩ := Zg y
     refine W_mid (M := fun f' w' => (fun (bt : (List Int)) => ∃ (dP : PHeap) (ba : Value), PHeap.le cU dP ∧ St w0 dP (Res.box ad 28 [ae, af, ag, ah, ai] :: Res.box ao 28 [aj, ak, al, am, an] :: Res.box ap 32 [au, av, aw] :: Res.box a0 69 [a6, a7] :: Res.box aO 69 [aC, aD] :: Res.arr (encInt .i64) 3 ba bt :: Res.box da 69 [bm, bn] :: H) w' ∧ f' 1 = a2 ∧ f' 2 = Value.pointer (some ⟨ad, 0, none⟩) ∧ f' 5 = Value.pointer (some ⟨ao, 0, none⟩) ∧ f' 6 = Value.pointer (some ⟨ap, 0, none⟩) ∧ f' 8 = Value.pointer (some ⟨a0, 0, none⟩) ∧ f' 9 = Vi (a3) ∧ f' 10 = Value.pointer (some ⟨aO, 0, none⟩) ∧ f' 11 = ba ∧ f' 12 = Vi (ac) ∧ f' 13 = Value.pointer (some ⟨da, 0, none⟩) ∧ f' 14 = errV 41 (aS)) bt) ?_ ?_
     ·rcases ite_some bs with ⟨bP, bs⟩ | ⟨bP, bs⟩
      ·refine W_cond_t rfl bP (Zd (Za rfl rfl (Zm (v := b9) rfl cI (Za rfl rfl (Zm (v := Vi (ac)) rfl b8 (Za rfl rfl (Exec.buildSlice (Te := 3) (cs := [Vi (ac)]) dj rfl (parts_cons (c := [Vi (ac)]) (cells_of rfl rfl) parts_nil) (fun _ => by kernel_rfl) ?_)))))))
       intro gE iR eD
       obtain ⟨hH, fD, bs⟩ := Zg bs
       refine Za rfl rfl (Exec.append_box (E := (encInt .i64)) (ys := [ac]) (eD).f7 S24 Z3 rfl (by decide) rfl rfl rfl rfl ⟨[Vi (ac)], [], rfl, rfl, rfl⟩ rfl fD ?_)
       intro dX iS eE
       refine Za rfl rfl (Zo (v := dX) rfl rfl (Zb (Ze ?_)))
       have gY := Zu bs
       subst bt
       exact ⟨cU, dX, (Zv _), (((((((eE).f1).f1).f6).f6).f6).f6).f6, cD, bV, cE, cF, cl, cG, cH, rfl, b8, rfl, rfl⟩
      refine W_cond_f rfl bP ?_
      replace bP := Zk bP
      refine W_skip (Ze ?_)
      have gZ := Zu bs
      subst bt
      exact ⟨cU, b9, (Zv _), ((((((dj).f6).f6).f6).f6).f6).f6, cD, bV, cE, cF, cl, cG, cH, cI, b8, rfl, rfl⟩
     intro h8 iT ep
     obtain ⟨dQ, ba, t, aP, aW, aI, a5, aJ, aX, aY, aA, aZ, aB, cJ, cK⟩ := ep
     refine (Ze (Zc (Zd (Za rfl rfl (Zp F32_2 rfl aJ rfl (Za rfl rfl (Zn ((aP).f2) A24 rfl rfl rfl (Za rfl rfl (Zm (v := Vi (ac)) rfl aB ?_)))))))))
     obtain ⟨bx, fE, y⟩ := Zg y
     refine Za rfl rfl (Exec.index_rep S24 rfl rfl rfl (bk.mono (Zt (Zt (Zt (Zt (Zt (Zt (Zt (Zt (Zt (Zt (Zt a b) d) i) k) l) j) g) m) o) x) t)) fE ?_)
     intro gF hI ec
     refine Za rfl rfl (Zw (E := (encInt .i64)) aP A3 rfl rfl rfl ec ?_)
     intro ip fF
     obtain rfl := encInt_val.1 fF
     refine Za rfl rfl (Zo (v := Vi (bx)) rfl rfl (Zb (Ze (Zc (Zd (Za rfl rfl (Zm (v := Vi (bx)) rfl rfl (Za rfl rfl (Exec.geq rfl rfl rfl (Zb (Ze ?_)))))))))))
     rcases ite_some y with ⟨bQ, y⟩ | ⟨bQ, y⟩
     ·refine W_cond_t rfl bQ (Zc (Zd (Za rfl rfl (Exec.load_box_agg (ds := [aj, ak, al, am, an]) ((aP).f1) A28 rfl a5 rfl (Za rfl rfl (Exec.load_box_agg (ds := [aC, aD]) ((aP).f4) A69 rfl aA rfl (Za rfl rfl (Zm (v := Vi (bx)) rfl rfl ?_))))))))
      obtain ⟨gw, fG, y⟩ := Zg y
      obtain ⟨c1, ju⟩ := gw
      replace y := un2_eq y
      refine Za rfl rfl (Tc rfl rfl rfl (Zi rfl (Zi rfl (Zi rfl args_nil))) (ground_Apply_sim fG aP (bW.mono (Zt (Zt (Zt (Zt (Zt (Zt (Zt (Zt (Zt (Zt (Zt a b) d) i) k) l) j) g) m) o) x) t)) (bX.mono (Zt (Zt (Zt (Zt (Zt (Zt (Zt (Zt (Zt (Zt (Zt a b) d) i) k) l) j) g) m) o) x) t)) (bY.mono (Zt (Zt (Zt (Zt (Zt (Zt (Zt (Zt (Zt (Zt (Zt a b) d) i) k) l) j) g) m) o) x) t)) (bZ.mono (Zt (Zt (Zt (Zt (Zt (Zt (Zt (Zt (Zt (Zt (Zt a b) d) i) k) l) j) g) m) o) x) t)) (bj.mono (Zt (Zt (Zt (Zt (Zt (Zt (Zt (Zt (Zt (Zt (Zt a b) d) i) k) l) j) g) m) o) x) t)) (ca.mono (Zt (Zt (Zt (Zt g m) o) x) t)) (cb.mono (Zt (Zt (Zt (Zt g m) o) x) t))).r ?_)
      rintro _ iU ⟨cx, bA, bB, aL, eF, rfl, dG, dH⟩
      refine Za rfl rfl (Zm (v := Value.tuple #[Value.agg #[bA, bB], errV 41 (c1)]) rfl rfl (Za rfl rfl (Exec.extract (v := Value.agg #[bA, bB]) rfl rfl rfl (Za rfl rfl (Exec.extract (v := errV 41 (c1)) rfl rfl rfl (Za rfl rfl (Exec.alloc (cs := [Value.slice none 0 0, Value.slice none 0 0]) eF Z69 rfl rfl ?_)))))))
      intro gG iV eG
      refine Za rfl rfl (Exec.store_box (ds := [bA, bB]) (es := [bA, bB]) eG A69 rfl rfl rfl rfl (Zj (dG).one (Zj (dH).one one_nil)) (Nat.le_of_ble_eq_true rfl) rfl ?_)
      intro iW be
      refine Za rfl rfl (Zo (v := errV 41 (c1)) rfl rfl (Zb (Ze (Zc ?_))))
      obtain ⟨bb, z, y⟩ := Zg y
      refine W_mid (M := fun f' w' => (fun (bb : Bool) => ∃ (dR : PHeap) , PHeap.le cx dR ∧ St w0 dR (Res.box ad 28 [ae, af, ag, ah, ai] :: Res.box ao 28 [aj, ak, al, am, an] :: Res.box ap 32 [au, av, aw] :: Res.box a0 69 [a6, a7] :: Res.box aO 69 [aC, aD] :: Res.arr (encInt .i64) 3 ba bt :: H) w' ∧ f' 1 = a2 ∧ f' 2 = Value.pointer (some ⟨ad, 0, none⟩) ∧ f' 5 = Value.pointer (some ⟨ao, 0, none⟩) ∧ f' 6 = Value.pointer (some ⟨ap, 0, none⟩) ∧ f' 8 = Value.pointer (some ⟨a0, 0, none⟩) ∧ f' 9 = Vi (a3) ∧ f' 10 = Value.pointer (some ⟨aO, 0, none⟩) ∧ f' 11 = ba ∧ f' 12 = Vi (ac) ∧ f' 184 = Value.bool (bb)) bb) ?_ ?_
      ·refine W_dl (n0 := 54) (qs 0 18 (.q 19 (.e 18 [19] (.e 20 [] (qs 21 33 .done))))) hmix (by kernel_rfl) (by kernel_rfl) (DL_q rfl rfl (Zm (v := Vi (bx)) rfl rfl ⟨rfl, ?_⟩))
       refine DL_q rfl rfl (Zp F28_4 rfl a5 rfl ⟨rfl, ?_⟩)
       refine DL_q rfl rfl (Zn ((be.drew).f2) A26 rfl rfl rfl ⟨rfl, ?_⟩)
       refine DL_q rfl rfl (Zr S26 rfl rfl (bj.mono (Zt (Zt (Zt (Zt (Zt (Zt (Zt (Zt (Zt (Zt (Zt (Zt a b) d) i) k) l) j) g) m) o) x) t) aL)) ⟨rfl, ?_⟩)
       refine DL_q rfl rfl (Exec.geq rfl rfl rfl ⟨rfl, ?_⟩)
       refine DL_q rfl rfl (Zm (v := Value.bool (decide ((gA.Ops.length : Int) ≤ bx))) rfl rfl ⟨rfl, ?_⟩)
       rcases ite_some z with ⟨aQ, z⟩ | ⟨aQ, z⟩
       ·refine DL_passes 48 (by rw [aQ]; rfl) ?_
        refine DL_done (Zb (Ze ?_))
        have ha := Zu z
        subst bb
        exact ⟨cx, (Zv _), (((((((((be.drew).drop).f6).drop).f5).f5).f5).f5).f5).f5, aW, aI, a5, aJ, aX, aY, aA, aZ, aB, rfl⟩
       replace aQ := Zk aQ
       refine DL_qg rfl rfl (Zf rfl (Zx aQ)) (Zm (v := errV 41 (aS)) rfl cK ⟨rfl, ?_⟩)
       refine DL_qg rfl rfl (Zf rfl (Zx aQ)) (Exec.err_eql_nil (T := 41) Try.underlying34 rfl rfl rfl ⟨rfl, ?_⟩)
       refine DL_qg rfl rfl (Zf rfl (Zx aQ)) (Zm (v := errV 41 (c1)) rfl rfl ⟨rfl, ?_⟩)
       refine DL_qg rfl rfl (Zf rfl (Zx aQ)) (Exec.err_eql_nil (T := 41) Try.underlying34 rfl rfl rfl ⟨rfl, ?_⟩)
       refine DL_qg rfl rfl (Zf rfl (Zx aQ)) (Exec.bool_neq Try.underlying4 rfl rfl rfl ⟨rfl, ?_⟩)
       refine DL_passes 2 (by rw [aQ]; rfl) ?_
       rcases ite_some z with ⟨a1, z⟩ | ⟨a1, z⟩
       ·refine DL_passes 41 (by rw [a1]; rfl) ?_
        refine DL_done (Zb (Ze ?_))
        have hb := Zu z
        subst bb
        exact ⟨cx, (Zv _), (((((((((be.drew).drop).f6).drop).f5).f5).f5).f5).f5).f5, aW, aI, a5, aJ, aX, aY, aA, aZ, aB, rfl⟩
       replace a1 := Zk a1
       refine DL_qg rfl rfl (Zf rfl (Zx a1)) (Zm (v := errV 41 (aS)) rfl cK ⟨rfl, ?_⟩)
       refine DL_qg rfl rfl (Zf rfl (Zx a1)) (Exec.err_eql_nil (T := 41) Try.underlying34 rfl rfl rfl ⟨rfl, ?_⟩)
       refine DL_qg rfl rfl (Zf rfl (Zx a1)) (Zm (v := Value.bool (aS.isNone)) rfl rfl ⟨rfl, ?_⟩)
       rcases ite_some z with ⟨ab, z⟩ | ⟨ab, z⟩
       ·refine DL_qg rfl rfl (Zf rfl (Zx ab)) (Exec.load_box_agg (ds := [bm, bn]) ((be.drew).f7) A69 rfl cJ rfl ⟨rfl, ?_⟩)
        refine DL_qg rfl rfl (Zf rfl (Zx ab)) (Exec.load_box_agg (ds := [au, av, aw]) ((be.drew).f3) A32 rfl aJ rfl ⟨rfl, ?_⟩)
        refine DL_qg rfl rfl (Zf rfl (Zx ab)) (Exec.load_box_agg (ds := [bA, bB]) (be.drew) A69 rfl rfl rfl ⟨rfl, ?_⟩)
        obtain ⟨jv, fH, z⟩ := Zg z
        refine DL_eg rfl rfl (Zf rfl (Zx ab)) (Tc rfl rfl rfl (Zi rfl (Zi rfl args_nil)) (law19_project_sim fH be.drew (cp.mono (Zt t aL)) (cq.mono (Zt t aL)) (bv.mono (Zt (Zt (Zt (Zt (Zt (Zt (Zt (Zt (Zt (Zt (Zt (Zt a b) d) i) k) l) j) g) m) o) x) t) aL)) (bw.mono (Zt (Zt (Zt (Zt (Zt (Zt (Zt (Zt (Zt (Zt (Zt (Zt a b) d) i) k) l) j) g) m) o) x) t) aL)) (bk.mono (Zt (Zt (Zt (Zt (Zt (Zt (Zt (Zt (Zt (Zt (Zt (Zt a b) d) i) k) l) j) g) m) o) x) t) aL))).r ?_)
        rintro _ iX ⟨ig, iq, ir, aU, dk, rfl, ga, gb⟩
        refine ⟨(ag_cons (ag_g rfl rfl (Zf rfl (Zx ab)) (Exec.load_box_agg (ds := [bA, bB]) (dk) A69 rfl rfl rfl ⟨rfl, rfl⟩)) ag_nil), ?_⟩
        obtain ⟨gC, fI, z⟩ := Zg z
        refine DL_eg rfl rfl (Zf rfl (Zx ab)) (Tc rfl rfl rfl (Zi rfl (Zi rfl args_nil)) (ref18_SameState_sim fI dk ga gb (dG.mono aU) (dH.mono aU)).r ?_)
        rintro _ iY ⟨cV, bu, aN, rfl⟩
        refine ⟨ag_nil, ?_⟩
        refine DL_qg rfl rfl (Zf rfl (Zx ab)) (Exec.not rfl rfl ⟨rfl, ?_⟩)
        refine DL_qg rfl rfl (Zf rfl (Zx ab)) (Zm (v := Value.bool (!gC)) rfl rfl ⟨rfl, ?_⟩)
        rcases ite_some z with ⟨aq, z⟩ | ⟨aq, z⟩
        ·refine DL_passes 13 (by rw [aq]; rfl) ?_
         refine DL_qg rfl rfl (Zf rfl (Zx ab)) (Zs (v := Value.bool (true)) rfl rfl rfl ⟨rfl, ?_⟩)
         refine DL_qg rfl rfl (Zf rfl (Zx ab)) (Zm (v := Value.bool (true)) rfl rfl ⟨rfl, ?_⟩)
         refine DL_passes 13 rfl (DL_qg rfl rfl (Zf rfl (Zx ab)) (Zs (v := Value.bool (true)) rfl rfl rfl ⟨rfl, ?_⟩))
         refine DL_qg rfl rfl (Zf rfl (Zx a1)) (Zs (v := Value.bool (true)) rfl (Zx ab) rfl ⟨rfl, ?_⟩)
         refine DL_q rfl rfl (Exec.pick_f (v := Value.bool (true)) rfl (Zx a1) rfl ⟨rfl, ?_⟩)
         refine DL_done (Zb (Ze ?_))
         have hc := Zu z
         subst bb
         exact ⟨cV, (Zt aU bu), (((((((((aN).drop).f6).drop).f5).f5).f5).f5).f5).f5, aW, aI, a5, aJ, aX, aY, aA, aZ, aB, rfl⟩
        replace aq := Zk aq
        refine DL_qg rfl rfl (Zf rfl (Zx aq)) (Zp F28_4 rfl a5 rfl ⟨rfl, ?_⟩)
        refine DL_qg rfl rfl (Zf rfl (Zx aq)) (Zn ((aN).f2) A26 rfl rfl rfl ⟨rfl, ?_⟩)
        refine DL_qg rfl rfl (Zf rfl (Zx aq)) (Zm (v := Vi (bx)) rfl rfl ⟨rfl, ?_⟩)
        obtain ⟨bz, dD, z⟩ := Zg z
        refine DL_qg rfl rfl (Zf rfl (Zx aq)) (Exec.index_repE S26 rfl rfl rfl (bj.mono (Zt (Zt (Zt (Zt (Zt (Zt (Zt (Zt (Zt (Zt (Zt (Zt (Zt (Zt a b) d) i) k) l) j) g) m) o) x) t) aL) aU) bu)) dD ?_)
        intro gH hJ ed hd
        refine ⟨rfl, ?_⟩
        refine DL_qg rfl rfl (Zf rfl (Zx aq)) (Zp F51_1 rfl rfl rfl ⟨rfl, ?_⟩)
        refine DL_qg rfl rfl (Zf rfl (Zx aq)) (Zw (E := (encInt .i64)) aN A3 rfl rfl rfl (ed.sub (Sub.iso (Sub.snd (Sub.fst (Sub.refl _)) rfl)) rfl) ?_)
        intro g0 fJ
        obtain rfl : g0 = Vi (bz.Cost) := encInt_val.1 fJ
        refine ⟨rfl, ?_⟩
        refine DL_qg rfl rfl (Zf rfl (Zx aq)) (Zp F28_4 rfl aI rfl ⟨rfl, ?_⟩)
        refine DL_qg rfl rfl (Zf rfl (Zx aq)) (Zn ((aN).f1) A26 rfl rfl rfl ⟨rfl, ?_⟩)
        refine DL_qg rfl rfl (Zf rfl (Zx aq)) (Zm (v := Vi (ac)) rfl aB ⟨rfl, ?_⟩)
        obtain ⟨b0, dE, z⟩ := Zg z
        refine DL_qg rfl rfl (Zf rfl (Zx aq)) (Exec.index_repE S26 rfl rfl rfl (aE.mono (Zt (Zt (Zt (Zt (Zt (Zt (Zt (Zt (Zt (Zt (Zt (Zt (Zt (Zt (Zt (Zt n p) a) b) d) i) k) l) j) g) m) o) x) t) aL) aU) bu)) dE ?_)
        intro gI hK ee he
        refine ⟨rfl, ?_⟩
        refine DL_qg rfl rfl (Zf rfl (Zx aq)) (Zp F51_1 rfl rfl rfl ⟨rfl, ?_⟩)
        refine DL_qg rfl rfl (Zf rfl (Zx aq)) (Zw (E := (encInt .i64)) aN A3 rfl rfl rfl (ee.sub (Sub.iso (Sub.snd (Sub.fst (Sub.refl _)) rfl)) rfl) ?_)
        intro g1 fK
        obtain rfl : g1 = Vi (b0.Cost) := encInt_val.1 fK
        refine ⟨rfl, ?_⟩
        refine DL_qg rfl rfl (Zf rfl (Zx aq)) (Exec.neq rfl rfl rfl ⟨rfl, ?_⟩)
        refine DL_qg rfl rfl (Zf rfl (Zx ab)) (Exec.pick_f (v := Value.bool (!decide (bz.Cost = b0.Cost))) rfl (Zx aq) rfl ⟨rfl, ?_⟩)
        refine DL_qg rfl rfl (Zf rfl (Zx ab)) (Zm (v := Value.bool (!decide (bz.Cost = b0.Cost))) rfl rfl ⟨rfl, ?_⟩)
        rcases ite_some z with ⟨ar, z⟩ | ⟨ar, z⟩
        ·refine DL_passes 13 (by rw [ar]; rfl) ?_
         refine DL_qg rfl rfl (Zf rfl (Zx ab)) (Zs (v := Value.bool (true)) rfl rfl rfl ⟨rfl, ?_⟩)
         refine DL_qg rfl rfl (Zf rfl (Zx a1)) (Zs (v := Value.bool (true)) rfl (Zx ab) rfl ⟨rfl, ?_⟩)
         refine DL_q rfl rfl (Exec.pick_f (v := Value.bool (true)) rfl (Zx a1) rfl ⟨rfl, ?_⟩)
         refine DL_done (Zb (Ze ?_))
         have hf := Zu z
         subst bb
         exact ⟨cV, (Zt aU bu), (((((((((aN).drop).f6).drop).f5).f5).f5).f5).f5).f5, aW, aI, a5, aJ, aX, aY, aA, aZ, aB, rfl⟩
        replace ar := Zk ar
        refine DL_qg rfl rfl (Zf rfl (Zx ar)) (Zp F28_4 rfl a5 rfl ⟨rfl, ?_⟩)
        refine DL_qg rfl rfl (Zf rfl (Zx ar)) (Zn ((aN).f2) A26 rfl rfl rfl ⟨rfl, ?_⟩)
        refine DL_qg rfl rfl (Zf rfl (Zx ar)) (Zm (v := Vi (bx)) rfl rfl ⟨rfl, ?_⟩)
        refine DL_qg rfl rfl (Zf rfl (Zx ar)) (Exec.index_repE S26 rfl rfl rfl (bj.mono (Zt (Zt (Zt (Zt (Zt (Zt (Zt (Zt (Zt (Zt (Zt (Zt (Zt (Zt a b) d) i) k) l) j) g) m) o) x) t) aL) aU) bu)) dD ?_)
        intro gJ hL ef hg
        refine ⟨rfl, ?_⟩
        refine DL_qg rfl rfl (Zf rfl (Zx ar)) (Zp F51_0 rfl rfl rfl ⟨rfl, ?_⟩)
        refine DL_qg rfl rfl (Zf rfl (Zx ar)) (Zw (E := encStr) aN A9 rfl rfl rfl (ef.sub (Sub.iso (Sub.fst (Sub.refl _))) rfl) ?_)
        intro g2 fL
        obtain rfl : g2 = Value.string (bz.Name) := encStr_val.1 fL
        refine ⟨rfl, ?_⟩
        refine DL_qg rfl rfl (Zf rfl (Zx ar)) (Zp F28_4 rfl aI rfl ⟨rfl, ?_⟩)
        refine DL_qg rfl rfl (Zf rfl (Zx ar)) (Zn ((aN).f1) A26 rfl rfl rfl ⟨rfl, ?_⟩)
        refine DL_qg rfl rfl (Zf rfl (Zx ar)) (Zm (v := Vi (ac)) rfl aB ⟨rfl, ?_⟩)
        refine DL_qg rfl rfl (Zf rfl (Zx ar)) (Exec.index_repE S26 rfl rfl rfl (aE.mono (Zt (Zt (Zt (Zt (Zt (Zt (Zt (Zt (Zt (Zt (Zt (Zt (Zt (Zt (Zt (Zt n p) a) b) d) i) k) l) j) g) m) o) x) t) aL) aU) bu)) dE ?_)
        intro gK hM eg hh
        refine ⟨rfl, ?_⟩
        refine DL_qg rfl rfl (Zf rfl (Zx ar)) (Zp F51_0 rfl rfl rfl ⟨rfl, ?_⟩)
        refine DL_qg rfl rfl (Zf rfl (Zx ar)) (Zw (E := encStr) aN A9 rfl rfl rfl (eg.sub (Sub.iso (Sub.fst (Sub.refl _))) rfl) ?_)
        intro g3 fM
        obtain rfl : g3 = Value.string (b0.Name) := encStr_val.1 fM
        refine ⟨rfl, ?_⟩
        refine DL_qg rfl rfl (Zf rfl (Zx ar)) (Exec.str_neq rfl rfl rfl ⟨rfl, ?_⟩)
        refine DL_qg rfl rfl (Zf rfl (Zx ab)) (Exec.pick_f (v := Value.bool (!decide (bz.Name = b0.Name))) rfl (Zx ar) rfl ⟨rfl, ?_⟩)
        refine DL_qg rfl rfl (Zf rfl (Zx a1)) (Zs (v := Value.bool (!decide (bz.Name = b0.Name))) rfl (Zx ab) rfl ⟨rfl, ?_⟩)
        refine DL_q rfl rfl (Exec.pick_f (v := Value.bool (!decide (bz.Name = b0.Name))) rfl (Zx a1) rfl ⟨rfl, ?_⟩)
        refine DL_done (Zb (Ze ?_))
        have hi := Zu z
        subst bb
        exact ⟨cV, (Zt aU bu), (((((((((aN).drop).f6).drop).f5).f5).f5).f5).f5).f5, aW, aI, a5, aJ, aX, aY, aA, aZ, aB, rfl⟩
       replace ab := Zk ab
       rw [ab] at a1
       refine DL_passes 36 (by rw [ab]; rfl) ?_
       refine DL_qg rfl rfl (Zf rfl (Zx a1)) (Exec.pick_f (v := Value.bool (false)) rfl rfl rfl ⟨rfl, ?_⟩)
       refine DL_q rfl rfl (Exec.pick_f (v := Value.bool (false)) rfl (Zx a1) rfl ⟨rfl, ?_⟩)
       refine DL_done (Zb (Ze ?_))
       have hj := Zu z
       subst bb
       exact ⟨cx, (Zv _), (((((((((be.drew).drop).f6).drop).f5).f5).f5).f5).f5).f5, aW, aI, a5, aJ, aX, aY, aA, aZ, aB, rfl⟩
      intro h9 iZ er
      obtain ⟨dS, dv, dl, fa, fb, fc, fd, fe, ff, fg, fh, fi, d3⟩ := er
      refine (Ze ?_)
      rcases ite_some y with ⟨bR, y⟩ | ⟨bR, y⟩
      ·refine W_cond_t d3 bR (Zc (Zd (Za rfl rfl (Zo (v := Value.bool (false)) rfl rfl (Zb (Ze (W_ret (ib_ret (at_ret (at_ret (ib_ret (at_ret (at_ret (ib_ret (at_ret (at_ret (ib_ret (at_ret (at_ret ?_)))))))))))))))))))
       have hk := Zu y
       subst bD
       have eP := dt _ (c6 (by intro _ h; cases h))
       have hl := Zu eP
       subst bq
       have eQ := ci _ (b6 (by intro _ h; cases h))
       have hn := Zu eQ
       subst r
       refine ⟨_, ret1 rfl, ?_⟩
       exact ⟨dS, (Zt (Zt (Zt (Zt (Zt (Zt (Zt (Zt (Zt (Zt (Zt (Zt (Zt (Zt (Zt n p) a) b) d) i) k) l) j) g) m) o) x) t) aL) dv), ((((((dl).drop).drop).drop).drop).drop).drop, rfl⟩
      refine W_cond_f d3 bR ?_
      replace bR := Zk bR
      refine W_skip (ib_normal (Ze (Zd (Za rfl rfl (Zm (v := Vi (ac)) rfl fi (Za rfl rfl (Exec.add rfl rfl rfl (Za rfl rfl (Zo (v := Vi (IntKind.i64.wrap (ac + 1))) rfl rfl (Zb (Ze ?_)))))))))))
      have ho := Zu y
      subst bD
      refine ⟨_, rfl, ?_⟩; exact ⟨dS, ba, (Zt (Zt (Zt (Zt o x) t) aL) dv), ((((((dl).f5).f5).f5).f5).f5).f5, fa, fb, fc, fd, fe, ff, fg, fh, rfl⟩
     refine W_cond_f rfl bQ ?_
     replace bQ := Zk bQ
     refine Zc ?_
     obtain ⟨bC, ay, y⟩ := Zg y
     refine W_mid (M := fun f' w' => (fun (bC : Bool) => ∃ (dT : PHeap) , PHeap.le dQ dT ∧ St w0 dT (Res.box ad 28 [ae, af, ag, ah, ai] :: Res.box ao 28 [aj, ak, al, am, an] :: Res.box ap 32 [au, av, aw] :: Res.box a0 69 [a6, a7] :: Res.box aO 69 [aC, aD] :: Res.arr (encInt .i64) 3 ba bt :: H) w' ∧ f' 1 = a2 ∧ f' 2 = Value.pointer (some ⟨ad, 0, none⟩) ∧ f' 5 = Value.pointer (some ⟨ao, 0, none⟩) ∧ f' 6 = Value.pointer (some ⟨ap, 0, none⟩) ∧ f' 8 = Value.pointer (some ⟨a0, 0, none⟩) ∧ f' 9 = Vi (a3) ∧ f' 10 = Value.pointer (some ⟨aO, 0, none⟩) ∧ f' 11 = ba ∧ f' 12 = Vi (ac) ∧ f' 209 = Value.bool (bC)) bC) ?_ ?_
     ·refine W_dl (n0 := 25) (qs 0 5 (.q 6 (.e 5 [6] (.e 7 [] (qs 8 7 (qs 16 6 (.e 15 [11, 12, 16, 17, 18, 19, 20, 21] (.e 22 [] (.q 23 (.q 24 .done)))))))))) hmix (by kernel_rfl) (by kernel_rfl) (DL_q rfl rfl (Zm (v := errV 41 (aS)) rfl cK ⟨rfl, ?_⟩))
      refine DL_q rfl rfl (Exec.err_eql_nil (T := 41) Try.underlying34 rfl rfl rfl ⟨rfl, ?_⟩)
      refine DL_q rfl rfl (Zm (v := Value.bool (aS.isNone)) rfl rfl ⟨rfl, ?_⟩)
      rcases ite_some ay with ⟨aK, ay⟩ | ⟨aK, ay⟩
      ·refine DL_qg rfl rfl (Zf rfl (Zx aK)) (Exec.load_box_agg (ds := [bm, bn]) ((aP.drew).f6) A69 rfl cJ rfl ⟨rfl, ?_⟩)
       refine DL_qg rfl rfl (Zf rfl (Zx aK)) (Exec.load_box_agg (ds := [au, av, aw]) ((aP.drew).f2) A32 rfl aJ rfl ⟨rfl, ?_⟩)
       refine DL_qg rfl rfl (Zf rfl (Zx aK)) (Exec.load_box_agg (ds := [aC, aD]) ((aP.drew).f4) A69 rfl aA rfl ⟨rfl, ?_⟩)
       obtain ⟨jw, dF, ay⟩ := Zg ay
       refine DL_eg rfl rfl (Zf rfl (Zx aK)) (Tc rfl rfl rfl (Zi rfl (Zi rfl args_nil)) (law19_project_sim dF aP.drew (cp.mono t) (cq.mono t) (bv.mono (Zt (Zt (Zt (Zt (Zt (Zt (Zt (Zt (Zt (Zt (Zt a b) d) i) k) l) j) g) m) o) x) t)) (bw.mono (Zt (Zt (Zt (Zt (Zt (Zt (Zt (Zt (Zt (Zt (Zt a b) d) i) k) l) j) g) m) o) x) t)) (bk.mono (Zt (Zt (Zt (Zt (Zt (Zt (Zt (Zt (Zt (Zt (Zt a b) d) i) k) l) j) g) m) o) x) t))).r ?_)
       rintro _ ja ⟨ih, it, iu, az, dm, rfl, gc, gd⟩
       refine ⟨(ag_cons (ag_g rfl rfl (Zf rfl (Zx aK)) (Exec.load_box_agg (ds := [aC, aD]) ((dm).f4) A69 rfl aA rfl ⟨rfl, rfl⟩)) ag_nil), ?_⟩
       obtain ⟨jx, fN, ay⟩ := Zg ay
       refine DL_eg rfl rfl (Zf rfl (Zx aK)) (Tc rfl rfl rfl (Zi rfl (Zi rfl args_nil)) (ref18_SameState_sim fN dm gc gd (ca.mono (Zt (Zt (Zt (Zt (Zt g m) o) x) t) az)) (cb.mono (Zt (Zt (Zt (Zt (Zt g m) o) x) t) az))).r ?_)
       rintro _ jb ⟨gn, a4, bf, rfl⟩
       refine ⟨ag_nil, ?_⟩
       refine DL_qg rfl rfl (Zf rfl (Zx aK)) (Exec.not rfl rfl ⟨rfl, ?_⟩)
       refine DL_passes 2 (by rw [aK]; rfl) ?_
       rcases ite_some ay with ⟨aa, ay⟩ | ⟨aa, ay⟩
       ·refine DL_qg rfl rfl (Zf rfl (Zx aa)) (Exec.load_box_agg (ds := [aj, ak, al, am, an]) ((bf).f1) A28 rfl a5 rfl ⟨rfl, ?_⟩)
        refine DL_qg rfl rfl (Zf rfl (Zx aa)) (Exec.load_box_agg (ds := [aC, aD]) ((bf).f4) A69 rfl aA rfl ⟨rfl, ?_⟩)
        refine DL_qg rfl rfl (Zf rfl (Zx aa)) (Exec.load_box_agg (ds := [bm, bn]) ((bf).f6) A69 rfl cJ rfl ⟨rfl, ?_⟩)
        refine DL_qg rfl rfl (Zf rfl (Zx aa)) (Exec.load_box_agg (ds := [au, av, aw]) ((bf).f2) A32 rfl aJ rfl ⟨rfl, ?_⟩)
        refine DL_qg rfl rfl (Zf rfl (Zx aa)) (Zp F28_4 rfl aI rfl ⟨rfl, ?_⟩)
        refine DL_qg rfl rfl (Zf rfl (Zx aa)) (Zn (bf) A26 rfl rfl rfl ⟨rfl, ?_⟩)
        refine DL_qg rfl rfl (Zf rfl (Zx aa)) (Zm (v := Vi (ac)) rfl aB ⟨rfl, ?_⟩)
        obtain ⟨g5, fO, ay⟩ := Zg ay
        refine DL_qg rfl rfl (Zf rfl (Zx aa)) (Exec.index_repE S26 rfl rfl rfl (aE.mono (Zt (Zt (Zt (Zt (Zt (Zt (Zt (Zt (Zt (Zt (Zt (Zt (Zt (Zt (Zt n p) a) b) d) i) k) l) j) g) m) o) x) t) az) a4)) fO ?_)
        intro gL hN cZ ei
        refine ⟨rfl, ?_⟩
        refine DL_qg rfl rfl (Zf rfl (Zx aa)) (Zp F51_1 rfl rfl rfl ⟨rfl, ?_⟩)
        refine DL_qg rfl rfl (Zf rfl (Zx aa)) (Zw (E := (encInt .i64)) bf A3 rfl rfl rfl (cZ.sub (Sub.iso (Sub.snd (Sub.fst (Sub.refl _)) rfl)) rfl) ?_)
        intro g4 fP
        obtain rfl : g4 = Vi (g5.Cost) := encInt_val.1 fP
        refine ⟨rfl, ?_⟩
        refine DL_eg rfl rfl (Zf rfl (Zx aa)) (Tc rfl rfl rfl (Zi rfl (Zi rfl args_nil)) (law19_project_sim dF bf (cp.mono (Zt (Zt t az) a4)) (cq.mono (Zt (Zt t az) a4)) (bv.mono (Zt (Zt (Zt (Zt (Zt (Zt (Zt (Zt (Zt (Zt (Zt (Zt (Zt a b) d) i) k) l) j) g) m) o) x) t) az) a4)) (bw.mono (Zt (Zt (Zt (Zt (Zt (Zt (Zt (Zt (Zt (Zt (Zt (Zt (Zt a b) d) i) k) l) j) g) m) o) x) t) az) a4)) (bk.mono (Zt (Zt (Zt (Zt (Zt (Zt (Zt (Zt (Zt (Zt (Zt (Zt (Zt a b) d) i) k) l) j) g) m) o) x) t) az) a4))).r ?_)
        rintro _ jc ⟨ii, iv, iw, aV, bH, rfl, gf, gg⟩
        refine ⟨(ag_cons (ag_g rfl rfl (Zf rfl (Zx aa)) (Exec.load_box_agg (ds := [aj, ak, al, am, an]) ((bH).f1) A28 rfl a5 rfl ⟨rfl, rfl⟩)) (ag_cons (ag_g rfl rfl (Zf rfl (Zx aa)) (Exec.load_box_agg (ds := [aC, aD]) ((bH).f4) A69 rfl aA rfl ⟨rfl, rfl⟩)) (ag_cons (ag_g rfl rfl (Zf rfl (Zx aa)) (Zp F28_4 rfl aI rfl ⟨rfl, rfl⟩)) (ag_cons (ag_g rfl rfl (Zf rfl (Zx aa)) (Zn (bH) A26 rfl rfl rfl ⟨rfl, rfl⟩)) (ag_cons (ag_g rfl rfl (Zf rfl (Zx aa)) (Zm (v := Vi (ac)) rfl aB ⟨rfl, rfl⟩)) (ag_cons (ag_g rfl rfl (Zf rfl (Zx aa)) (Exec.index_run rfl rfl rfl ei ⟨rfl, rfl⟩)) (ag_cons (ag_g rfl rfl (Zf rfl (Zx aa)) (Zp F51_1 rfl rfl rfl ⟨rfl, rfl⟩)) (ag_cons (ag_g rfl rfl (Zf rfl (Zx aa)) (Zw (E := (encInt .i64)) bH A3 rfl rfl rfl ((cZ.sub (Sub.iso (Sub.snd (Sub.fst (Sub.refl _)) rfl)) rfl).mono aV) (fun _ q => ⟨rfl, encInt_val.1 q⟩))) ag_nil)))))))), ?_⟩
        obtain ⟨gD, fQ, ay⟩ := Zg ay
        refine DL_eg rfl rfl (Zf rfl (Zx aa)) (Tc rfl rfl rfl (Zi rfl (Zi rfl (Zi rfl (Zi rfl args_nil)))) (law19_replaced_sim fQ bH (bW.mono (Zt (Zt (Zt (Zt (Zt (Zt (Zt (Zt (Zt (Zt (Zt (Zt (Zt (Zt a b) d) i) k) l) j) g) m) o) x) t) az) a4) aV)) (bX.mono (Zt (Zt (Zt (Zt (Zt (Zt (Zt (Zt (Zt (Zt (Zt (Zt (Zt (Zt a b) d) i) k) l) j) g) m) o) x) t) az) a4) aV)) (bY.mono (Zt (Zt (Zt (Zt (Zt (Zt (Zt (Zt (Zt (Zt (Zt (Zt (Zt (Zt a b) d) i) k) l) j) g) m) o) x) t) az) a4) aV)) (bZ.mono (Zt (Zt (Zt (Zt (Zt (Zt (Zt (Zt (Zt (Zt (Zt (Zt (Zt (Zt a b) d) i) k) l) j) g) m) o) x) t) az) a4) aV)) (bj.mono (Zt (Zt (Zt (Zt (Zt (Zt (Zt (Zt (Zt (Zt (Zt (Zt (Zt (Zt a b) d) i) k) l) j) g) m) o) x) t) az) a4) aV)) (ca.mono (Zt (Zt (Zt (Zt (Zt (Zt (Zt g m) o) x) t) az) a4) aV)) (cb.mono (Zt (Zt (Zt (Zt (Zt (Zt (Zt g m) o) x) t) az) a4) aV)) gf gg).r ?_)
        rintro _ jd ⟨go, eX, eH, rfl⟩
        refine ⟨ag_nil, ?_⟩
        refine DL_qg rfl rfl (Zf rfl (Zx aa)) (Exec.not rfl rfl ⟨rfl, ?_⟩)
        refine DL_q rfl rfl (Zs (v := Value.bool (!gD)) rfl (Zx aa) rfl ⟨rfl, ?_⟩)
        refine DL_done (Zb (Ze ?_))
        have hp := Zu ay
        subst bC
        exact ⟨go, (Zt (Zt (Zt az a4) aV) eX), ((((((((eH).f6).drop).f5).f5).f5).f5).f5).f5, aW, aI, a5, aJ, aX, aY, aA, aZ, aB, rfl⟩
       replace aa := Zk aa
       refine DL_passes 14 (by rw [aa]; rfl) ?_
       refine DL_done (Zb (Ze ?_))
       have hq := Zu ay
       subst bC
       exact ⟨gn, (Zt az a4), ((((((((bf).f6).drop).f5).f5).f5).f5).f5).f5, aW, aI, a5, aJ, aX, aY, aA, aZ, aB, rfl⟩
      replace aK := Zk aK
      refine DL_passes 22 (by rw [aK]; rfl) ?_
      refine DL_done (Zb (Ze ?_))
      have hr := Zu ay
      subst bC
      exact ⟨dQ, (Zv _), ((((((((aP.drew).f6).drop).f5).f5).f5).f5).f5).f5, aW, aI, a5, aJ, aX, aY, aA, aZ, aB, rfl⟩
     intro hA je et
     obtain ⟨dU, dw, dn, fj, fk, fl, fm, fn, fo, fp, fq, fr, d4⟩ := et
     refine (Ze ?_)
     rcases ite_some y with ⟨bS, y⟩ | ⟨bS, y⟩
     ·refine W_cond_t d4 bS (Zc (Zd (Za rfl rfl (Zo (v := Value.bool (false)) rfl rfl (Zb (Ze (W_ret (ib_ret (at_ret (at_ret (ib_ret (at_ret (at_ret (ib_ret (at_ret (at_ret (ib_ret (at_ret (at_ret ?_)))))))))))))))))))
      have hs := Zu y
      subst bD
      have eR := dt _ (c6 (by intro _ h; cases h))
      have ht := Zu eR
      subst bq
      have eS := ci _ (b6 (by intro _ h; cases h))
      have hu := Zu eS
      subst r
      refine ⟨_, ret1 rfl, ?_⟩
      exact ⟨dU, (Zt (Zt (Zt (Zt (Zt (Zt (Zt (Zt (Zt (Zt (Zt (Zt (Zt (Zt n p) a) b) d) i) k) l) j) g) m) o) x) t) dw), ((((((dn).drop).drop).drop).drop).drop).drop, rfl⟩
     refine W_cond_f d4 bS ?_
     replace bS := Zk bS
     refine W_skip (ib_normal (Ze (Zd (Za rfl rfl (Zm (v := Vi (ac)) rfl fr (Za rfl rfl (Exec.add rfl rfl rfl (Za rfl rfl (Zo (v := Vi (IntKind.i64.wrap (ac + 1))) rfl rfl (Zb (Ze ?_)))))))))))
     have hv := Zu y
     subst bD
     refine ⟨_, rfl, ?_⟩; exact ⟨dU, ba, (Zt (Zt (Zt o x) t) dw), ((((((dn).f5).f5).f5).f5).f5).f5, fj, fk, fl, fm, fn, fo, fp, fq, rfl⟩
    refine W_cond_f rfl bO ?_
    replace bO := Zk bO
    refine W_exit (at_exit (at_exit (ib_here (Ze ?_))))
    have hw := Zu y
    subst bD
    refine ⟨_, .inr (c6 (by intro _ h; cases h)), ?_⟩; exact ⟨gm, b9, o, ((((((bG).f5).f5).f5).f5).f5).f5, cD, bV, cE, cF, cl, cG, cH, cI, b8⟩
   rintro hB jf ⟨gx, dq, eu⟩
   have u := dq.elim (eN _) (eL _)
   clear dq
   obtain ⟨b3, dy⟩ := gx
   replace u := un2_eq u
   obtain ⟨cW, bl, a9, c5, cL, d5, d6, d7, d8, cM, hP, cN, hQ⟩ := eu
   refine (Ze (Zc (Zc (W_mid (M := fun f' w' => ∃ (dV : PHeap) , PHeap.le cW dV ∧ St w0 dV (Res.box ad 28 [ae, af, ag, ah, ai] :: Res.box ao 28 [aj, ak, al, am, an] :: Res.box ap 32 [au, av, aw] :: Res.box a0 69 [a6, a7] :: Res.arr (encInt .i64) 3 bl b3 :: H) w' ∧ f' 1 = a2 ∧ f' 2 = Value.pointer (some ⟨ad, 0, none⟩) ∧ f' 5 = Value.pointer (some ⟨ao, 0, none⟩) ∧ f' 6 = Value.pointer (some ⟨ap, 0, none⟩) ∧ f' 8 = Value.pointer (some ⟨a0, 0, none⟩) ∧ f' 9 = Vi (a3) ∧ f' 11 = bl ∧ f' 218 = Value.bool (((decide ((b3.length : Int) = 0)) || decide (a3 = (cn.length : Int))))) ?_ ?_))))
   ·refine Zd (Za rfl rfl (Zm (v := bl) rfl cN (Za rfl rfl (Exec.len_arr ((c5).f5) S24 rfl rfl (Za rfl rfl (Exec.eql rfl rfl rfl (Za rfl rfl (Zm (v := Value.bool (decide ((b3.length : Int) = 0))) rfl rfl ?_))))))))
    by_cases aR : (decide ((b3.length : Int) = 0)) = true
    ·refine WL_passes 5 (by rw [aR]; rfl) ?_
     refine Zb (Ze ?_)
     exact ⟨cW, (Zv _), (((((((c5).f4).drop).f4).f4).f4).f4).f4, cL, d5, d6, d7, d8, cM, cN, (Zx (or_t aR)).symm⟩
    replace aR := Zk aR
    refine WL_run rfl (Zf rfl (Zx aR)) rfl (Zm (v := Vi (a3)) rfl cM (WL_run rfl (Zf rfl (Zx aR)) rfl (Zm (v := a2) rfl cL (WL_run rfl (Zf rfl (Zx aR)) rfl (Zr S67 rfl rfl (cf.mono (Zt (Zt (Zt (Zt (Zt (Zt (Zt (Zt (Zt (Zt (Zt n p) a) b) d) i) k) l) j) g) m) a9)) (WL_run rfl (Zf rfl (Zx aR)) rfl (Exec.eql rfl rfl rfl (Za rfl rfl (Exec.pick_f (v := Value.bool (decide (a3 = (cn.length : Int)))) rfl (Zx aR) rfl (Zb (Ze ?_)))))))))))
    exact ⟨cW, (Zv _), (((((((c5).f4).drop).f4).f4).f4).f4).f4, cL, d5, d6, d7, d8, cM, cN, (Zx (or_f aR)).symm⟩
   intro hC jg ev
   obtain ⟨gp, aH, bg, cO, cP, d9, dA, cm, cQ, dB, dC⟩ := ev
   refine (Ze ?_)
   rcases ite_some u with ⟨bT, u⟩ | ⟨bT, u⟩
   ·refine W_cond_t dC bT (W_exit (at_exit (ib_exit rfl (at_exit (at_exit (ib_here (Ze ?_)))))))
    have hx := Zu u
    subst bq
    refine ⟨_, .inr (b6 (by intro _ h; cases h)), ?_⟩; exact ⟨gp, a6, a7, (Zt (Zt (Zt (Zt (Zt l j) g) m) a9) aH), ((((((bg).f4).drop).f3).f3).f3).f3, cO, cP, d9, dA, cm, cQ, (b4.mono (Zt (Zt (Zt (Zt j g) m) a9) aH)), (b5.mono (Zt (Zt (Zt (Zt j g) m) a9) aH))⟩
   refine W_cond_f dC bT ?_
   replace bT := Zk bT
   refine W_skip (Ze (Zc (W_dl (n0 := 18) (qs 0 13 (.e 13 [] (qs 14 3 (.e 17 [16] .done)))) hmix (by kernel_rfl) (by kernel_rfl) (DL_q rfl rfl (Exec.load_box_agg (ds := [ae, af, ag, ah, ai]) (bg.drew) A28 rfl cP rfl ⟨rfl, ?_⟩)))))
   refine DL_q rfl rfl (Exec.load_box_agg (ds := [a6, a7]) ((bg.drew).f3) A69 rfl cm rfl ⟨rfl, ?_⟩)
   refine DL_q rfl rfl (Zm (v := bl) rfl dB ⟨rfl, ?_⟩)
   refine DL_q rfl rfl (Zm (v := a2) rfl cO ⟨rfl, ?_⟩)
   refine DL_q rfl rfl (Zm (v := Vi (a3)) rfl cQ ⟨rfl, ?_⟩)
   obtain ⟨jk, fR, u⟩ := Zg u
   refine DL_q rfl rfl (Exec.index_repE S67 rfl rfl rfl (cf.mono (Zt (Zt (Zt (Zt (Zt (Zt (Zt (Zt (Zt (Zt (Zt (Zt n p) a) b) d) i) k) l) j) g) m) a9) aH)) fR ?_)
   intro gM hO eh hy
   refine ⟨rfl, ?_⟩
   refine DL_q rfl rfl (Zw (E := (encInt .u8)) bg.drew A5 rfl rfl rfl eh ?_)
   intro ix fS
   obtain rfl := encInt_val.1 fS
   refine ⟨rfl, ?_⟩
   refine DL_q rfl rfl (Exec.convert_int (by rw [Try.underlying5]; rfl) Try.underlying3 rfl rfl ⟨rfl, ?_⟩)
   refine DL_q rfl rfl (Zm (v := bl) rfl dB ⟨rfl, ?_⟩)
   refine DL_q rfl rfl (Exec.len_arr ((bg.drew).f4) S24 rfl rfl ⟨rfl, ?_⟩)
   obtain ⟨ij, fT, u⟩ := Zg u
   refine DL_q rfl rfl (Exec.rem rfl rfl rfl (by simpa using must_some fT) ⟨rfl, ?_⟩)
   obtain ⟨jl, co, u⟩ := Zg u
   obtain ⟨hE, gN, de⟩ := ((bg.drew).f4).arr_at co
   refine DL_q rfl rfl (Exec.index_slice S24 rfl de rfl (idx_some co).1 (idx_some co).2.1 ⟨rfl, ?_⟩)
   refine DL_q rfl rfl (Exec.load_arr (F := (encInt .i64)) ((bg.drew).f4) de A3 rfl rfl rfl co (Sub.refl _) ?_)
   intro iy fU
   obtain rfl := encInt_val.1 fU
   refine ⟨rfl, ?_⟩
   obtain ⟨gy, fV, u⟩ := Zg u
   obtain ⟨ce, jy⟩ := gy
   replace u := un2_eq u
   refine DL_e rfl rfl (Tc rfl rfl rfl (Zi rfl (Zi rfl (Zi rfl args_nil))) (ground_Apply_sim fV bg.drew (bc.mono (Zt (Zt (Zt (Zt (Zt (Zt (Zt (Zt (Zt (Zt (Zt (Zt n p) a) b) d) i) k) l) j) g) m) a9) aH)) (bd.mono (Zt (Zt (Zt (Zt (Zt (Zt (Zt (Zt (Zt (Zt (Zt (Zt n p) a) b) d) i) k) l) j) g) m) a9) aH)) (bo.mono (Zt (Zt (Zt (Zt (Zt (Zt (Zt (Zt (Zt (Zt (Zt (Zt n p) a) b) d) i) k) l) j) g) m) a9) aH)) (bp.mono (Zt (Zt (Zt (Zt (Zt (Zt (Zt (Zt (Zt (Zt (Zt (Zt n p) a) b) d) i) k) l) j) g) m) a9) aH)) (aE.mono (Zt (Zt (Zt (Zt (Zt (Zt (Zt (Zt (Zt (Zt (Zt (Zt n p) a) b) d) i) k) l) j) g) m) a9) aH)) (b4.mono (Zt (Zt (Zt (Zt j g) m) a9) aH)) (b5.mono (Zt (Zt (Zt (Zt j g) m) a9) aH))).r ?_)
   rintro _ jh ⟨dW, cc, cd, dx, eI, rfl, dI, dJ⟩
   refine ⟨ag_nil, ?_⟩
   refine DL_q rfl rfl (Zm (v := Value.tuple #[Value.agg #[cc, cd], errV 41 (ce)]) rfl rfl ⟨rfl, ?_⟩)
   refine DL_q rfl rfl (Exec.extract (v := Value.agg #[cc, cd]) rfl rfl rfl ⟨rfl, ?_⟩)
   refine DL_q rfl rfl (Exec.extract (v := errV 41 (ce)) rfl rfl rfl ⟨rfl, ?_⟩)
   refine DL_e rfl rfl (Exec.store_box (ds := [cc, cd]) (es := [cc, cd]) (eI).f3 A69 rfl cm rfl rfl (Zj (dI).one (Zj (dJ).one one_nil)) (Nat.le_of_ble_eq_true rfl) rfl ?_)
   intro ji dp
   refine ⟨(ag_cons (ag_r rfl rfl (Exec.extract (v := errV 41 (ce)) rfl rfl rfl ⟨rfl, rfl⟩)) ag_nil), ?_⟩
   refine DL_done (Za rfl rfl (Zo (v := errV 41 (ce)) rfl rfl (Zb (Ze (Zc (Zd (Za rfl rfl (Zm (v := errV 41 (ce)) rfl rfl (Za rfl rfl (Exec.err_neq_nil (T := 41) Try.underlying34 rfl rfl rfl (Zb (Ze ?_))))))))))))
   rcases ite_some u with ⟨bU, u⟩ | ⟨bU, u⟩
   ·refine W_cond_t rfl bU (Zc (Zd (Za rfl rfl (Zo (v := Value.bool (false)) rfl rfl (Zb (Ze (W_ret (ib_ret (at_ret (at_ret (ib_ret (at_ret (at_ret ?_)))))))))))))
    have hz := Zu u
    subst bq
    have eT := ci _ (b6 (by intro _ h; cases h))
    have h0 := Zu eT
    subst r
    refine ⟨_, ret1 rfl, ?_⟩
    exact ⟨dW, (Zt (Zt (Zt (Zt (Zt (Zt (Zt (Zt (Zt (Zt (Zt (Zt (Zt n p) a) b) d) i) k) l) j) g) m) a9) aH) dx), (((((dp).drop).drop).drop).drop).drop, rfl⟩
   refine W_cond_f rfl bU ?_
   replace bU := Zk bU
   refine W_skip (ib_normal (Ze (Zd (Za rfl rfl (Zm (v := Vi (a3)) rfl cQ (Za rfl rfl (Exec.add rfl rfl rfl (Za rfl rfl (Zo (v := Vi (IntKind.i64.wrap (a3 + 1))) rfl rfl (Zb (Ze ?_)))))))))))
   have h1 := Zu u
   subst bq
   refine ⟨_, rfl, ?_⟩; exact ⟨dW, cc, cd, (Zt (Zt (Zt (Zt (Zt (Zt l j) g) m) a9) aH) dx), (((((dp).f4).drop).f3).f3).f3, cO, cP, d9, dA, cm, rfl, dI, dJ⟩
  refine W_cond_f rfl bM ?_
  replace bM := Zk bM
  refine W_exit (at_exit (at_exit (ib_here (Ze ?_))))
  have h2 := Zu u
  subst bq
  refine ⟨_, .inr (b6 (by intro _ h; cases h)), ?_⟩; exact ⟨gl, a6, a7, l, ((((ch).f3).f3).f3).f3, c9, cA, cj, cB, ck, cC, b4, b5⟩
 rintro hD jj ⟨gz, dr, ew⟩
 have hm := dr.elim (eM _) (eK _)
 clear dr
 obtain ⟨du, dY, dZ⟩ := gz
 replace hm := un3_eq hm
 obtain ⟨gq, cX, cY, eY, eJ, hR, hT, hU, hV, hW, hX, hF, hG⟩ := ew
 refine (Ze (Zc (Zd (Za rfl rfl (Zo (v := Value.bool (true)) rfl rfl (Zb (Ze (W_ret ?_))))))))
 have h3 := Zu hm
 subst r
 refine ⟨_, ret1 rfl, ?_⟩
 exact ⟨gq, (Zt (Zt (Zt (Zt (Zt (Zt (Zt n p) a) b) d) i) k) eY), ((((eJ).drop).drop).drop).drop, rfl⟩
end Go.Pw
