/-
  The walks (printed by my generator).
-/
import Derived.Test.YtkfcbmecmdpilaaL29
import Derived.Test.YtkfcbmecmdpilaaL27
import Derived.Test.YtkfcbmecmdpilaaSx8
set_option maxRecDepth 100000
set_option maxHeartbeats 4000000
set_option linter.unusedVariables false
namespace Go.Pw
open Go.Proofs
theorem S67 : tySlice Try.prog 67 = some (5, 1, 1) := by kernel_rfl
theorem slices_Clone___int_int__sim {w0 w : World} {s : PHeap} {H : List Res} {b : (List Int)} {c : Value} {r : (List Int)} (hm : slices_Clone___int_int__p b = some r) (hS : St w0 s (H) w) (d : SliceRep (encInt .i64) s c b) :
  Calls Try.prog 71 #[c] w fun e w' => ∃ v, e = .returned v ∧ ((fun (u : (List Int)) => ∃ (g : PHeap) (h : Value), PHeap.le s g ∧ St w0 g (Res.arr (encInt .i64) 3 h u :: H) w' ∧ v = h) r) := by
 unfold slices_Clone___int_int__p at hm
 refine calls_of_W Try.func71 rfl rfl (Zc (Zd (Za rfl rfl (Zo (v := Value.slice none 0 0) rfl rfl (Zb (Ze (Zc (Zc (Zd (Za rfl rfl (Zm (v := c) rfl rfl ?_)))))))))))
 obtain ⟨j, ab, y, k, p⟩ := (d).nilShape
 refine Za rfl rfl (Exec.slice_eql_nil Try.underlying24 rfl k rfl (Zb (Ze ?_)))
 by_cases a : j.isNone = true
 ·have q := p a
  replace hm := (show (some []) = ((app 8 [] b).bind fun f => some f) from by simp [q, app]).trans hm
  refine W_true ((Zx a)) (Zc (Zd (Za rfl rfl (Zo (v := Value.slice none 0 0) rfl rfl (Zb (Ze (W_ret (at_ret ?_))))))))
  have z := Zu hm
  subst r
  refine ⟨_, ret1 rfl, ?_⟩
  have l := hS.nilArr (encInt .i64) 3
  exact ⟨s, (Value.slice none 0 0), (Zv _), l, rfl⟩
 replace a := Zk a
 refine W_false ((Zx a)) (W_skip (Ze (Zc (Zd (Za rfl rfl (Exec.buildSlice (Te := 3) (cs := []) hS rfl parts_nil (fun _ => by kernel_rfl) ?_))))))
 intro x ac m
 refine Za rfl rfl (Zm (v := c) rfl rfl ?_)
 have n := St.boxArr (E := (encInt .i64)) (xs := []) m rfl (by simp [maxLen])
 obtain ⟨f, t, hm⟩ := Zg hm
 refine Za rfl rfl (Exec.append_rep (E := (encInt .i64)) (ys := b) n S24 Z3 rfl (by decide) rfl rfl rfl d t ?_)
 intro i ad o
 refine Za rfl rfl (Zo (v := i) rfl rfl (Zb (Ze (W_ret ?_))))
 have aa := Zu hm
 subst r
 refine ⟨_, ret1 rfl, ?_⟩
 exact ⟨s, i, (Zv _), o, rfl⟩
theorem ground_Initial_sim {w0 w : World} {s : PHeap} {H : List Res} {fu : Nat} {g : Ground} {q : Value} {l : Value} {t : Value} {u : Value} {x : Value} {r : GState} (hm : ground_Initial_p fu g = some r) (hS : St w0 s (H) w) (a2 : SliceRep encAtom s q g.Atoms) (m : SliceRep encGFluent s l g.Fluents) (af : SliceRep (encInt .i64) s t g.Init) (a3 : SliceRep encCond s u g.Goal) (a4 : SliceRep encGOp s x g.Ops) :
  Calls Try.prog 25 #[Value.agg #[q, l, t, u, x]] w fun e w' => ∃ v, e = .returned v ∧ ((fun (a1 : GState) => ∃ (p : PHeap) (az : Value) (a0 : Value), PHeap.le s p ∧ St w0 p (H) w' ∧ v = Value.agg #[az, a0] ∧ SliceRep (encInt .i64) p az a1.True ∧ SliceRep (encInt .i64) p a0 a1.Values) r) := by
 unfold ground_Initial_p at hm
 refine calls_of_W Try.func25 rfl rfl (Zc (Zd (Za rfl rfl (Exec.box (cs := [q, l, t, u, x]) hS rfl rfl rfl ?_))))
 intro bb bq a9
 refine Za rfl rfl (Exec.alloc (cs := [Value.slice none 0 0, Value.slice none 0 0]) a9 Z69 rfl rfl ?_)
 intro ag br ai
 refine Zb (Ze (Zc (Zc (Zd (Za rfl rfl (Exec.load_box_agg (ds := [q, l, t, u, x]) ((ai).f1) A28 rfl rfl rfl ?_))))))
 obtain ⟨b6, aN, hm⟩ := Zg hm
 refine Za rfl rfl (Tc rfl rfl rfl (Zi rfl args_nil) (ground_Valid_sim aN ai a2 m af a3 a4).r ?_)
 rintro _ bs ⟨aV, h, y, rfl⟩
 refine Za rfl rfl (Exec.not rfl rfl (Zb (Ze ?_)))
 rcases ite_some hm with ⟨i, hm⟩ | ⟨i, hm⟩
 ·refine W_cond_t rfl i (Zc (Zd (Za rfl rfl (Exec.build rfl parts_nil (v := Value.agg #[Value.slice none 0 0, Value.slice none 0 0]) (fun _ => by kernel_rfl) (Za rfl rfl (Exec.store_box (ds := [Value.slice none 0 0, Value.slice none 0 0]) (es := [Value.slice none 0 0, Value.slice none 0 0]) y A69 rfl rfl rfl rfl (Zj rfl (Zj rfl one_nil)) (Nat.le_of_ble_eq_true rfl) rfl ?_))))))
  intro bt aj
  refine Zb (Ze (W_ret (at_ret ?_)))
  have bf := Zu hm
  subst r
  refine ⟨_, retG1 rfl ⟨_, _, rfl, cellRes (aj) A69⟩, ?_⟩
  exact ⟨aV, (Value.slice none 0 0), (Value.slice none 0 0), h, ((aj).drop).drop, rfl, (SliceRep.nil _ _), (SliceRep.nil _ _)⟩
 refine W_cond_f rfl i ?_
 replace i := Zk i
 refine W_skip (Ze (Zc (Zd (Za rfl rfl (Zp F28_2 rfl rfl rfl (Za rfl rfl (Zn ((y).f1) A24 rfl rfl rfl ?_)))))))
 obtain ⟨ba, aO, hm⟩ := Zg hm
 refine Za rfl rfl (Tc rfl rfl rfl (Zi rfl args_nil) (slices_Clone___int_int__sim aO y (af.mono h)).r ?_)
 rintro b bu ⟨aw, _, o, ak, rfl⟩
 refine Za rfl rfl (Exec.build rfl (parts_cons (c := [b]) (cells_of rfl (cells_one (ak).arr_one)) parts_nil) (v := Value.agg #[b, Value.slice none 0 0]) (fun _ => by kernel_rfl) (Za rfl rfl (Exec.alloc (cs := [Value.slice none 0 0, Value.slice none 0 0]) ak Z69 rfl rfl ?_)))
 intro ah bv al
 refine Za rfl rfl (Exec.store_box (ds := [b, Value.slice none 0 0]) (es := [b, Value.slice none 0 0]) al A69 rfl rfl rfl rfl (Zj ((al).f1).arr_one (Zj rfl one_nil)) (Nat.le_of_ble_eq_true rfl) rfl ?_)
 intro bw am
 refine Zb (Ze (Zc (Zc (Zd (Za rfl rfl (Zp F28_1 rfl rfl rfl (Za rfl rfl (Zn ((am).f3) A23 rfl rfl rfl (Za rfl rfl (Zr S23 rfl rfl (m.mono (Zt h o)) (Za rfl rfl (Zm (v := Vi (0)) rfl rfl (Zb (Ze ?_))))))))))))))
 obtain ⟨ae, a6, hm⟩ := Zg hm
 refine W_block (W_forS (fun k' s' f' w' => (fun (ae : (List Int)) => ∃ (ax : PHeap) (d : Value), PHeap.le aw ax ∧ St w0 ax (Res.box ag 69 [Value.slice none 0 0, Value.slice none 0 0] :: Res.box ah 69 [b, d] :: Res.arr (encInt .i64) 3 b ba :: Res.arr (encInt .i64) 3 d ae :: H) w' ∧ f' 2 = Value.pointer (some ⟨ag, 0, none⟩) ∧ f' 3 = Value.pointer (some ⟨ah, 0, none⟩) ∧ f' 15 = l ∧ f' 16 = Vi ((g.Fluents.length : Int)) ∧ f' 17 = Vi (k' : Int)) s') a6 ?_ ?_ ?_)
 ·have aA := am.nilArr (encInt .i64) 3
  exact ⟨aw, (Value.slice none 0 0), (Zv _), (((((aA).f4).drop).f2).f2).f3, rfl, rfl, rfl, rfl, rfl⟩
 ·intro aH ae aW bi bx aG a7 j
  obtain ⟨aX, d, ap, an, aK, ab, ar, au, ad⟩ := a7
  refine Zc (Zd (Za rfl rfl (Zq rfl ad au (Zb (Ze (Zc (W_true (Zx (decide_eq_true (by omega))) (W_skip (Ze (Zc (W_block (Zc (Zd ?_)))))))))))))
  obtain ⟨a, aP, j⟩ := Zg j
  refine Za rfl rfl (Exec.index_rep S23 rfl ar ad (m.mono (Zt (Zt h o) ap)) aP ?_)
  intro bc bl a5
  refine Za rfl rfl (Zw (E := encGFluent) an A93 rfl rfl rfl a5 ?_)
  intro bp aQ
  obtain ⟨ay, rfl, aS⟩ := encGFluent_val.1 aQ
  refine Za rfl rfl (Exec.alloc (cs := [Value.string (⟨#[]⟩), Value.slice none 0 0, Vi (0), Vi (0), Vi (0)]) an Z93 rfl rfl ?_)
  intro bd bz aB
  refine Za rfl rfl (Exec.store_box (ds := [Value.string (a.Fluent.Name), ay, Vi (a.Lo), Vi (a.Hi), Vi (a.Init)]) (es := [Value.string (a.Fluent.Name), ay, Vi (a.Lo), Vi (a.Hi), Vi (a.Init)]) aB A93 rfl rfl rfl rfl (Zj rfl (Zj (aS).one (Zj rfl (Zj rfl (Zj rfl one_nil))))) (Nat.le_of_ble_eq_true rfl) rfl ?_)
  intro b0 z
  refine Zb (Ze (Zd (Za rfl rfl (Zp F69_1 rfl ab rfl (Za rfl rfl (Zn ((z).f2) A24 rfl rfl rfl (Za rfl rfl (Zp F93_3 rfl rfl rfl (Za rfl rfl (Zn (z) A3 rfl rfl rfl (Za rfl rfl (Exec.buildSlice (Te := 3) (cs := [Vi (a.Init)]) z rfl (parts_cons (c := [Vi (a.Init)]) (cells_of rfl rfl) parts_nil) (fun _ => by kernel_rfl) ?_))))))))))))
  intro be b1 aC
  obtain ⟨bk, aR, j⟩ := Zg j
  refine Za rfl rfl (Exec.append_box (E := (encInt .i64)) (ys := [a.Init]) (aC).f5 S24 Z3 rfl (by decide) rfl rfl rfl rfl ⟨[Vi (a.Init)], [], rfl, rfl, rfl⟩ rfl aR ?_)
  intro ac b2 aa
  refine Za rfl rfl (Zp F69_1 rfl ab rfl (Za rfl rfl (Exec.store_box (ds := [ac]) (es := [b, ac]) (aa).f3 A24 rfl rfl rfl (cells_one (((aa).f3).f1).arr_one) (Zj (((aa).f3).f1).arr_one one_nil) (Nat.le_of_ble_eq_true rfl) rfl ?_)))
  intro b3 aD
  refine Zb (ib_normal (Ze (Zd (Za rfl rfl (Exec.add rfl ad rfl (Za rfl rfl (Zm (v := Vi (IntKind.i64.wrap ((aH : Int) + 1))) rfl rfl (Zb (Ze ?_)))))))))
  have bg := Zu j
  subst aW
  exact ⟨aX, ac, ap, ((((((aD).f2).drop).f1).f3).f2).f3, aK, ab, ar, au, (Eq.trans rfl (wrap_up aG (SliceRep.le (m.mono (Zt h o)))))⟩
 intro bj b4 a8
 obtain ⟨bn, d, aI, n, av, aL, bm, aM, aZ⟩ := a8
 refine Zc (Zd (Za rfl rfl (Zq rfl aZ aM (Zb (Ze (Zc (W_false (Zx (decide_eq_false (by omega))) (W_exit (at_exit (at_exit (ib_here (Ze (Zc (Zd (Za rfl rfl (Exec.load_box_agg (ds := [b, d]) ((n).f1) A69 rfl aL rfl (Za rfl rfl (Exec.store_box (ds := [b, d]) (es := [b, d]) n A69 rfl av rfl rfl (Zj ((n).f2).arr_one (Zj ((n).f3).arr_one one_nil)) (Nat.le_of_ble_eq_true rfl) rfl ?_))))))))))))))))))
 intro b5 ao
 refine Zb (Ze (W_ret ?_))
 have bh := Zu hm
 subst r
 refine ⟨_, retG1 rfl ⟨_, _, av, cellRes (ao) A69⟩, ?_⟩
 obtain ⟨bo, aJ, aE, aT⟩ := (ao).f2.freezeArr
 obtain ⟨aY, aq, aF, aU⟩ := (aE).f2.freezeArr
 exact ⟨aY, b, d, (Zt (Zt (Zt (Zt h o) aI) aJ) aq), ((aF).drop).drop, rfl, (aT.mono aq), aU⟩
theorem law19_project_sim {w0 w : World} {s : PHeap} {H : List Res} {az : GState} {ad : simplify_Map} {n : Value} {o : Value} {p : Value} {q : Value} {t : Value} {r : GState} (hm : law19_project_p az ad = some r) (hS : St w0 s (H) w) (b5 : SliceRep (encInt .i64) s n az.True) (aW : SliceRep (encInt .i64) s o az.Values) (aE : SliceRep (encInt .i64) s p ad.Atoms) (aX : SliceRep (encInt .i64) s q ad.Fluents) (cM : SliceRep (encInt .i64) s t ad.Ops) :
  Calls Try.prog 27 #[Value.agg #[n, o], Value.agg #[p, q, t]] w fun e w' => ∃ v, e = .returned v ∧ ((fun (b3 : GState) => ∃ (a8 : PHeap) (b1 : Value) (b2 : Value), PHeap.le s a8 ∧ St w0 a8 (H) w' ∧ v = Value.agg #[b1, b2] ∧ SliceRep (encInt .i64) a8 b1 b3.True ∧ SliceRep (encInt .i64) a8 b2 b3.Values) r) := by
 unfold law19_project_p at hm
 refine calls_of_W Try.func27 rfl rfl (Zc (Zd (Za rfl rfl (Exec.box (cs := [n, o]) hS rfl rfl rfl ?_))))
 intro a d8 bK
 refine Za rfl rfl (Exec.box (cs := [p, q, t]) bK rfl rfl rfl ?_)
 intro b d9 bL
 refine Za rfl rfl (Exec.alloc (cs := [Value.slice none 0 0, Value.slice none 0 0]) bL Z69 rfl rfl ?_)
 intro d dA bM
 refine Zb (Ze (Zc (Zd (Za rfl rfl (Exec.alloc (cs := [Value.slice none 0 0, Value.slice none 0 0]) bM Z69 rfl rfl ?_)))))
 intro g dB bN
 refine Zb (Ze (Zc (Zc (Zd (Za rfl rfl (Zo (v := Vi (0)) rfl rfl (Zb (Ze ?_))))))))
 obtain ⟨aY, bA, dp, ca, bY⟩ := ctl_some hm
 refine W_mid (M := fun f' w' => ∃ s', (aY = .next s' ∨ aY = .brk s') ∧ (un2 fun (bh : Int) (al : (List Int)) => ∃ (bs : PHeap) (i : Value), PHeap.le s bs ∧ St w0 bs (Res.box a 69 [n, o] :: Res.box b 32 [p, q, t] :: Res.box d 69 [Value.slice none 0 0, Value.slice none 0 0] :: Res.box g 69 [i, Value.slice none 0 0] :: Res.arr (encInt .i64) 3 i al :: H) w' ∧ f' 2 = Value.pointer (some ⟨a, 0, none⟩) ∧ f' 3 = Value.pointer (some ⟨b, 0, none⟩) ∧ f' 4 = Value.pointer (some ⟨d, 0, none⟩) ∧ f' 5 = Value.pointer (some ⟨g, 0, none⟩) ∧ f' 6 = Vi (bh)) s') ?_ ?_
 ·refine W_block (W_while (fun s' f' w' => (un2 fun (u : Int) (aU : (List Int)) => ∃ (bt : PHeap) (ae : Value), PHeap.le s bt ∧ St w0 bt (Res.box a 69 [n, o] :: Res.box b 32 [p, q, t] :: Res.box d 69 [Value.slice none 0 0, Value.slice none 0 0] :: Res.box g 69 [ae, Value.slice none 0 0] :: Res.arr (encInt .i64) 3 ae aU :: H) w' ∧ f' 2 = Value.pointer (some ⟨a, 0, none⟩) ∧ f' 3 = Value.pointer (some ⟨b, 0, none⟩) ∧ f' 4 = Value.pointer (some ⟨d, 0, none⟩) ∧ f' 5 = Value.pointer (some ⟨g, 0, none⟩) ∧ f' 6 = Vi (u)) s') bA ?_ ?_)
  ·have bO := bN.nilArr (encInt .i64) 3
   exact ⟨s, (Value.slice none 0 0), (Zv _), ((((bO).f1).f2).f3).f4, rfl, rfl, rfl, rfl, rfl⟩
  intro cG aZ dg dC bC l cc
  obtain ⟨u, aU⟩ := cG
  replace l := un2_eq l
  obtain ⟨aO, ae, ah, ac, a4, aw, aH, aI, aj⟩ := bC
  refine Zc (Zc (Zd (Za rfl rfl (Zm (v := Vi (u)) rfl aj (Za rfl rfl (Zp F32_0 rfl aw rfl (Za rfl rfl (Zn ((ac).f1) A24 rfl rfl rfl (Za rfl rfl (Zr S24 rfl rfl (aE.mono ah) (Za rfl rfl (Zq rfl rfl rfl (Zb (Ze ?_))))))))))))))
  rcases ite_some l with ⟨an, l⟩ | ⟨an, l⟩
  ·refine W_cond_t rfl an (W_skip (Ze (Zc (W_block (Zc ?_)))))
   obtain ⟨a0, y, l⟩ := Zg l
   refine W_mid (M := fun f' w' => (fun (a0 : Bool) => ∃ (bu : PHeap) , PHeap.le aO bu ∧ St w0 bu (Res.box a 69 [n, o] :: Res.box b 32 [p, q, t] :: Res.box d 69 [Value.slice none 0 0, Value.slice none 0 0] :: Res.box g 69 [ae, Value.slice none 0 0] :: Res.arr (encInt .i64) 3 ae aU :: H) w' ∧ f' 2 = Value.pointer (some ⟨a, 0, none⟩) ∧ f' 3 = Value.pointer (some ⟨b, 0, none⟩) ∧ f' 4 = Value.pointer (some ⟨d, 0, none⟩) ∧ f' 5 = Value.pointer (some ⟨g, 0, none⟩) ∧ f' 6 = Vi (u) ∧ f' 26 = Value.bool (a0)) a0) ?_ ?_
   ·refine Zd (Za rfl rfl (Zp F32_0 rfl aw rfl (Za rfl rfl (Zn ((ac).f1) A24 rfl rfl rfl (Za rfl rfl (Zm (v := Vi (u)) rfl aj ?_))))))
    obtain ⟨cK, cz, y⟩ := Zg y
    refine Za rfl rfl (Exec.index_rep S24 rfl rfl rfl (aE.mono ah) cz ?_)
    intro cN du b6
    refine Za rfl rfl (Zw (E := (encInt .i64)) ac A3 rfl rfl rfl b6 ?_)
    intro d4 c0
    obtain rfl := encInt_val.1 c0
    refine Za rfl rfl (Exec.geq rfl rfl rfl (Za rfl rfl (Zm (v := Value.bool (decide (0 ≤ cK))) rfl rfl ?_)))
    rcases ite_some y with ⟨x, y⟩ | ⟨x, y⟩
    ·refine WL_run rfl (Zf rfl (Zx x)) rfl (Zp F69_0 rfl a4 rfl (WL_run rfl (Zf rfl (Zx x)) rfl (Zn (ac) A24 rfl rfl rfl (WL_run rfl (Zf rfl (Zx x)) rfl (Zm (v := Vi (u)) rfl aj ?_)))))
     obtain ⟨cL, c1, y⟩ := Zg y
     refine WL_run rfl (Zf rfl (Zx x)) rfl (Tc rfl rfl rfl (Zi rfl (Zi rfl args_nil)) (ref18_In_sim c1 ac (b5.mono ah)).r ?_)
     rintro _ dD ⟨cC, ce, bP, rfl⟩
     refine Za rfl rfl (Zs (v := Value.bool (cL)) rfl (Zx x) rfl (Zb (Ze ?_)))
     have cT := Zu y
     subst a0
     exact ⟨cC, ce, (((((bP).f4).f4).f4).f4).f4, a4, aw, aH, aI, aj, rfl⟩
    replace x := Zk x
    refine WL_passes 5 (by rw [x]; rfl) ?_
    refine Zb (Ze ?_)
    have cU := Zu y
    subst a0
    exact ⟨aO, (Zv _), (((((ac).f4).f4).f4).f4).f4, a4, aw, aH, aI, aj, rfl⟩
   intro dh dE bE
   obtain ⟨aP, bj, am, bl, aJ, bm, ax, aK, bn⟩ := bE
   refine (Ze ?_)
   obtain ⟨ar, z, l⟩ := Zg l
   refine W_mid (M := fun f' w' => (fun (ar : (List Int)) => ∃ (bv : PHeap) (aA : Value), PHeap.le aP bv ∧ St w0 bv (Res.box a 69 [n, o] :: Res.box b 32 [p, q, t] :: Res.box d 69 [Value.slice none 0 0, Value.slice none 0 0] :: Res.box g 69 [aA, Value.slice none 0 0] :: Res.arr (encInt .i64) 3 aA ar :: H) w' ∧ f' 2 = Value.pointer (some ⟨a, 0, none⟩) ∧ f' 3 = Value.pointer (some ⟨b, 0, none⟩) ∧ f' 4 = Value.pointer (some ⟨d, 0, none⟩) ∧ f' 5 = Value.pointer (some ⟨g, 0, none⟩) ∧ f' 6 = Vi (u)) ar) ?_ ?_
   ·rcases ite_some z with ⟨ao, z⟩ | ⟨ao, z⟩
    ·refine W_cond_t bn ao (W_dl (n0 := 9) (qs 0 7 (.e 7 [0, 1] (.e 8 [] .done))) hmix (by kernel_rfl) (by kernel_rfl) (DL_q rfl rfl (Zp F69_0 rfl ax rfl ⟨rfl, ?_⟩)))
     refine DL_q rfl rfl (Zn ((am.drew).f3) A24 rfl rfl rfl ⟨rfl, ?_⟩)
     refine DL_q rfl rfl (Zp F32_0 rfl aJ rfl ⟨rfl, ?_⟩)
     refine DL_q rfl rfl (Zn ((am.drew).f1) A24 rfl rfl rfl ⟨rfl, ?_⟩)
     refine DL_q rfl rfl (Zm (v := Vi (u)) rfl aK ⟨rfl, ?_⟩)
     obtain ⟨aC, c2, z⟩ := Zg z
     refine DL_q rfl rfl (Exec.index_repE S24 rfl rfl rfl (aE.mono (Zt ah bj)) c2 ?_)
     intro cO dv b7 cV
     refine ⟨rfl, ?_⟩
     refine DL_q rfl rfl (Zw (E := (encInt .i64)) am.drew A3 rfl rfl rfl b7 ?_)
     intro d5 c3
     obtain rfl := encInt_val.1 c3
     refine ⟨rfl, ?_⟩
     refine DL_e rfl rfl (Exec.buildSlice (Te := 3) (cs := [Vi (aC)]) am.drew rfl (parts_cons (c := [Vi (aC)]) (cells_of rfl rfl) parts_nil) (fun _ => by kernel_rfl) ?_)
     intro cP dF bc
     refine ⟨(ag_cons (ag_r rfl rfl (Zp F69_0 rfl ax rfl ⟨rfl, rfl⟩)) (ag_cons (ag_r rfl rfl (Zn ((bc).f4) A24 rfl rfl rfl ⟨rfl, rfl⟩)) ag_nil)), ?_⟩
     obtain ⟨dr, c4, z⟩ := Zg z
     refine DL_e rfl rfl (Exec.append_box (E := (encInt .i64)) (ys := [aC]) (bc).f5 S24 Z3 rfl (by decide) rfl rfl rfl rfl ⟨[Vi (aC)], [], rfl, rfl, rfl⟩ rfl c4 ?_)
     intro aS dG aF
     refine ⟨ag_nil, ?_⟩
     refine DL_done (Za rfl rfl (Zp F69_0 rfl ax rfl (Za rfl rfl (Exec.store_box (ds := [aS]) (es := [aS, Value.slice none 0 0]) (aF).f4 A24 rfl rfl rfl (cells_one (((aF).f4).f1).arr_one) (Zj (((aF).f4).f1).arr_one one_nil) (Nat.le_of_ble_eq_true rfl) rfl ?_))))
     intro dH bQ
     refine Zb (Ze ?_)
     have cW := Zu z
     subst ar
     exact ⟨aP, aS, (Zv _), (((((bQ).f1).f1).f4).f4).f4, bl, aJ, bm, ax, aK⟩
    refine W_cond_f bn ao ?_
    replace ao := Zk ao
    refine W_skip (Ze ?_)
    have cX := Zu z
    subst ar
    exact ⟨aP, ae, (Zv _), (((((am).f4).f4).f4).f4).f4, bl, aJ, bm, ax, aK⟩
   intro di dI bF
   obtain ⟨cD, aA, cf, bR, cj, ck, cl, cm, cn⟩ := bF
   refine (ib_normal (Ze (Zd (Za rfl rfl (Zm (v := Vi (u)) rfl cn (Za rfl rfl (Exec.add rfl rfl rfl (Za rfl rfl (Zo (v := Vi (IntKind.i64.wrap (u + 1))) rfl rfl (Zb (Ze ?_)))))))))))
   have cY := Zu l
   subst aZ
   refine ⟨_, rfl, ?_⟩; exact ⟨cD, aA, (Zt (Zt ah bj) cf), (((((bR).f4).f4).f4).f4).f4, cj, ck, cl, cm, rfl⟩
  refine W_cond_f rfl an ?_
  replace an := Zk an
  refine W_exit (at_exit (at_exit (ib_here (Ze ?_))))
  have cZ := Zu l
  subst aZ
  refine ⟨_, .inr (cc (by intro _ h; cases h)), ?_⟩; exact ⟨aO, ae, ah, (((((ac).f4).f4).f4).f4).f4, a4, aw, aH, aI, aj⟩
 rintro dj dJ ⟨cH, bf, bG⟩
 have hm := bf.elim (ca _) (bY _)
 clear bf
 obtain ⟨bh, al⟩ := cH
 replace hm := un2_eq hm
 obtain ⟨aQ, i, au, bS, co, cp, cq, cr, dy⟩ := bG
 refine (Ze (Zc (Zc (Zd (Za rfl rfl (Zo (v := Vi (0)) rfl rfl (Zb (Ze ?_))))))))
 obtain ⟨ba, bB, dq, cb, bZ⟩ := ctl_some hm
 refine W_mid (M := fun f' w' => ∃ s', (ba = .next s' ∨ ba = .brk s') ∧ (un2 fun (bi : Int) (b4 : (List Int)) => ∃ (bw : PHeap) (af : Value), PHeap.le aQ bw ∧ St w0 bw (Res.box a 69 [n, o] :: Res.box b 32 [p, q, t] :: Res.box d 69 [Value.slice none 0 0, Value.slice none 0 0] :: Res.box g 69 [i, af] :: Res.arr (encInt .i64) 3 i al :: Res.arr (encInt .i64) 3 af b4 :: H) w' ∧ f' 2 = Value.pointer (some ⟨a, 0, none⟩) ∧ f' 3 = Value.pointer (some ⟨b, 0, none⟩) ∧ f' 4 = Value.pointer (some ⟨d, 0, none⟩) ∧ f' 5 = Value.pointer (some ⟨g, 0, none⟩) ∧ f' 7 = Vi (bi)) s') ?_ ?_
 ·refine W_block (W_while (fun s' f' w' => (un2 fun (j : Int) (aV : (List Int)) => ∃ (bx : PHeap) (ag : Value), PHeap.le aQ bx ∧ St w0 bx (Res.box a 69 [n, o] :: Res.box b 32 [p, q, t] :: Res.box d 69 [Value.slice none 0 0, Value.slice none 0 0] :: Res.box g 69 [i, ag] :: Res.arr (encInt .i64) 3 i al :: Res.arr (encInt .i64) 3 ag aV :: H) w' ∧ f' 2 = Value.pointer (some ⟨a, 0, none⟩) ∧ f' 3 = Value.pointer (some ⟨b, 0, none⟩) ∧ f' 4 = Value.pointer (some ⟨d, 0, none⟩) ∧ f' 5 = Value.pointer (some ⟨g, 0, none⟩) ∧ f' 7 = Vi (j)) s') bB ?_ ?_)
  ·have bT := bS.nilArr (encInt .i64) 3
   exact ⟨aQ, (Value.slice none 0 0), (Zv _), (((((bT).f5).f5).f5).f5).f5, co, cp, cq, cr, rfl⟩
  intro cI bb dk dK bD m cd
  obtain ⟨j, aV⟩ := cI
  replace m := un2_eq m
  obtain ⟨aR, ag, ai, a1, aL, aM, bo, bp, a5⟩ := bD
  refine Zc (Zc (W_mid (M := fun f' w' => ∃ (bz : PHeap) , PHeap.le aR bz ∧ St w0 bz (Res.box a 69 [n, o] :: Res.box b 32 [p, q, t] :: Res.box d 69 [Value.slice none 0 0, Value.slice none 0 0] :: Res.box g 69 [i, ag] :: Res.arr (encInt .i64) 3 i al :: Res.arr (encInt .i64) 3 ag aV :: H) w' ∧ f' 2 = Value.pointer (some ⟨a, 0, none⟩) ∧ f' 3 = Value.pointer (some ⟨b, 0, none⟩) ∧ f' 4 = Value.pointer (some ⟨d, 0, none⟩) ∧ f' 5 = Value.pointer (some ⟨g, 0, none⟩) ∧ f' 7 = Vi (j) ∧ f' 48 = Value.bool (((decide (j < (ad.Fluents.length : Int))) && decide (j < (az.Values.length : Int))))) ?_ ?_))
  ·refine Zd (Za rfl rfl (Zm (v := Vi (j)) rfl a5 (Za rfl rfl (Zp F32_1 rfl aM rfl (Za rfl rfl (Zn ((a1).f1) A24 rfl rfl rfl (Za rfl rfl (Zr S24 rfl rfl (aX.mono (Zt au ai)) (Za rfl rfl (Zq rfl rfl rfl (Za rfl rfl (Zm (v := Value.bool (decide (j < (ad.Fluents.length : Int)))) rfl rfl ?_))))))))))))
   by_cases k : (decide (j < (ad.Fluents.length : Int))) = true
   ·refine WL_run rfl (Zf rfl (Zx k)) rfl (Zm (v := Vi (j)) rfl a5 (WL_run rfl (Zf rfl (Zx k)) rfl (Zp F69_1 rfl aL rfl (WL_run rfl (Zf rfl (Zx k)) rfl (Zn (a1) A24 rfl rfl rfl (WL_run rfl (Zf rfl (Zx k)) rfl (Zr S24 rfl rfl (aW.mono (Zt au ai)) (WL_run rfl (Zf rfl (Zx k)) rfl (Zq rfl rfl rfl (Za rfl rfl (Zs (v := Value.bool (decide (j < (az.Values.length : Int)))) rfl (Zx k) rfl (Zb (Ze ?_)))))))))))))
    exact ⟨aR, (Zv _), ((((((a1).f5).f5).f5).f5).f5).f5, aL, aM, bo, bp, a5, (Zx (and_t k)).symm⟩
   replace k := Zk k
   refine WL_passes 6 (by rw [k]; rfl) ?_
   refine Zb (Ze ?_)
   exact ⟨aR, (Zv _), ((((((a1).f5).f5).f5).f5).f5).f5, aL, aM, bo, bp, a5, (Zx (and_f k)).symm⟩
  intro dl dL bH
  obtain ⟨a9, a3, ab, a6, a7, aN, ak, ay, bq⟩ := bH
  refine (Ze ?_)
  rcases ite_some m with ⟨ap, m⟩ | ⟨ap, m⟩
  ·refine W_cond_t bq ap (W_skip (Ze (Zc (W_block (Zc (Zd (Za rfl rfl (Zp F32_1 rfl a7 rfl (Za rfl rfl (Zn ((ab).f1) A24 rfl rfl rfl (Za rfl rfl (Zm (v := Vi (j)) rfl ay ?_))))))))))))
   obtain ⟨dS, c5, m⟩ := Zg m
   refine Za rfl rfl (Exec.index_rep S24 rfl rfl rfl (aX.mono (Zt (Zt au ai) a3)) c5 ?_)
   intro cQ dw b8
   refine Za rfl rfl (Zw (E := (encInt .i64)) ab A3 rfl rfl rfl b8 ?_)
   intro d6 c6
   obtain rfl := encInt_val.1 c6
   refine Za rfl rfl (Exec.geq rfl rfl rfl (Zb (Ze ?_)))
   obtain ⟨av, aa, m⟩ := Zg m
   refine W_mid (M := fun f' w' => (fun (av : (List Int)) => ∃ (b0 : PHeap) (aB : Value), PHeap.le a9 b0 ∧ St w0 b0 (Res.box a 69 [n, o] :: Res.box b 32 [p, q, t] :: Res.box d 69 [Value.slice none 0 0, Value.slice none 0 0] :: Res.box g 69 [i, aB] :: Res.arr (encInt .i64) 3 i al :: Res.arr (encInt .i64) 3 aB av :: H) w' ∧ f' 2 = Value.pointer (some ⟨a, 0, none⟩) ∧ f' 3 = Value.pointer (some ⟨b, 0, none⟩) ∧ f' 4 = Value.pointer (some ⟨d, 0, none⟩) ∧ f' 5 = Value.pointer (some ⟨g, 0, none⟩) ∧ f' 7 = Vi (j)) av) ?_ ?_
   ·rcases ite_some aa with ⟨aq, aa⟩ | ⟨aq, aa⟩
    ·refine W_cond_t rfl aq (W_dl (n0 := 9) (qs 0 7 (.e 7 [0, 1] (.e 8 [] .done))) hmix (by kernel_rfl) (by kernel_rfl) (DL_q rfl rfl (Zp F69_1 rfl ak rfl ⟨rfl, ?_⟩)))
     refine DL_q rfl rfl (Zn ((ab.drew).f3) A24 rfl rfl rfl ⟨rfl, ?_⟩)
     refine DL_q rfl rfl (Zp F69_1 rfl a6 rfl ⟨rfl, ?_⟩)
     refine DL_q rfl rfl (Zn (ab.drew) A24 rfl rfl rfl ⟨rfl, ?_⟩)
     refine DL_q rfl rfl (Zm (v := Vi (j)) rfl ay ⟨rfl, ?_⟩)
     obtain ⟨aD, c7, aa⟩ := Zg aa
     refine DL_q rfl rfl (Exec.index_repE S24 rfl rfl rfl (aW.mono (Zt (Zt au ai) a3)) c7 ?_)
     intro cR dx b9 da
     refine ⟨rfl, ?_⟩
     refine DL_q rfl rfl (Zw (E := (encInt .i64)) ab.drew A3 rfl rfl rfl b9 ?_)
     intro d7 c8
     obtain rfl := encInt_val.1 c8
     refine ⟨rfl, ?_⟩
     refine DL_e rfl rfl (Exec.buildSlice (Te := 3) (cs := [Vi (aD)]) ab.drew rfl (parts_cons (c := [Vi (aD)]) (cells_of rfl rfl) parts_nil) (fun _ => by kernel_rfl) ?_)
     intro cS dM bd
     refine ⟨(ag_cons (ag_r rfl rfl (Zp F69_1 rfl ak rfl ⟨rfl, rfl⟩)) (ag_cons (ag_r rfl rfl (Zn ((bd).f4) A24 rfl rfl rfl ⟨rfl, rfl⟩)) ag_nil)), ?_⟩
     obtain ⟨dt, c9, aa⟩ := Zg aa
     refine DL_e rfl rfl (Exec.append_box (E := (encInt .i64)) (ys := [aD]) (bd).f6 S24 Z3 rfl (by decide) rfl rfl rfl rfl ⟨[Vi (aD)], [], rfl, rfl, rfl⟩ rfl c9 ?_)
     intro aT dN aG
     refine ⟨ag_nil, ?_⟩
     refine DL_done (Za rfl rfl (Zp F69_1 rfl ak rfl (Za rfl rfl (Exec.store_box (ds := [aT]) (es := [i, aT]) (aG).f4 A24 rfl rfl rfl (cells_one (((aG).f4).f1).arr_one) (Zj (((aG).f4).f1).arr_one one_nil) (Nat.le_of_ble_eq_true rfl) rfl ?_))))
     intro dO bU
     refine Zb (Ze ?_)
     have db := Zu aa
     subst av
     exact ⟨a9, aT, (Zv _), ((((((bU).f1).f5).f2).f5).f5).f5, a6, a7, aN, ak, ay⟩
    refine W_cond_f rfl aq ?_
    replace aq := Zk aq
    refine W_skip (Ze ?_)
    have dc := Zu aa
    subst av
    exact ⟨a9, ag, (Zv _), ((((((ab).f5).f5).f5).f5).f5).f5, a6, a7, aN, ak, ay⟩
   intro dm dP bI
   obtain ⟨cE, aB, cg, bV, ct, cu, cv, cw, cx⟩ := bI
   refine (ib_normal (Ze (Zd (Za rfl rfl (Zm (v := Vi (j)) rfl cx (Za rfl rfl (Exec.add rfl rfl rfl (Za rfl rfl (Zo (v := Vi (IntKind.i64.wrap (j + 1))) rfl rfl (Zb (Ze ?_)))))))))))
   have dd := Zu m
   subst bb
   refine ⟨_, rfl, ?_⟩; exact ⟨cE, aB, (Zt (Zt ai a3) cg), ((((((bV).f5).f5).f5).f5).f5).f5, ct, cu, cv, cw, rfl⟩
  refine W_cond_f bq ap ?_
  replace ap := Zk ap
  refine W_exit (at_exit (at_exit (ib_here (Ze ?_))))
  have de := Zu m
  subst bb
  refine ⟨_, .inr (cd (by intro _ h; cases h)), ?_⟩; exact ⟨a9, ag, (Zt ai a3), ((((((ab).f5).f5).f5).f5).f5).f5, a6, a7, aN, ak, ay⟩
 rintro dn dQ ⟨cJ, bg, bJ⟩
 have hm := bg.elim (cb _) (bZ _)
 clear bg
 obtain ⟨bi, b4⟩ := cJ
 replace hm := un2_eq hm
 obtain ⟨d2, af, ch, a2, dz, d0, br, cy, d1⟩ := bJ
 refine (Ze (Zc (Zd (Za rfl rfl (Exec.load_box_agg (ds := [i, af]) ((a2).f3) A69 rfl cy rfl (Za rfl rfl (Exec.store_box (ds := [i, af]) (es := [i, af]) (a2).f2 A69 rfl br rfl rfl (Zj (((a2).f2).f4).arr_one (Zj (((a2).f2).f5).arr_one one_nil)) (Nat.le_of_ble_eq_true rfl) rfl ?_)))))))
 intro dR be
 refine Zb (Ze (W_ret ?_))
 have df := Zu hm
 subst r
 refine ⟨_, retG1 rfl ⟨_, _, br, cellRes (be) A69⟩, ?_⟩
 obtain ⟨d3, ci, bW, cA⟩ := (be).f4.freezeArr
 obtain ⟨cF, bk, bX, cB⟩ := (bW).f4.freezeArr
 exact ⟨cF, i, af, (Zt (Zt (Zt au ch) ci) bk), ((((bX).drop).drop).drop).drop, rfl, (cA.mono bk), cB⟩
theorem ground_proper_sim {w0 w : World} {s : PHeap} {H : List Res} {i : Ground} {n : GState} {o : Value} {p : Value} {q : Value} {t : Value} {u : Value} {ak : Value} {x : Value} {r : Bool} (hm : ground_proper_p i n = some r) (hS : St w0 s (H) w) (a9 : SliceRep encAtom s o i.Atoms) (am : SliceRep encGFluent s p i.Fluents) (bu : SliceRep (encInt .i64) s q i.Init) (bv : SliceRep encCond s t i.Goal) (bw : SliceRep encGOp s u i.Ops) (aA : SliceRep (encInt .i64) s ak n.True) (ah : SliceRep (encInt .i64) s x n.Values) :
  Calls Try.prog 72 #[Value.agg #[o, p, q, t, u], Value.agg #[ak, x]] w fun e w' => ∃ v, e = .returned v ∧ ((fun (bs : Bool) => ∃ (a3 : PHeap) , PHeap.le s a3 ∧ St w0 a3 (H) w' ∧ v = Value.bool (bs)) r) := by
 unfold ground_proper_p at hm
 refine calls_of_W Try.func72 rfl rfl (Zc (Zd (Za rfl rfl (Exec.box (cs := [o, p, q, t, u]) hS rfl rfl rfl ?_))))
 intro d bP aK
 refine Za rfl rfl (Exec.box (cs := [ak, x]) aK rfl rfl rfl ?_)
 intro ar bQ y
 refine Za rfl rfl (Zo (v := Value.bool (false)) rfl rfl (Zb (Ze (Zc (Zc ?_)))))
 obtain ⟨af, l, hm⟩ := Zg hm
 refine W_mid (M := fun f' w' => (fun (af : Bool) => ∃ (a4 : PHeap) , PHeap.le s a4 ∧ St w0 a4 (Res.box d 28 [o, p, q, t, u] :: Res.box ar 69 [ak, x] :: H) w' ∧ f' 2 = Value.pointer (some ⟨d, 0, none⟩) ∧ f' 3 = Value.pointer (some ⟨ar, 0, none⟩) ∧ f' 22 = Value.bool (af)) af) ?_ ?_
 ·refine Zd (Za rfl rfl (Zp F69_1 rfl rfl rfl (Za rfl rfl (Zn (y) A24 rfl rfl rfl (Za rfl rfl (Zr S24 rfl rfl ah (Za rfl rfl (Zp F28_1 rfl rfl rfl (Za rfl rfl (Zn ((y).f1) A23 rfl rfl rfl (Za rfl rfl (Zr S23 rfl rfl am (Za rfl rfl (Exec.neq rfl rfl rfl (Za rfl rfl (Zm (v := Value.bool (!decide ((n.Values.length : Int) = (i.Fluents.length : Int)))) rfl rfl ?_))))))))))))))))
  rcases ite_some l with ⟨b, l⟩ | ⟨b, l⟩
  ·refine WL_passes 8 (by rw [b]; rfl) ?_
   refine Zb (Ze ?_)
   have b1 := Zu l
   subst af
   exact ⟨s, (Zv _), (y).f1, rfl, rfl, rfl⟩
  replace b := Zk b
  refine WL_run rfl (Zf rfl (Zx b)) rfl (Zp F69_0 rfl rfl rfl (WL_run rfl (Zf rfl (Zx b)) rfl (Zn (y) A24 rfl rfl rfl (WL_run rfl (Zf rfl (Zx b)) rfl (Zp F28_0 rfl rfl rfl (WL_run rfl (Zf rfl (Zx b)) rfl (Zn ((y).f1) A22 rfl rfl rfl (WL_run rfl (Zf rfl (Zx b)) rfl (Zr S22 rfl rfl a9 ?_)))))))))
  obtain ⟨bt, bh, l⟩ := Zg l
  refine WL_run rfl (Zf rfl (Zx b)) rfl (Tc rfl rfl rfl (Zi rfl (Zi rfl args_nil)) (ground_indices_sim bh y aA).r ?_)
  rintro _ bR ⟨bm, aW, aL, rfl⟩
  refine WL_run rfl (Zf rfl (Zx b)) rfl (Exec.not rfl rfl (Za rfl rfl (Exec.pick_f (v := Value.bool (!bt)) rfl (Zx b) rfl (Zb (Ze ?_)))))
  have b2 := Zu l
  subst af
  exact ⟨bm, aW, (aL).f1, rfl, rfl, rfl⟩
 intro bA bS aH
 obtain ⟨aj, g, an, aZ, ba, az⟩ := aH
 refine (Ze ?_)
 rcases ite_some hm with ⟨aa, hm⟩ | ⟨aa, hm⟩
 ·refine W_cond_t az aa (Zc (Zd (Za rfl rfl (Zo (v := Value.bool (false)) rfl rfl (Zb (Ze (W_ret (at_ret ?_))))))))
  have b3 := Zu hm
  subst r
  refine ⟨_, ret1 rfl, ?_⟩
  exact ⟨aj, g, ((an).drop).drop, rfl⟩
 refine W_cond_f az aa ?_
 replace aa := Zk aa
 refine W_skip (Ze (Zc (Zc (Zd (Za rfl rfl (Zp F69_1 rfl ba rfl (Za rfl rfl (Zn ((an).f1) A24 rfl rfl rfl (Za rfl rfl (Zr S24 rfl rfl (ah.mono g) (Za rfl rfl (Zm (v := Vi (0)) rfl rfl (Zb (Ze ?_))))))))))))))
 obtain ⟨au, aE, aT, aR, aP⟩ := ctl_some hm
 refine W_mid (M := fun f' w' => ∃ s', (au = .next s' ∨ au = .brk s') ∧ (fun (_ : Unit) => ∃ (a5 : PHeap) , PHeap.le aj a5 ∧ St w0 a5 (Res.box d 28 [o, p, q, t, u] :: H) w' ∧ f' 2 = Value.pointer (some ⟨d, 0, none⟩) ∧ f' 24 = x ∧ f' 25 = Vi ((n.Values.length : Int))) s') ?_ ?_
 ·refine W_block (W_forC (fun k' s' f' w' => (fun (_ : Unit) => ∃ (a6 : PHeap) , PHeap.le aj a6 ∧ St w0 a6 (Res.box d 28 [o, p, q, t, u] :: H) w' ∧ f' 2 = Value.pointer (some ⟨d, 0, none⟩) ∧ f' 24 = x ∧ f' 25 = Vi ((n.Values.length : Int)) ∧ f' 26 = Vi (k' : Int)) s') aE ?_ ?_ ?_)
  ·have aM := ((an).f1).drop
   exact ⟨aj, (Zv _), aM, aZ, rfl, rfl, rfl⟩
  ·intro z bL av bB bT aQ aF c aU
   obtain ⟨aq, ac, j, ai, ao, ap, ad⟩ := aF
   refine Zc (Zd (Za rfl rfl (Zq rfl ad ap (Zb (Ze (Zc (W_true (Zx (decide_eq_true (by omega))) (W_skip (Ze (Zc (W_block (Zc (Zd (Za rfl rfl (Zm (v := Vi ((z : Int))) rfl ad ?_)))))))))))))))
   obtain ⟨ae, bi, c⟩ := Zg c
   refine Za rfl rfl (Exec.index_rep S24 rfl ao ad (ah.mono (Zt g ac)) bi ?_)
   intro bx bF aB
   refine Za rfl rfl (Zw (E := (encInt .i64)) j A3 rfl rfl rfl aB ?_)
   intro bO bj
   obtain rfl := encInt_val.1 bj
   refine Za rfl rfl (Zo (v := Vi ((z : Int))) rfl rfl (Za rfl rfl (Zo (v := Vi (ae)) rfl rfl (Zb (Ze (Zc ?_))))))
   obtain ⟨ag, m, c⟩ := Zg c
   refine W_mid (M := fun f' w' => (fun (ag : Bool) => ∃ (a7 : PHeap) , PHeap.le aq a7 ∧ St w0 a7 (Res.box d 28 [o, p, q, t, u] :: H) w' ∧ f' 2 = Value.pointer (some ⟨d, 0, none⟩) ∧ f' 24 = x ∧ f' 25 = Vi ((n.Values.length : Int)) ∧ f' 26 = Vi ((z : Int)) ∧ f' 48 = Value.bool (ag)) ag) ?_ ?_
   ·refine Zd (Za rfl rfl (Zm (v := Vi (ae)) rfl rfl (Za rfl rfl (Zp F28_1 rfl ai rfl (Za rfl rfl (Zn (j) A23 rfl rfl rfl (Za rfl rfl (Zm (v := Vi ((z : Int))) rfl rfl ?_))))))))
    obtain ⟨al, a2, m⟩ := Zg m
    refine Za rfl rfl (Exec.index_rep S23 rfl rfl rfl (am.mono (Zt g ac)) a2 ?_)
    intro bz bG aC
    refine Za rfl rfl (Zp F93_1 rfl rfl rfl (Za rfl rfl (Zw (E := (encInt .i64)) j A3 rfl rfl rfl (aC.sub (Sub.iso (Sub.snd (Sub.fst (Sub.refl _)) rfl)) rfl) ?_)))
    intro bp bk
    obtain rfl : bp = Vi (al.Lo) := encInt_val.1 bk
    refine Za rfl rfl (Zq rfl rfl rfl (Za rfl rfl (Zm (v := Value.bool (decide (ae < al.Lo))) rfl rfl ?_)))
    rcases ite_some m with ⟨a, m⟩ | ⟨a, m⟩
    ·refine WL_passes 9 (by rw [a]; rfl) ?_
     refine Zb (Ze ?_)
     have b4 := Zu m
     subst ag
     exact ⟨aq, (Zv _), j, ai, ao, ap, ad, rfl⟩
    replace a := Zk a
    refine WL_run rfl (Zf rfl (Zx a)) rfl (Zm (v := Vi (ae)) rfl rfl (WL_run rfl (Zf rfl (Zx a)) rfl (Zp F28_1 rfl ai rfl (WL_run rfl (Zf rfl (Zx a)) rfl (Zn (j) A23 rfl rfl rfl (WL_run rfl (Zf rfl (Zx a)) rfl (Zm (v := Vi ((z : Int))) rfl rfl (WL_run rfl (Zf rfl (Zx a)) rfl (Exec.index_rep S23 rfl rfl rfl (am.mono (Zt g ac)) a2 ?_)))))))))
    intro b0 bH aD
    refine WL_run rfl (Zf rfl (Zx a)) rfl (Zp F93_2 rfl rfl rfl (WL_run rfl (Zf rfl (Zx a)) rfl (Zw (E := (encInt .i64)) j A3 rfl rfl rfl (aD.sub (Sub.iso (Sub.snd (Sub.snd (Sub.fst (Sub.refl _)) rfl) rfl)) rfl) ?_)))
    intro bq bl
    obtain rfl : bq = Vi (al.Hi) := encInt_val.1 bl
    refine WL_run rfl (Zf rfl (Zx a)) rfl (Exec.gtr rfl rfl rfl (Za rfl rfl (Exec.pick_f (v := Value.bool (decide (al.Hi < ae))) rfl (Zx a) rfl (Zb (Ze ?_)))))
    have b5 := Zu m
    subst ag
    exact ⟨aq, (Zv _), j, ai, ao, ap, ad, rfl⟩
   intro bC bU aI
   obtain ⟨a8, ay, aw, bb, bc, bd, be, a0⟩ := aI
   refine (Ze ?_)
   rcases ite_some c with ⟨ab, c⟩ | ⟨ab, c⟩
   ·refine W_cond_t a0 ab (Zc (Zd (Za rfl rfl (Zo (v := Value.bool (false)) rfl rfl (Zb (Ze (W_ret (ib_ret (at_ret (at_ret (ib_ret (at_ret (at_ret ?_)))))))))))))
    have b6 := Zu c
    subst av
    have aS := aT _ (aU (by intro _ h; cases h))
    have b7 := Zu aS
    subst r
    refine ⟨_, ret1 rfl, ?_⟩
    exact ⟨a8, (Zt (Zt g ac) ay), (aw).drop, rfl⟩
   refine W_cond_f a0 ab ?_
   replace ab := Zk ab
   refine W_skip (ib_normal (Ze (Zd (Za rfl rfl (Exec.add rfl be rfl (Za rfl rfl (Zm (v := Vi (IntKind.i64.wrap ((z : Int) + 1))) rfl rfl (Zb (Ze ?_)))))))))
   have b8 := Zu c
   subst av
   refine ⟨_, rfl, ?_⟩; exact ⟨a8, (Zt ac ay), aw, bb, bc, bd, (Eq.trans rfl (wrap_up aQ (SliceRep.le (ah.mono g))))⟩
  intro bM bD bV aG aV
  obtain ⟨bn, aX, aN, bf, bg, a1, br⟩ := aG
  refine Zc (Zd (Za rfl rfl (Zq rfl br a1 (Zb (Ze (Zc (W_false (Zx (decide_eq_false (by omega))) (W_exit (at_exit (at_exit (ib_here (Ze ?_))))))))))))
  refine ⟨_, .inl aV, ?_⟩; exact ⟨bn, aX, aN, bf, bg, a1⟩
 rintro bE bW ⟨bN, ax, aJ⟩
 have hm := ax.elim (aR _) (aP _)
 clear ax
 obtain ⟨bo, aY, aO, bI, bJ, bK⟩ := aJ
 refine (Ze (Zc (Zd (Za rfl rfl (Zo (v := Value.bool (true)) rfl rfl (Zb (Ze (W_ret ?_))))))))
 have b9 := Zu hm
 subst r
 refine ⟨_, ret1 rfl, ?_⟩
 exact ⟨bo, (Zt g aY), (aO).drop, rfl⟩
theorem Z143 : tyZero Try.prog 143 = some (Value.nilFunc) := by kernel_rfl
theorem A143 : tyAgg Try.prog 143 = some (false, 1) := by kernel_rfl
theorem cmp_isNaN_int__sim {w0 w : World} {s : PHeap} {H : List Res} {a : Int}  {r : Bool} (hm : cmp_isNaN_int__p a = some r) (hS : St w0 s (H) w)  :
  Calls Try.prog 122 #[Vi (a)] w fun e w' => ∃ v, e = .returned v ∧ ((fun (c : Bool) => ∃ (b : PHeap) , PHeap.le s b ∧ St w0 b (H) w' ∧ v = Value.bool (c)) r) := by
 unfold cmp_isNaN_int__p at hm
 refine calls_of_W Try.func122 rfl rfl (Zc (Zd (Za rfl rfl (Zo (v := Value.bool (false)) rfl rfl (Zb (Ze (Zc (Zd (Za rfl rfl (Zm (v := Vi (a)) rfl rfl (Za rfl rfl (Zm (v := Vi (a)) rfl rfl (Za rfl rfl (Exec.neq rfl rfl rfl (Za rfl rfl (Zo (v := Value.bool (!decide (a = a))) rfl rfl (Zb (Ze (W_ret ?_)))))))))))))))))))
 have d := Zu hm
 subst r
 refine ⟨_, ret1 rfl, ?_⟩
 exact ⟨s, (Zv _), hS, rfl⟩
theorem cmp_Less_int__sim {w0 w : World} {s : PHeap} {H : List Res} {a : Int} {c : Int}  {r : Bool} (hm : cmp_Less_int__p a c = some r) (hS : St w0 s (H) w)  :
  Calls Try.prog 103 #[Vi (a), Vi (c)] w fun e w' => ∃ v, e = .returned v ∧ ((fun (x : Bool) => ∃ (k : PHeap) , PHeap.le s k ∧ St w0 k (H) w' ∧ v = Value.bool (x)) r) := by
 unfold cmp_Less_int__p at hm
 refine calls_of_W Try.func103 rfl rfl (Zc (Zd (Za rfl rfl (Zo (v := Value.bool (false)) rfl rfl (Zb (Ze (Zc (W_mid (M := fun f' w' => ∃ (l : PHeap) , PHeap.le s l ∧ St w0 l (H) w' ∧ f' 4 = Value.bool ((bif (cmp_isNaN_int__t a) then ((!(cmp_isNaN_int__t c)) || decide (a < c)) else decide (a < c)))) ?_ ?_))))))))
 ·refine Zd (Za rfl rfl (Zm (v := Vi (a)) rfl rfl (Za rfl rfl (Tc rfl rfl rfl (Zi rfl args_nil) (cmp_isNaN_int__sim (cmp_isNaN_int__tot a) hS ).r ?_))))
  rintro _ aa ⟨t, g, h, rfl⟩
  refine Za rfl rfl (Zm (v := Value.bool ((cmp_isNaN_int__t a))) rfl rfl ?_)
  by_cases b : (cmp_isNaN_int__t a) = true
  ·refine WL_run rfl (Zf rfl (Zx b)) rfl (Zm (v := Vi (c)) rfl rfl (WL_run rfl (Zf rfl (Zx b)) rfl (Tc rfl rfl rfl (Zi rfl args_nil) (cmp_isNaN_int__sim (cmp_isNaN_int__tot c) h ).r ?_)))
   rintro _ ab ⟨m, j, i, rfl⟩
   refine WL_run rfl (Zf rfl (Zx b)) rfl (Exec.not rfl rfl ?_)
   refine WL_passes 2 (by rw [b]; rfl) ?_
   by_cases d : (!(cmp_isNaN_int__t c)) = true
   ·refine WL_passes 5 (by rw [d]; rfl) ?_
    refine Zb (Ze ?_)
    exact ⟨m, (Zt g j), i, (Zx (Eq.trans (cnd_t b) (or_t d))).symm⟩
   replace d := Zk d
   refine WL_run rfl (Zf rfl (Zx d)) rfl (Zm (v := Vi (a)) rfl rfl (WL_run rfl (Zf rfl (Zx d)) rfl (Zm (v := Vi (c)) rfl rfl (WL_run rfl (Zf rfl (Zx d)) rfl (Zq rfl rfl rfl ?_)))))
   refine WL_passes 2 (by rw [d]; rfl) ?_
   refine Zb (Ze ?_)
   exact ⟨m, (Zt g j), i, (Zx (Eq.trans (cnd_t b) (or_f d))).symm⟩
  replace b := Zk b
  refine WL_passes 5 (by rw [b]; rfl) ?_
  refine WL_run rfl (Zf rfl rfl) rfl (Zm (v := Vi (a)) rfl rfl (WL_run rfl (Zf rfl rfl) rfl (Zm (v := Vi (c)) rfl rfl (WL_run rfl (Zf rfl rfl) rfl (Zq rfl rfl rfl (WL_passes 2 rfl (Zb (Ze ?_))))))))
  exact ⟨t, g, h, (Zx (cnd_f b)).symm⟩
 intro z ac n
 obtain ⟨u, p, o, q⟩ := n
 refine (Ze (W_ret ?_))
 have y := Zu hm
 subst r
 refine ⟨_, ret1 rfl, ?_⟩
 exact ⟨u, p, o, q⟩
theorem slices_isNaN_int__sim {w0 w : World} {s : PHeap} {H : List Res} {a : Int}  {r : Bool} (hm : slices_isNaN_int__p a = some r) (hS : St w0 s (H) w)  :
  Calls Try.prog 104 #[Vi (a)] w fun e w' => ∃ v, e = .returned v ∧ ((fun (c : Bool) => ∃ (b : PHeap) , PHeap.le s b ∧ St w0 b (H) w' ∧ v = Value.bool (c)) r) := by
 unfold slices_isNaN_int__p at hm
 refine calls_of_W Try.func104 rfl rfl (Zc (Zd (Za rfl rfl (Zo (v := Value.bool (false)) rfl rfl (Zb (Ze (Zc (Zd (Za rfl rfl (Zm (v := Vi (a)) rfl rfl (Za rfl rfl (Zm (v := Vi (a)) rfl rfl (Za rfl rfl (Exec.neq rfl rfl rfl (Za rfl rfl (Zo (v := Value.bool (!decide (a = a))) rfl rfl (Zb (Ze (W_ret ?_)))))))))))))))))))
 have d := Zu hm
 subst r
 refine ⟨_, ret1 rfl, ?_⟩
 exact ⟨s, (Zv _), hS, rfl⟩
theorem slices_BinarySearch___int_int__sim {w0 w : World} {s : PHeap} {H : List Res} {l : (List Int)} {c : Int} {m : Value} {r : Int × Bool} (hm : slices_BinarySearch___int_int__p l c = some r) (hS : St w0 s (H) w) (y : SliceRep (encInt .i64) s m l) :
  Calls Try.prog 76 #[m, Vi (c)] w fun e w' => ∃ v, e = .returned v ∧ ((un2 fun (bh : Int) (bi : Bool) => ∃ (a0 : PHeap) , PHeap.le s a0 ∧ St w0 a0 (H) w' ∧ v = Value.tuple #[Vi (bh), Value.bool (bi)]) r) := by
 unfold slices_BinarySearch___int_int__p at hm
 refine calls_of_W Try.func76 rfl rfl (Zc (Zd (Za rfl rfl (Zo (v := Vi (0)) rfl rfl (Za rfl rfl (Zo (v := Value.bool (false)) rfl rfl (Zb (Ze (Zc (Zd (Za rfl rfl (Zm (v := m) rfl rfl (Za rfl rfl (Zr S24 rfl rfl y (Za rfl rfl (Zo (v := Vi ((l.length : Int))) rfl rfl (Zb (Ze (Zc (Zd (Za rfl rfl (Zm (v := Vi ((l.length : Int))) rfl rfl (Za rfl rfl (Zo (v := Vi (0)) rfl rfl (Za rfl rfl (Zo (v := Vi ((l.length : Int))) rfl rfl (Zb (Ze (Zc ?_)))))))))))))))))))))))))))))
 obtain ⟨am, a8, b0, aH, aG⟩ := ctl_some hm
 refine W_mid (M := fun f' w' => ∃ s', (am = .next s' ∨ am = .brk s') ∧ (un2 fun (i : Int) (au : Int) => ∃ (a1 : PHeap) , PHeap.le s a1 ∧ St w0 a1 (H) w' ∧ f' 0 = m ∧ f' 1 = Vi (c) ∧ f' 6 = Vi ((l.length : Int)) ∧ f' 7 = Vi (i) ∧ f' 8 = Vi (au)) s') ?_ ?_
 ·refine W_block (W_while (fun s' f' w' => (un2 fun (j : Int) (k : Int) => ∃ (a2 : PHeap) , PHeap.le s a2 ∧ St w0 a2 (H) w' ∧ f' 0 = m ∧ f' 1 = Vi (c) ∧ f' 6 = Vi ((l.length : Int)) ∧ f' 7 = Vi (j) ∧ f' 8 = Vi (k)) s') a8 ?_ ?_)
  ·exact ⟨s, (Zv _), hS, rfl, rfl, rfl, rfl, rfl⟩
  intro be an bv b8 a9 g aI
  obtain ⟨j, k⟩ := be
  replace g := un2_eq g
  obtain ⟨aZ, ag, af, z, aa, ai, ab, ac⟩ := a9
  refine Zc (Zc (Zd (Za rfl rfl (Zm (v := Vi (j)) rfl ab (Za rfl rfl (Zm (v := Vi (k)) rfl ac (Za rfl rfl (Zq rfl rfl rfl (Zb (Ze ?_))))))))))
  rcases ite_some g with ⟨t, g⟩ | ⟨t, g⟩
  ·refine W_cond_t rfl t (W_skip (Ze (W_block (Zc (Zd (Za rfl rfl (Zm (v := Vi (j)) rfl ab (Za rfl rfl (Zm (v := Vi (k)) rfl ac (Za rfl rfl (Exec.add rfl rfl rfl ?_)))))))))))
   refine Za rfl rfl (Exec.convert_int (by rw [Try.underlying3]; rfl) Try.underlying148 rfl rfl ?_)
   refine Za rfl rfl (Exec.shr_const (n := 1) rfl (by decide) rfl rfl rfl ?_)
   refine Za rfl rfl (Exec.convert_int (by rw [Try.underlying148]; rfl) Try.underlying3 rfl rfl ?_)
   refine Za rfl rfl (Zo (v := Vi (IntKind.i64.wrap ((IntKind.u64.wrap (IntKind.i64.wrap (j + k))).fdiv (2 ^ 1)))) rfl rfl (Zb (Ze (Zc (Zd (Za rfl rfl (Zm (v := m) rfl z (Za rfl rfl (Zm (v := Vi (IntKind.i64.wrap ((IntKind.u64.wrap (IntKind.i64.wrap (j + k))).fdiv (2 ^ 1)))) rfl rfl ?_)))))))))
   obtain ⟨bg, aV, g⟩ := Zg g
   refine Za rfl rfl (Exec.index_rep S24 rfl rfl rfl (y.mono ag) aV ?_)
   intro bj b1 a5
   refine Za rfl rfl (Zw (E := (encInt .i64)) af A3 rfl rfl rfl a5 ?_)
   intro b5 aW
   obtain rfl := encInt_val.1 aW
   refine Za rfl rfl (Zm (v := Vi (c)) rfl aa (Za rfl rfl (Tc rfl rfl rfl (Zi rfl (Zi rfl args_nil)) (cmp_Less_int__sim (cmp_Less_int__tot bg c) af ).r ?_)))
   rintro _ b9 ⟨aj, aJ, ao, rfl⟩
   refine Zb (Ze ?_)
   obtain ⟨ae, x, g⟩ := Zg g
   refine W_mid (M := fun f' w' => (un2 fun (ar : Int) (av : Int) => ∃ (a3 : PHeap) , PHeap.le aj a3 ∧ St w0 a3 (H) w' ∧ f' 0 = m ∧ f' 1 = Vi (c) ∧ f' 6 = Vi ((l.length : Int)) ∧ f' 7 = Vi (ar) ∧ f' 8 = Vi (av)) ae) ?_ ?_
   ·rcases ite_some x with ⟨u, x⟩ | ⟨u, x⟩
    ·refine W_cond_t rfl u (Zd (Za rfl rfl (Zm (v := Vi (IntKind.i64.wrap ((IntKind.u64.wrap (IntKind.i64.wrap (j + k))).fdiv (2 ^ 1)))) rfl rfl (Za rfl rfl (Exec.add rfl rfl rfl (Za rfl rfl (Zo (v := Vi (IntKind.i64.wrap ((IntKind.i64.wrap ((IntKind.u64.wrap (IntKind.i64.wrap (j + k))).fdiv (2 ^ 1))) + 1))) rfl rfl (Zb (Ze ?_)))))))))
     have bm := Zu x
     subst ae
     exact ⟨aj, (Zv _), ao, z, aa, ai, rfl, ac⟩
    refine W_cond_f rfl u ?_
    replace u := Zk u
    refine Zd (Za rfl rfl (Zm (v := Vi (IntKind.i64.wrap ((IntKind.u64.wrap (IntKind.i64.wrap (j + k))).fdiv (2 ^ 1)))) rfl rfl (Za rfl rfl (Zo (v := Vi (IntKind.i64.wrap ((IntKind.u64.wrap (IntKind.i64.wrap (j + k))).fdiv (2 ^ 1)))) rfl rfl (Zb (Ze ?_))))))
    have bn := Zu x
    subst ae
    exact ⟨aj, (Zv _), ao, z, aa, ai, ab, rfl⟩
   intro bw bA aA
   obtain ⟨ar, av⟩ := ae
   replace g := un2_eq g
   obtain ⟨ba, aK, aD, aN, aO, aP, aQ, aR⟩ := aA
   refine (ib_normal (Ze ?_))
   have bo := Zu g
   subst an
   refine ⟨_, rfl, ?_⟩; exact ⟨ba, (Zt (Zt ag aJ) aK), aD, aN, aO, aP, aQ, aR⟩
  refine W_cond_f rfl t ?_
  replace t := Zk t
  refine W_exit (at_exit (at_exit (ib_here (Ze ?_))))
  have bp := Zu g
  subst an
  refine ⟨_, .inr (aI (by intro _ h; cases h)), ?_⟩; exact ⟨aZ, ag, af, z, aa, ai, ab, ac⟩
 rintro bx bB ⟨bf, aq, aB⟩
 have hm := aq.elim (aH _) (aG _)
 clear aq
 obtain ⟨i, au⟩ := bf
 replace hm := un2_eq hm
 obtain ⟨ak, ah, q, ax, ay, aS, ad, b4⟩ := aB
 refine (Ze (Zc ?_))
 obtain ⟨p, b, hm⟩ := Zg hm
 refine W_mid (M := fun f' w' => (fun (p : Bool) => ∃ (a4 : PHeap) , PHeap.le ak a4 ∧ St w0 a4 (H) w' ∧ f' 4 = Vi (i) ∧ f' 5 = Value.bool (p)) p) ?_ ?_
 ·refine Zd (Za rfl rfl (Zm (v := Vi (i)) rfl ad (Za rfl rfl (Zm (v := Vi (i)) rfl ad (Za rfl rfl (Zm (v := Vi ((l.length : Int))) rfl aS (Za rfl rfl (Zq rfl rfl rfl (Za rfl rfl (Zm (v := Value.bool (decide (i < (l.length : Int)))) rfl rfl ?_))))))))))
  rcases ite_some b with ⟨a, b⟩ | ⟨a, b⟩
  ·refine WL_run rfl (Zf rfl (Zx a)) rfl (Zm (v := m) rfl ax (WL_run rfl (Zf rfl (Zx a)) rfl (Zm (v := Vi (i)) rfl ad ?_)))
   obtain ⟨al, az, b⟩ := Zg b
   refine WL_run rfl (Zf rfl (Zx a)) rfl (Exec.index_rep S24 rfl rfl rfl (y.mono ah) az ?_)
   intro bk b2 a6
   refine WL_run rfl (Zf rfl (Zx a)) rfl (Zw (E := (encInt .i64)) q A3 rfl rfl rfl a6 ?_)
   intro b6 aX
   obtain rfl := encInt_val.1 aX
   refine WL_run rfl (Zf rfl (Zx a)) rfl (Zm (v := Vi (c)) rfl ay (WL_run rfl (Zf rfl (Zx a)) rfl (Exec.eql rfl rfl rfl (WL_run rfl (Zf rfl (Zx a)) rfl (Zm (v := Value.bool (decide (al = c))) rfl rfl ?_)))))
   rcases ite_some b with ⟨d, b⟩ | ⟨d, b⟩
   ·refine WL_passes 9 (by rw [d]; rfl) ?_
    refine WL_run rfl (Zf rfl (Zx a)) rfl (Zs (v := Value.bool (true)) rfl rfl rfl (Za rfl rfl (Zs (v := Value.bool (true)) rfl (Zx a) rfl (Za rfl rfl (Zo (v := Vi (i)) rfl rfl (Za rfl rfl (Zo (v := Value.bool (true)) rfl rfl (Zb (Ze ?_)))))))))
    have bq := Zu b
    subst p
    exact ⟨ak, (Zv _), q, rfl, rfl⟩
   replace d := Zk d
   refine WL_run rfl (Zf rfl (Zx d)) rfl (Zm (v := m) rfl ax (WL_run rfl (Zf rfl (Zx d)) rfl (Zm (v := Vi (i)) rfl ad (WL_run rfl (Zf rfl (Zx d)) rfl (Exec.index_rep S24 rfl rfl rfl (y.mono ah) az ?_)))))
   intro bl b3 a7
   refine WL_run rfl (Zf rfl (Zx d)) rfl (Zw (E := (encInt .i64)) q A3 rfl rfl rfl a7 ?_)
   intro b7 aY
   obtain rfl := encInt_val.1 aY
   refine WL_run rfl (Zf rfl (Zx d)) rfl (Tc rfl rfl rfl (Zi rfl args_nil) (slices_isNaN_int__sim (slices_isNaN_int__tot al) q ).r ?_)
   rintro _ bC ⟨bb, aw, ap, rfl⟩
   refine WL_run rfl (Zf rfl (Zx d)) rfl (Zm (v := Value.bool ((slices_isNaN_int__t al))) rfl rfl ?_)
   rcases ite_some b with ⟨o, b⟩ | ⟨o, b⟩
   ·refine WL_run rfl (Zf rfl (Zx o)) rfl (Zm (v := Vi (c)) rfl ay (WL_run rfl (Zf rfl (Zx o)) rfl (Tc rfl rfl rfl (Zi rfl args_nil) (slices_isNaN_int__sim (slices_isNaN_int__tot c) ap ).r ?_)))
    rintro _ bD ⟨bc, aL, aE, rfl⟩
    refine WL_run rfl (Zf rfl (Zx d)) rfl (Zs (v := Value.bool ((slices_isNaN_int__t c))) rfl (Zx o) rfl (WL_run rfl (Zf rfl (Zx a)) rfl (Exec.pick_f (v := Value.bool ((slices_isNaN_int__t c))) rfl (Zx d) rfl (Za rfl rfl (Zs (v := Value.bool ((slices_isNaN_int__t c))) rfl (Zx a) rfl (Za rfl rfl (Zo (v := Vi (i)) rfl rfl (Za rfl rfl (Zo (v := Value.bool ((slices_isNaN_int__t c))) rfl rfl (Zb (Ze ?_)))))))))))
    have br := Zu b
    subst p
    exact ⟨bc, (Zt aw aL), aE, rfl, rfl⟩
   replace o := Zk o
   refine WL_passes 2 (by rw [o]; rfl) ?_
   refine WL_run rfl (Zf rfl (Zx d)) rfl (Exec.pick_f (v := Value.bool (false)) rfl rfl rfl (WL_run rfl (Zf rfl (Zx a)) rfl (Exec.pick_f (v := Value.bool (false)) rfl (Zx d) rfl (Za rfl rfl (Zs (v := Value.bool (false)) rfl (Zx a) rfl (Za rfl rfl (Zo (v := Vi (i)) rfl rfl (Za rfl rfl (Zo (v := Value.bool (false)) rfl rfl (Zb (Ze ?_)))))))))))
   have bs := Zu b
   subst p
   exact ⟨bb, aw, ap, rfl, rfl⟩
  replace a := Zk a
  refine WL_passes 18 (by rw [a]; rfl) ?_
  refine Za rfl rfl (Zo (v := Vi (i)) rfl rfl (Za rfl rfl (Zo (v := Value.bool (false)) rfl rfl (Zb (Ze ?_)))))
  have bt := Zu b
  subst p
  exact ⟨ak, (Zv _), q, rfl, rfl⟩
 intro bz bE aC
 obtain ⟨bd, aM, aF, aT, aU⟩ := aC
 refine (Ze (W_ret ?_))
 have bu := Zu hm
 subst r
 refine ⟨_, ret2 rfl, ?_⟩
 exact ⟨bd, (Zt ah aM), aF, (tup2 aT aU)⟩
theorem N96 : (Try.f96.name == "runtime.NumGoroutine") = false := by kernel_rfl
theorem ground_holds_c1_sim {w0 w : World} {s : PHeap} {H : List Res} {b : Int} {a : GState} {f g : Nat} {r : Bool} (hm : ground_holds_c1_p b a = some r) (hS : St w0 s (H) w) (i : At s f g encGState a) :
  Calls Try.prog 96 #[Vi (b), Value.pointer (some ⟨f, g, none⟩)] w fun e w' => ∃ v, e = .returned v ∧ ((fun (q : Bool) => ∃ (h : PHeap) , PHeap.le s h ∧ St w0 h (H) w' ∧ v = Value.bool (q)) r) := by
 unfold ground_holds_c1_p at hm
 refine calls_of_W Try.func96 rfl rfl (Zc (Zd (Za rfl rfl (Zo (v := Value.bool (false)) rfl rfl (Zb (Ze (Zc (Zd (Za rfl rfl (Zp F69_0 rfl rfl rfl (Za rfl rfl (Zw (E := (encSlice (encInt .i64))) hS A24 rfl rfl rfl (i.sub (Sub.iso (Sub.fst (Sub.refl _))) rfl) ?_))))))))))))
 intro u l
 have n : SliceRep _ _ _ (a.True) := encSlice_val.1 l
 refine Za rfl rfl (Zm (v := Vi (b)) rfl rfl ?_)
 obtain ⟨p, m, hm⟩ := Zg hm
 obtain ⟨c, d⟩ := p
 replace hm := un2_eq hm
 refine Za rfl rfl (Tc rfl rfl rfl (Zi rfl (Zi rfl args_nil)) (slices_BinarySearch___int_int__sim m hS n).r ?_)
 rintro _ x ⟨o, k, j, rfl⟩
 refine Za rfl rfl (Zm (v := Value.tuple #[Vi (c), Value.bool (d)]) rfl rfl (Za rfl rfl (Exec.extract (v := Vi (c)) rfl rfl rfl (Za rfl rfl (Exec.extract (v := Value.bool (d)) rfl rfl rfl (Za rfl rfl (Zo (v := Vi (c)) rfl rfl (Za rfl rfl (Zo (v := Value.bool (d)) rfl rfl (Zb (Ze (Zc (Zd (WL_passes 2 rfl (Zb (Ze (W_ret ?_)))))))))))))))))
 have t := Zu hm
 subst r
 refine ⟨_, ret1 rfl, ?_⟩
 exact ⟨o, k, j, rfl⟩
theorem N98 : (Try.f98.name == "runtime.NumGoroutine") = false := by kernel_rfl
theorem ground_holds_c2_sim {w0 w : World} {s : PHeap} {H : List Res} {c : Int} {f : GState} {a : Nat} {b d : Nat} {r : Bool} (hm : ground_holds_c2_p c f = some r) (hS : St w0 s (Res.box a 143 [Value.func (.func 96) #[] #[Value.pointer (some ⟨b, d, none⟩)]] :: H) w) (h : At s b d encGState f) :
  Calls Try.prog 98 #[Vi (c), Value.pointer (some ⟨a, 0, none⟩)] w fun e w' => ∃ v, e = .returned v ∧ ((fun (m : Bool) => ∃ (g : PHeap) , PHeap.le s g ∧ St w0 g (Res.box a 143 [Value.func (.func 96) #[] #[Value.pointer (some ⟨b, d, none⟩)]] :: H) w' ∧ v = Value.bool (m)) r) := by
 unfold ground_holds_c2_p at hm
 refine calls_of_W Try.func98 rfl rfl (Zc (Zd (Za rfl rfl (Zo (v := Value.bool (false)) rfl rfl (Zb (Ze (Zc (Zd (Za rfl rfl (Zn (hS) A143 rfl rfl rfl (Za rfl rfl (Zm (v := Vi (c)) rfl rfl ?_))))))))))))
 obtain ⟨n, k, hm⟩ := Zg hm
 refine Za rfl rfl (Exec.callc rfl rfl Try.func96 rfl N96 (Zi rfl args_nil) rfl ((ground_holds_c1_sim k hS h).mono ?_))
 rintro _ p ⟨_, rfl, ⟨l, j, i, rfl⟩⟩
 refine ⟨_, rfl, ?_⟩
 refine Za rfl rfl (Exec.not rfl rfl (Za rfl rfl (Zo (v := Value.bool (!n)) rfl rfl (Zb (Ze (W_ret ?_))))))
 have o := Zu hm
 subst r
 refine ⟨_, ret1 rfl, ?_⟩
 exact ⟨l, j, i, rfl⟩
theorem slices_IndexFunc___int_int__f98_sim {w0 w : World} {s : PHeap} {H : List Res} {m : (List Int)} {p : GState} {d : Value} {b : Nat} {g j : Nat} {r : Int} (hm : slices_IndexFunc___int_int__f98_p m p = some r) (hS : St w0 s (Res.box b 143 [Value.func (.func 96) #[] #[Value.pointer (some ⟨g, j, none⟩)]] :: H) w) (n : SliceRep (encInt .i64) s d m) (ai : At s g j encGState p) :
  Calls Try.prog 119 #[d, Value.func (.func 98) #[] #[Value.pointer (some ⟨b, 0, none⟩)]] w fun e w' => ∃ v, e = .returned v ∧ ((fun (a9 : Int) => ∃ (ae : PHeap) , PHeap.le s ae ∧ St w0 ae (Res.box b 143 [Value.func (.func 96) #[] #[Value.pointer (some ⟨g, j, none⟩)]] :: H) w' ∧ v = Vi (a9)) r) := by
 unfold slices_IndexFunc___int_int__f98_p at hm
 refine calls_of_W Try.func119 rfl rfl (Zc (Zd (Za rfl rfl (Zo (v := Vi (0)) rfl rfl (Zb (Ze (Zc (Zc (Zd (Za rfl rfl (Zm (v := d) rfl rfl (Za rfl rfl (Zr S24 rfl rfl n (Za rfl rfl (Zm (v := Vi (0)) rfl rfl (Zb (Ze ?_)))))))))))))))))
 obtain ⟨q, ak, aw, au, aq⟩ := ctl_some hm
 refine W_mid (M := fun f' w' => ∃ s', (q = .next s' ∨ q = .brk s') ∧ (fun (_ : Unit) => ∃ (af : PHeap) , PHeap.le s af ∧ St w0 af (Res.box b 143 [Value.func (.func 96) #[] #[Value.pointer (some ⟨g, j, none⟩)]] :: H) w' ∧ f' 0 = d ∧ f' 1 = Value.func (.func 98) #[] #[Value.pointer (some ⟨b, 0, none⟩)] ∧ f' 7 = Vi ((m.length : Int))) s') ?_ ?_
 ·refine W_block (W_forC (fun k' s' f' w' => (fun (_ : Unit) => ∃ (ag : PHeap) , PHeap.le s ag ∧ St w0 ag (Res.box b 143 [Value.func (.func 96) #[] #[Value.pointer (some ⟨g, j, none⟩)]] :: H) w' ∧ f' 0 = d ∧ f' 1 = Value.func (.func 98) #[] #[Value.pointer (some ⟨b, 0, none⟩)] ∧ f' 7 = Vi ((m.length : Int)) ∧ f' 8 = Vi (k' : Int)) s') ak ?_ ?_ ?_)
  ·exact ⟨s, (Zv _), hS, rfl, rfl, rfl, rfl⟩
  ·intro c aN t aF aR ar al a ax
   obtain ⟨aM, l, u, aa, ab, ac, o⟩ := al
   refine Zc (Zd (Za rfl rfl (Zq rfl o ac (Zb (Ze (Zc (W_true (Zx (decide_eq_true (by omega))) (W_skip (Ze (Zc (W_block (Zc (Zd (Za rfl rfl (Zm (v := Vi ((c : Int))) rfl o (Za rfl rfl (Zo (v := Vi ((c : Int))) rfl rfl (Zb (Ze (Zc (Zd (Za rfl rfl (Zm (v := Value.func (.func 98) #[] #[Value.pointer (some ⟨b, 0, none⟩)]) rfl ab (Za rfl rfl (Zm (v := d) rfl aa (Za rfl rfl (Zm (v := Vi ((c : Int))) rfl rfl ?_)))))))))))))))))))))))))))
   obtain ⟨aV, a3, a⟩ := Zg a
   refine Za rfl rfl (Exec.index_rep S24 rfl rfl rfl (n.mono l) a3 ?_)
   intro aA aI aj
   refine Za rfl rfl (Zw (E := (encInt .i64)) u A3 rfl rfl rfl aj ?_)
   intro aQ a4
   obtain rfl := encInt_val.1 a4
   obtain ⟨aW, a5, a⟩ := Zg a
   refine Za rfl rfl (Exec.callc rfl rfl Try.func98 rfl N98 (Zi rfl args_nil) rfl ((ground_holds_c2_sim a5 u (ai.mono l)).mono ?_))
   rintro _ aS ⟨_, rfl, ⟨ah, z, x, rfl⟩⟩
   refine ⟨_, rfl, ?_⟩
   refine Zb (Ze ?_)
   rcases ite_some a with ⟨i, a⟩ | ⟨i, a⟩
   ·refine W_cond_t rfl i (Zc (Zd (Za rfl rfl (Zm (v := Vi ((c : Int))) rfl rfl (Za rfl rfl (Zo (v := Vi ((c : Int))) rfl rfl (Zb (Ze (W_ret (ib_ret (at_ret (at_ret (ib_ret (at_ret (at_ret ?_)))))))))))))))
    have aB := Zu a
    subst t
    have av := aw _ (ax (by intro _ h; cases h))
    have aC := Zu av
    subst r
    refine ⟨_, ret1 rfl, ?_⟩
    exact ⟨ah, (Zt l z), x, rfl⟩
   refine W_cond_f rfl i ?_
   replace i := Zk i
   refine W_skip (ib_normal (Ze (Zd (Za rfl rfl (Exec.add rfl o rfl (Za rfl rfl (Zm (v := Vi (IntKind.i64.wrap ((c : Int) + 1))) rfl rfl (Zb (Ze ?_)))))))))
   have aD := Zu a
   subst t
   refine ⟨_, rfl, ?_⟩; exact ⟨ah, (Zt l z), x, aa, ab, ac, (Eq.trans rfl (wrap_up ar (SliceRep.le n)))⟩
  intro aO aG aT am ay
  obtain ⟨a6, az, ao, a1, a2, ad, a8⟩ := am
  refine Zc (Zd (Za rfl rfl (Zq rfl a8 ad (Zb (Ze (Zc (W_false (Zx (decide_eq_false (by omega))) (W_exit (at_exit (at_exit (ib_here (Ze ?_))))))))))))
  refine ⟨_, .inl ay, ?_⟩; exact ⟨a6, az, ao, a1, a2, ad⟩
 rintro aH aU ⟨aP, y, an⟩
 have hm := y.elim (au _) (aq _)
 clear y
 obtain ⟨a7, a0, ap, aJ, aK, aL⟩ := an
 refine (Ze (Zc (Zd (Za rfl rfl (Zo (v := Vi ((-1))) rfl rfl (Zb (Ze (W_ret ?_))))))))
 have aE := Zu hm
 subst r
 refine ⟨_, ret1 rfl, ?_⟩
 exact ⟨a7, a0, ap, rfl⟩
theorem slices_ContainsFunc___int_int__f98_sim {w0 w : World} {s : PHeap} {H : List Res} {h : (List Int)} {f : GState} {d : Value} {a : Nat} {b c : Nat} {r : Bool} (hm : slices_ContainsFunc___int_int__f98_p h f = some r) (hS : St w0 s (Res.box a 143 [Value.func (.func 96) #[] #[Value.pointer (some ⟨b, c, none⟩)]] :: H) w) (i : SliceRep (encInt .i64) s d h) (j : At s b c encGState f) :
  Calls Try.prog 97 #[d, Value.func (.func 98) #[] #[Value.pointer (some ⟨a, 0, none⟩)]] w fun e w' => ∃ v, e = .returned v ∧ ((fun (o : Bool) => ∃ (g : PHeap) , PHeap.le s g ∧ St w0 g (Res.box a 143 [Value.func (.func 96) #[] #[Value.pointer (some ⟨b, c, none⟩)]] :: H) w' ∧ v = Value.bool (o)) r) := by
 unfold slices_ContainsFunc___int_int__f98_p at hm
 refine calls_of_W Try.func97 rfl rfl (Zc (Zd (Za rfl rfl (Zo (v := Value.bool (false)) rfl rfl (Zb (Ze (Zc (Zd (Za rfl rfl (Zm (v := d) rfl rfl (Za rfl rfl (Zm (v := Value.func (.func 98) #[] #[Value.pointer (some ⟨a, 0, none⟩)]) rfl rfl ?_))))))))))))
 obtain ⟨p, m, hm⟩ := Zg hm
 refine Za rfl rfl (Tc rfl rfl rfl (Zi rfl (Zi rfl args_nil)) (slices_IndexFunc___int_int__f98_sim m hS i j).r ?_)
 rintro _ t ⟨n, l, k, rfl⟩
 refine Za rfl rfl (Exec.geq rfl rfl rfl (Za rfl rfl (Zo (v := Value.bool (decide (0 ≤ p))) rfl rfl (Zb (Ze (W_ret ?_))))))
 have q := Zu hm
 subst r
 refine ⟨_, ret1 rfl, ?_⟩
 exact ⟨n, l, k, rfl⟩
theorem slices_IndexFunc___int_int__f96_sim {w0 w : World} {s : PHeap} {H : List Res} {l : (List Int)} {o : GState} {c : Value} {d i : Nat} {r : Int} (hm : slices_IndexFunc___int_int__f96_p l o = some r) (hS : St w0 s (H) w) (m : SliceRep (encInt .i64) s c l) (ah : At s d i encGState o) :
  Calls Try.prog 119 #[c, Value.func (.func 96) #[] #[Value.pointer (some ⟨d, i, none⟩)]] w fun e w' => ∃ v, e = .returned v ∧ ((fun (a8 : Int) => ∃ (ad : PHeap) , PHeap.le s ad ∧ St w0 ad (H) w' ∧ v = Vi (a8)) r) := by
 unfold slices_IndexFunc___int_int__f96_p at hm
 refine calls_of_W Try.func119 rfl rfl (Zc (Zd (Za rfl rfl (Zo (v := Vi (0)) rfl rfl (Zb (Ze (Zc (Zc (Zd (Za rfl rfl (Zm (v := c) rfl rfl (Za rfl rfl (Zr S24 rfl rfl m (Za rfl rfl (Zm (v := Vi (0)) rfl rfl (Zb (Ze ?_)))))))))))))))))
 obtain ⟨p, aj, av, ar, ap⟩ := ctl_some hm
 refine W_mid (M := fun f' w' => ∃ s', (p = .next s' ∨ p = .brk s') ∧ (fun (_ : Unit) => ∃ (ae : PHeap) , PHeap.le s ae ∧ St w0 ae (H) w' ∧ f' 0 = c ∧ f' 1 = Value.func (.func 96) #[] #[Value.pointer (some ⟨d, i, none⟩)] ∧ f' 7 = Vi ((l.length : Int))) s') ?_ ?_
 ·refine W_block (W_forC (fun k' s' f' w' => (fun (_ : Unit) => ∃ (af : PHeap) , PHeap.le s af ∧ St w0 af (H) w' ∧ f' 0 = c ∧ f' 1 = Value.func (.func 96) #[] #[Value.pointer (some ⟨d, i, none⟩)] ∧ f' 7 = Vi ((l.length : Int)) ∧ f' 8 = Vi (k' : Int)) s') aj ?_ ?_ ?_)
  ·exact ⟨s, (Zv _), hS, rfl, rfl, rfl, rfl⟩
  ·intro b aM q aE aQ aq ak a aw
   obtain ⟨aL, j, t, z, aa, ab, n⟩ := ak
   refine Zc (Zd (Za rfl rfl (Zq rfl n ab (Zb (Ze (Zc (W_true (Zx (decide_eq_true (by omega))) (W_skip (Ze (Zc (W_block (Zc (Zd (Za rfl rfl (Zm (v := Vi ((b : Int))) rfl n (Za rfl rfl (Zo (v := Vi ((b : Int))) rfl rfl (Zb (Ze (Zc (Zd (Za rfl rfl (Zm (v := Value.func (.func 96) #[] #[Value.pointer (some ⟨d, i, none⟩)]) rfl aa (Za rfl rfl (Zm (v := c) rfl z (Za rfl rfl (Zm (v := Vi ((b : Int))) rfl rfl ?_)))))))))))))))))))))))))))
   obtain ⟨aU, a2, a⟩ := Zg a
   refine Za rfl rfl (Exec.index_rep S24 rfl rfl rfl (m.mono j) a2 ?_)
   intro a9 aH ai
   refine Za rfl rfl (Zw (E := (encInt .i64)) t A3 rfl rfl rfl ai ?_)
   intro aP a3
   obtain rfl := encInt_val.1 a3
   obtain ⟨aV, a4, a⟩ := Zg a
   refine Za rfl rfl (Exec.callc rfl rfl Try.func96 rfl N96 (Zi rfl args_nil) rfl ((ground_holds_c1_sim a4 t (ah.mono j)).mono ?_))
   rintro _ aR ⟨_, rfl, ⟨ag, y, u, rfl⟩⟩
   refine ⟨_, rfl, ?_⟩
   refine Zb (Ze ?_)
   rcases ite_some a with ⟨g, a⟩ | ⟨g, a⟩
   ·refine W_cond_t rfl g (Zc (Zd (Za rfl rfl (Zm (v := Vi ((b : Int))) rfl rfl (Za rfl rfl (Zo (v := Vi ((b : Int))) rfl rfl (Zb (Ze (W_ret (ib_ret (at_ret (at_ret (ib_ret (at_ret (at_ret ?_)))))))))))))))
    have aA := Zu a
    subst q
    have au := av _ (aw (by intro _ h; cases h))
    have aB := Zu au
    subst r
    refine ⟨_, ret1 rfl, ?_⟩
    exact ⟨ag, (Zt j y), u, rfl⟩
   refine W_cond_f rfl g ?_
   replace g := Zk g
   refine W_skip (ib_normal (Ze (Zd (Za rfl rfl (Exec.add rfl n rfl (Za rfl rfl (Zm (v := Vi (IntKind.i64.wrap ((b : Int) + 1))) rfl rfl (Zb (Ze ?_)))))))))
   have aC := Zu a
   subst q
   refine ⟨_, rfl, ?_⟩; exact ⟨ag, (Zt j y), u, z, aa, ab, (Eq.trans rfl (wrap_up aq (SliceRep.le m)))⟩
  intro aN aF aS al ax
  obtain ⟨a5, ay, an, a0, a1, ac, a7⟩ := al
  refine Zc (Zd (Za rfl rfl (Zq rfl a7 ac (Zb (Ze (Zc (W_false (Zx (decide_eq_false (by omega))) (W_exit (at_exit (at_exit (ib_here (Ze ?_))))))))))))
  refine ⟨_, .inl ax, ?_⟩; exact ⟨a5, ay, an, a0, a1, ac⟩
 rintro aG aT ⟨aO, x, am⟩
 have hm := x.elim (ar _) (ap _)
 clear x
 obtain ⟨a6, az, ao, aI, aJ, aK⟩ := am
 refine (Ze (Zc (Zd (Za rfl rfl (Zo (v := Vi ((-1))) rfl rfl (Zb (Ze (W_ret ?_))))))))
 have aD := Zu hm
 subst r
 refine ⟨_, ret1 rfl, ?_⟩
 exact ⟨a6, az, ao, rfl⟩
theorem slices_ContainsFunc___int_int__f96_sim {w0 w : World} {s : PHeap} {H : List Res} {g : (List Int)} {d : GState} {c : Value} {a b : Nat} {r : Bool} (hm : slices_ContainsFunc___int_int__f96_p g d = some r) (hS : St w0 s (H) w) (h : SliceRep (encInt .i64) s c g) (i : At s a b encGState d) :
  Calls Try.prog 97 #[c, Value.func (.func 96) #[] #[Value.pointer (some ⟨a, b, none⟩)]] w fun e w' => ∃ v, e = .returned v ∧ ((fun (n : Bool) => ∃ (f : PHeap) , PHeap.le s f ∧ St w0 f (H) w' ∧ v = Value.bool (n)) r) := by
 unfold slices_ContainsFunc___int_int__f96_p at hm
 refine calls_of_W Try.func97 rfl rfl (Zc (Zd (Za rfl rfl (Zo (v := Value.bool (false)) rfl rfl (Zb (Ze (Zc (Zd (Za rfl rfl (Zm (v := c) rfl rfl (Za rfl rfl (Zm (v := Value.func (.func 96) #[] #[Value.pointer (some ⟨a, b, none⟩)]) rfl rfl ?_))))))))))))
 obtain ⟨o, l, hm⟩ := Zg hm
 refine Za rfl rfl (Tc rfl rfl rfl (Zi rfl (Zi rfl args_nil)) (slices_IndexFunc___int_int__f96_sim l hS h i).r ?_)
 rintro _ q ⟨m, k, j, rfl⟩
 refine Za rfl rfl (Exec.geq rfl rfl rfl (Za rfl rfl (Zo (v := Value.bool (decide (0 ≤ o))) rfl rfl (Zb (Ze (W_ret ?_))))))
 have p := Zu hm
 subst r
 refine ⟨_, ret1 rfl, ?_⟩
 exact ⟨m, k, j, rfl⟩
theorem ground_combine_sim {w0 w : World} {s : PHeap} {H : List Res} {p : ByteArray} {a : Int} {b : Int}  {r : Int × Bool} (hm : ground_combine_p p a b = some r) (hS : St w0 s (H) w)  :
  Calls Try.prog 121 #[Value.string (p), Vi (a), Vi (b)] w fun e w' => ∃ v, e = .returned v ∧ ((un2 fun (a5 : Int) (a6 : Bool) => ∃ (ac : PHeap) , PHeap.le s ac ∧ St w0 ac (H) w' ∧ v = Value.tuple #[Vi (a5), Value.bool (a6)]) r) := by
 unfold ground_combine_p at hm
 refine calls_of_W Try.func121 rfl rfl (Zc (Zd (Za rfl rfl (Zo (v := Vi (0)) rfl rfl (Za rfl rfl (Zo (v := Value.bool (false)) rfl rfl (Zb (Ze (Zc (Zd (Za rfl rfl (Zo (v := Vi (0)) rfl rfl (Zb (Ze (Zc (Zc (Zd (Za rfl rfl (Zm (v := Value.string (p)) rfl rfl (Zb (Ze (W_block (Zc (Zd (Za rfl rfl (Exec.str_eql rfl rfl rfl (Za rfl rfl (Zo (v := Value.bool (decide (p = (⟨#[43]⟩)))) rfl rfl (Zb (Ze ?_))))))))))))))))))))))))))))))
 rcases ite_some hm with ⟨j, hm⟩ | ⟨j, hm⟩
 ·refine W_cond_t rfl j (Zd (Za rfl rfl (Zm (v := Vi (a)) rfl rfl (Za rfl rfl (Zm (v := Vi (b)) rfl rfl (Za rfl rfl (Exec.add rfl rfl rfl (Za rfl rfl (Zo (v := Vi (IntKind.i64.wrap (a + b))) rfl rfl (Zb (ib_normal (Ze (Zc ?_)))))))))))))
  obtain ⟨q, m, hm⟩ := Zg hm
  refine W_mid (M := fun f' w' => (fun (q : Bool) => ∃ (ad : PHeap) , PHeap.le s ad ∧ St w0 ad (H) w' ∧ f' 6 = Vi (IntKind.i64.wrap (a + b)) ∧ f' 7 = Value.bool (q)) q) ?_ ?_
  ·refine Zd (Za rfl rfl (Zm (v := Vi (IntKind.i64.wrap (a + b))) rfl rfl (Za rfl rfl (Zm (v := Vi (IntKind.i64.wrap (a + b))) rfl rfl (Za rfl rfl (Exec.geq rfl rfl rfl (Za rfl rfl (Zm (v := Value.bool (decide ((-1099511627776) ≤ (IntKind.i64.wrap (a + b))))) rfl rfl ?_))))))))
   rcases ite_some m with ⟨d, m⟩ | ⟨d, m⟩
   ·refine WL_run rfl (Zf rfl (Zx d)) rfl (Zm (v := Vi (IntKind.i64.wrap (a + b))) rfl rfl (WL_run rfl (Zf rfl (Zx d)) rfl (Exec.leq rfl rfl rfl (Za rfl rfl (Zs (v := Value.bool (decide ((IntKind.i64.wrap (a + b)) ≤ 1099511627776))) rfl (Zx d) rfl (Za rfl rfl (Zo (v := Vi (IntKind.i64.wrap (a + b))) rfl rfl (Za rfl rfl (Zo (v := Value.bool (decide ((IntKind.i64.wrap (a + b)) ≤ 1099511627776))) rfl rfl (Zb (Ze ?_)))))))))))
    have a7 := Zu m
    subst q
    exact ⟨s, (Zv _), hS, rfl, rfl⟩
   replace d := Zk d
   refine WL_passes 3 (by rw [d]; rfl) ?_
   refine Za rfl rfl (Zo (v := Vi (IntKind.i64.wrap (a + b))) rfl rfl (Za rfl rfl (Zo (v := Value.bool (false)) rfl rfl (Zb (Ze ?_)))))
   have a8 := Zu m
   subst q
   exact ⟨s, (Zv _), hS, rfl, rfl⟩
  intro aJ aO ah
  obtain ⟨a2, ao, al, ar, au⟩ := ah
  refine (Ze (W_ret ?_))
  have a9 := Zu hm
  subst r
  refine ⟨_, ret2 rfl, ?_⟩
  exact ⟨a2, ao, al, (tup2 ar au)⟩
 refine W_cond_f rfl j ?_
 replace j := Zk j
 refine Zc (Zd (Za rfl rfl (Exec.str_eql rfl rfl rfl (Za rfl rfl (Zo (v := Value.bool (decide (p = (⟨#[45]⟩)))) rfl rfl (Zb (Ze ?_)))))))
 rcases ite_some hm with ⟨k, hm⟩ | ⟨k, hm⟩
 ·refine W_cond_t rfl k (Zd (Za rfl rfl (Zm (v := Vi (a)) rfl rfl (Za rfl rfl (Zm (v := Vi (b)) rfl rfl (Za rfl rfl (Exec.sub rfl rfl rfl (Za rfl rfl (Zo (v := Vi (IntKind.i64.wrap (a - b))) rfl rfl (Zb (ib_normal (Ze (Zc ?_)))))))))))))
  obtain ⟨t, n, hm⟩ := Zg hm
  refine W_mid (M := fun f' w' => (fun (t : Bool) => ∃ (ae : PHeap) , PHeap.le s ae ∧ St w0 ae (H) w' ∧ f' 6 = Vi (IntKind.i64.wrap (a - b)) ∧ f' 7 = Value.bool (t)) t) ?_ ?_
  ·refine Zd (Za rfl rfl (Zm (v := Vi (IntKind.i64.wrap (a - b))) rfl rfl (Za rfl rfl (Zm (v := Vi (IntKind.i64.wrap (a - b))) rfl rfl (Za rfl rfl (Exec.geq rfl rfl rfl (Za rfl rfl (Zm (v := Value.bool (decide ((-1099511627776) ≤ (IntKind.i64.wrap (a - b))))) rfl rfl ?_))))))))
   rcases ite_some n with ⟨g, n⟩ | ⟨g, n⟩
   ·refine WL_run rfl (Zf rfl (Zx g)) rfl (Zm (v := Vi (IntKind.i64.wrap (a - b))) rfl rfl (WL_run rfl (Zf rfl (Zx g)) rfl (Exec.leq rfl rfl rfl (Za rfl rfl (Zs (v := Value.bool (decide ((IntKind.i64.wrap (a - b)) ≤ 1099511627776))) rfl (Zx g) rfl (Za rfl rfl (Zo (v := Vi (IntKind.i64.wrap (a - b))) rfl rfl (Za rfl rfl (Zo (v := Value.bool (decide ((IntKind.i64.wrap (a - b)) ≤ 1099511627776))) rfl rfl (Zb (Ze ?_)))))))))))
    have aA := Zu n
    subst t
    exact ⟨s, (Zv _), hS, rfl, rfl⟩
   replace g := Zk g
   refine WL_passes 3 (by rw [g]; rfl) ?_
   refine Za rfl rfl (Zo (v := Vi (IntKind.i64.wrap (a - b))) rfl rfl (Za rfl rfl (Zo (v := Value.bool (false)) rfl rfl (Zb (Ze ?_)))))
   have aB := Zu n
   subst t
   exact ⟨s, (Zv _), hS, rfl, rfl⟩
  intro aK aP ai
  obtain ⟨a3, ap, am, av, aw⟩ := ai
  refine (Ze (W_ret ?_))
  have aC := Zu hm
  subst r
  refine ⟨_, ret2 rfl, ?_⟩
  exact ⟨a3, ap, am, (tup2 av aw)⟩
 refine W_cond_f rfl k ?_
 replace k := Zk k
 refine Zc (Zc ?_)
 obtain ⟨u, i, hm⟩ := Zg hm
 refine W_mid (M := fun f' w' => (fun (u : Bool) => ∃ (af : PHeap) , PHeap.le s af ∧ St w0 af (H) w' ∧ f' 1 = Vi (a) ∧ f' 2 = Vi (b) ∧ f' 23 = Value.bool (u)) u) ?_ ?_
 ·refine Zd (Za rfl rfl (Zm (v := Vi (a)) rfl rfl (Za rfl rfl (Exec.neq rfl rfl rfl (Za rfl rfl (Zm (v := Value.bool (!decide (a = 0))) rfl rfl ?_))))))
  rcases ite_some i with ⟨c, i⟩ | ⟨c, i⟩
  ·refine WL_run rfl (Zf rfl (Zx c)) rfl (Zm (v := Vi (b)) rfl rfl (WL_run rfl (Zf rfl (Zx c)) rfl (Zm (v := Vi (b)) rfl rfl (WL_run rfl (Zf rfl (Zx c)) rfl (Exec.neg rfl rfl (WL_run rfl (Zf rfl (Zx c)) rfl (Exec.max2 rfl rfl rfl (WL_run rfl (Zf rfl (Zx c)) rfl (Zm (v := Vi (a)) rfl rfl (WL_run rfl (Zf rfl (Zx c)) rfl (Zm (v := Vi (a)) rfl rfl (WL_run rfl (Zf rfl (Zx c)) rfl (Exec.neg rfl rfl (WL_run rfl (Zf rfl (Zx c)) rfl (Exec.max2 rfl rfl rfl ?_)))))))))))))))
   obtain ⟨aN, a1, i⟩ := Zg i
   refine WL_run rfl (Zf rfl (Zx c)) rfl (Exec.quo rfl rfl rfl (by simpa using must_some a1) (WL_run rfl (Zf rfl (Zx c)) rfl (Exec.gtr rfl rfl rfl (Za rfl rfl (Zs (v := Value.bool (decide ((IntKind.i64.wrap ((1099511627776 : Int).tdiv (max a (IntKind.i64.wrap (0 - a))))) < (max b (IntKind.i64.wrap (0 - b)))))) rfl (Zx c) rfl (Zb (Ze ?_)))))))
   have aD := Zu i
   subst u
   exact ⟨s, (Zv _), hS, rfl, rfl, rfl⟩
  replace c := Zk c
  refine WL_passes 11 (by rw [c]; rfl) ?_
  refine Zb (Ze ?_)
  have aE := Zu i
  subst u
  exact ⟨s, (Zv _), hS, rfl, rfl, rfl⟩
 intro aL aQ aj
 obtain ⟨y, aa, z, ax, ay, ab⟩ := aj
 refine (Ze ?_)
 rcases ite_some hm with ⟨l, hm⟩ | ⟨l, hm⟩
 ·refine W_cond_t ab l (Zc (Zd (Za rfl rfl (Zo (v := Vi (0)) rfl rfl (Za rfl rfl (Zo (v := Value.bool (false)) rfl rfl (Zb (Ze (W_ret (at_ret (ib_ret (at_ret ?_))))))))))))
  have aF := Zu hm
  subst r
  refine ⟨_, ret2 rfl, ?_⟩
  exact ⟨y, aa, z, (tup2 rfl rfl)⟩
 refine W_cond_f ab l ?_
 replace l := Zk l
 refine W_skip (Ze (Zd (Za rfl rfl (Zm (v := Vi (a)) rfl ax (Za rfl rfl (Zm (v := Vi (b)) rfl ay (Za rfl rfl (Exec.mul rfl rfl rfl (Za rfl rfl (Zo (v := Vi (IntKind.i64.wrap (a * b))) rfl rfl (Zb (ib_normal (Ze (Zc ?_))))))))))))))
 obtain ⟨x, o, hm⟩ := Zg hm
 refine W_mid (M := fun f' w' => (fun (x : Bool) => ∃ (ag : PHeap) , PHeap.le y ag ∧ St w0 ag (H) w' ∧ f' 6 = Vi (IntKind.i64.wrap (a * b)) ∧ f' 7 = Value.bool (x)) x) ?_ ?_
 ·refine Zd (Za rfl rfl (Zm (v := Vi (IntKind.i64.wrap (a * b))) rfl rfl (Za rfl rfl (Zm (v := Vi (IntKind.i64.wrap (a * b))) rfl rfl (Za rfl rfl (Exec.geq rfl rfl rfl (Za rfl rfl (Zm (v := Value.bool (decide ((-1099511627776) ≤ (IntKind.i64.wrap (a * b))))) rfl rfl ?_))))))))
  rcases ite_some o with ⟨h, o⟩ | ⟨h, o⟩
  ·refine WL_run rfl (Zf rfl (Zx h)) rfl (Zm (v := Vi (IntKind.i64.wrap (a * b))) rfl rfl (WL_run rfl (Zf rfl (Zx h)) rfl (Exec.leq rfl rfl rfl (Za rfl rfl (Zs (v := Value.bool (decide ((IntKind.i64.wrap (a * b)) ≤ 1099511627776))) rfl (Zx h) rfl (Za rfl rfl (Zo (v := Vi (IntKind.i64.wrap (a * b))) rfl rfl (Za rfl rfl (Zo (v := Value.bool (decide ((IntKind.i64.wrap (a * b)) ≤ 1099511627776))) rfl rfl (Zb (Ze ?_)))))))))))
   have aG := Zu o
   subst x
   exact ⟨y, (Zv _), z, rfl, rfl⟩
  replace h := Zk h
  refine WL_passes 3 (by rw [h]; rfl) ?_
  refine Za rfl rfl (Zo (v := Vi (IntKind.i64.wrap (a * b))) rfl rfl (Za rfl rfl (Zo (v := Value.bool (false)) rfl rfl (Zb (Ze ?_)))))
  have aH := Zu o
  subst x
  exact ⟨y, (Zv _), z, rfl, rfl⟩
 intro aM aR ak
 obtain ⟨a4, aq, an, az, a0⟩ := ak
 refine (Ze (W_ret ?_))
 have aI := Zu hm
 subst r
 refine ⟨_, ret2 rfl, ?_⟩
 exact ⟨a4, (Zt aa aq), an, (tup2 az a0)⟩
theorem ground_value_step {fu : Nat} (ih : ∀ {w0 w : World} {s : PHeap} {H : List Res} {f : GState} {a : GExpr} {c : Value} {d : Value} {h : Value} {r : Int × Bool} (hm : ground_value_p fu f a = some r) (hS : St w0 s (H) w) (x : SliceRep (encInt .i64) s c f.True) (o : SliceRep (encInt .i64) s d f.Values) (y : SliceRep encGExpr s h a.Kids), Calls Try.prog 102 #[Value.agg #[c, d], Value.agg #[Value.string (a.Op), Vi (a.N), h]] w fun e w' => ∃ v, e = .returned v ∧ ((un2 fun (aa : Int) (ab : Bool) => ∃ (n : PHeap) , PHeap.le s n ∧ St w0 n (H) w' ∧ v = Value.tuple #[Vi (aa), Value.bool (ab)]) r)) {w0 w : World} {s : PHeap} {H : List Res} {f : GState} {a : GExpr} {c : Value} {d : Value} {h : Value} {r : Int × Bool} (hm : ground_value_p (fu + 1) f a = some r) (hS : St w0 s (H) w) (x : SliceRep (encInt .i64) s c f.True) (o : SliceRep (encInt .i64) s d f.Values) (y : SliceRep encGExpr s h a.Kids) :
  Calls Try.prog 102 #[Value.agg #[c, d], Value.agg #[Value.string (a.Op), Vi (a.N), h]] w fun e w' => ∃ v, e = .returned v ∧ ((un2 fun (aa : Int) (ab : Bool) => ∃ (n : PHeap) , PHeap.le s n ∧ St w0 n (H) w' ∧ v = Value.tuple #[Vi (aa), Value.bool (ab)]) r) := by
 rw [ground_value_p] at hm
 refine calls_of_W Try.func102 rfl rfl (Zc (Zd (Za rfl rfl (Exec.box (cs := [c, d]) hS rfl rfl rfl ?_))))
 intro a5 aP ai
 refine Za rfl rfl (Exec.box (cs := [Value.string (a.Op), Vi (a.N), h]) ai rfl rfl rfl ?_)
 intro a6 aQ b
 refine Za rfl rfl (Zo (v := Vi (0)) rfl rfl (Za rfl rfl (Zo (v := Value.bool (false)) rfl rfl (Zb (Ze (Zc (Zc (Zd (Za rfl rfl (Zp F82_0 rfl rfl rfl (Za rfl rfl (Zn (b) A9 rfl rfl rfl (Zb (Ze (W_block (Zc (Zd (Za rfl rfl (Exec.str_eql rfl rfl rfl (Za rfl rfl (Zo (v := Value.bool (decide (a.Op = (⟨#[110, 117, 109, 98, 101, 114]⟩)))) rfl rfl (Zb (Ze ?_)))))))))))))))))))))))
 rcases ite_some hm with ⟨j, hm⟩ | ⟨j, hm⟩
 ·refine W_cond_t rfl j (Zc (Zd (Za rfl rfl (Zp F82_1 rfl rfl rfl (Za rfl rfl (Zn (b) A3 rfl rfl rfl (Za rfl rfl (Zo (v := Vi (a.N)) rfl rfl (Za rfl rfl (Zo (v := Value.bool (true)) rfl rfl (Zb (Ze (W_ret (ib_ret (at_ret ?_)))))))))))))))
  have aA := Zu hm
  subst r
  refine ⟨_, ret2 rfl, ?_⟩
  exact ⟨s, (Zv _), ((b).drop).drop, (tup2 rfl rfl)⟩
 refine W_cond_f rfl j ?_
 replace j := Zk j
 refine Zc (Zd (Za rfl rfl (Exec.str_eql rfl rfl rfl (Za rfl rfl (Zo (v := Value.bool (decide (a.Op = (⟨#[102, 108, 117, 101, 110, 116]⟩)))) rfl rfl (Zb (Ze ?_)))))))
 rcases ite_some hm with ⟨k, hm⟩ | ⟨k, hm⟩
 ·refine W_cond_t rfl k (Zc (Zd (Za rfl rfl (Zp F69_1 rfl rfl rfl (Za rfl rfl (Zn ((b).f1) A24 rfl rfl rfl (Za rfl rfl (Zp F82_1 rfl rfl rfl (Za rfl rfl (Zn (b) A3 rfl rfl rfl ?_))))))))))
  obtain ⟨a4, al, hm⟩ := Zg hm
  refine Za rfl rfl (Exec.index_rep S24 rfl rfl rfl o al ?_)
  intro a7 aH af
  refine Za rfl rfl (Zw (E := (encInt .i64)) b A3 rfl rfl rfl af ?_)
  intro aM am
  obtain rfl := encInt_val.1 am
  refine Za rfl rfl (Zo (v := Vi (a4)) rfl rfl (Za rfl rfl (Zo (v := Value.bool (true)) rfl rfl (Zb (Ze (W_ret (ib_ret (at_ret ?_))))))))
  have aB := Zu hm
  subst r
  refine ⟨_, ret2 rfl, ?_⟩
  exact ⟨s, (Zv _), ((b).drop).drop, (tup2 rfl rfl)⟩
 refine W_cond_f rfl k ?_
 replace k := Zk k
 refine W_skip (ib_normal (Ze (Zc (W_dl (n0 := 10) (qs 0 5 (.e 5 [] (qs 6 4 .done))) hmix (by kernel_rfl) (by kernel_rfl) (DL_q rfl rfl (Exec.load_box_agg (ds := [c, d]) ((b.drew).f1) A69 rfl rfl rfl ⟨rfl, ?_⟩))))))
 refine DL_q rfl rfl (Zp F82_2 rfl rfl rfl ⟨rfl, ?_⟩)
 refine DL_q rfl rfl (Zn (b.drew) A80 rfl rfl rfl ⟨rfl, ?_⟩)
 obtain ⟨aU, an, hm⟩ := Zg hm
 refine DL_q rfl rfl (Exec.index_repE S80 rfl rfl rfl y an ?_)
 intro a8 aI ag aC
 refine ⟨rfl, ?_⟩
 refine DL_q rfl rfl (Zw (E := encGExpr) b.drew A82 rfl rfl rfl ag ?_)
 intro aN ao
 obtain ⟨aK, rfl, aw⟩ := encGExpr_val.1 ao
 refine ⟨rfl, ?_⟩
 obtain ⟨a1, ap, hm⟩ := Zg hm
 obtain ⟨p, q⟩ := a1
 replace hm := un2_eq hm
 refine DL_e rfl rfl (Tc rfl rfl rfl (Zi rfl (Zi rfl args_nil)) (ih ap b.drew x o aw).r ?_)
 rintro _ aR ⟨ay, g, i, rfl⟩
 refine ⟨ag_nil, ?_⟩
 refine DL_q rfl rfl (Zm (v := Value.tuple #[Vi (p), Value.bool (q)]) rfl rfl ⟨rfl, ?_⟩)
 refine DL_q rfl rfl (Exec.extract (v := Vi (p)) rfl rfl rfl ⟨rfl, ?_⟩)
 refine DL_q rfl rfl (Exec.extract (v := Value.bool (q)) rfl rfl rfl ⟨rfl, ?_⟩)
 refine DL_q rfl rfl (Zo (v := Vi (p)) rfl rfl ⟨rfl, ?_⟩)
 refine DL_done (Za rfl rfl (Zo (v := Value.bool (q)) rfl rfl (Zb (Ze (Zc (Zc (Zd (Za rfl rfl (Zm (v := Value.bool (q)) rfl rfl (Za rfl rfl (Exec.not rfl rfl (Zb (Ze ?_)))))))))))))
 rcases ite_some hm with ⟨l, hm⟩ | ⟨l, hm⟩
 ·refine W_cond_t rfl l (Zc (Zd (Za rfl rfl (Zo (v := Vi (0)) rfl rfl (Za rfl rfl (Zo (v := Value.bool (false)) rfl rfl (Zb (Ze (W_ret (at_ret ?_))))))))))
  have aD := Zu hm
  subst r
  refine ⟨_, ret2 rfl, ?_⟩
  exact ⟨ay, g, ((i).drop).drop, (tup2 rfl rfl)⟩
 refine W_cond_f rfl l ?_
 replace l := Zk l
 refine W_skip (Ze (Zc (W_dl (n0 := 10) (qs 0 5 (.e 5 [] (qs 6 4 .done))) hmix (by kernel_rfl) (by kernel_rfl) (DL_q rfl rfl (Exec.load_box_agg (ds := [c, d]) ((i.drew).f1) A69 rfl rfl rfl ⟨rfl, ?_⟩)))))
 refine DL_q rfl rfl (Zp F82_2 rfl rfl rfl ⟨rfl, ?_⟩)
 refine DL_q rfl rfl (Zn (i.drew) A80 rfl rfl rfl ⟨rfl, ?_⟩)
 obtain ⟨aV, aq, hm⟩ := Zg hm
 refine DL_q rfl rfl (Exec.index_repE S80 rfl rfl rfl (y.mono g) aq ?_)
 intro a9 aJ ah aE
 refine ⟨rfl, ?_⟩
 refine DL_q rfl rfl (Zw (E := encGExpr) i.drew A82 rfl rfl rfl ah ?_)
 intro aO ar
 obtain ⟨aL, rfl, ax⟩ := encGExpr_val.1 ar
 refine ⟨rfl, ?_⟩
 obtain ⟨a2, au, hm⟩ := Zg hm
 obtain ⟨t, u⟩ := a2
 replace hm := un2_eq hm
 refine DL_e rfl rfl (Tc rfl rfl rfl (Zi rfl (Zi rfl args_nil)) (ih au i.drew (x.mono g) (o.mono g) ax).r ?_)
 rintro _ aS ⟨az, ac, z, rfl⟩
 refine ⟨ag_nil, ?_⟩
 refine DL_q rfl rfl (Zm (v := Value.tuple #[Vi (t), Value.bool (u)]) rfl rfl ⟨rfl, ?_⟩)
 refine DL_q rfl rfl (Exec.extract (v := Vi (t)) rfl rfl rfl ⟨rfl, ?_⟩)
 refine DL_q rfl rfl (Exec.extract (v := Value.bool (u)) rfl rfl rfl ⟨rfl, ?_⟩)
 refine DL_q rfl rfl (Zo (v := Vi (t)) rfl rfl ⟨rfl, ?_⟩)
 refine DL_done (Za rfl rfl (Zo (v := Value.bool (u)) rfl rfl (Zb (Ze (Zc (Zc (Zd (Za rfl rfl (Zm (v := Value.bool (u)) rfl rfl (Za rfl rfl (Exec.not rfl rfl (Zb (Ze ?_)))))))))))))
 rcases ite_some hm with ⟨m, hm⟩ | ⟨m, hm⟩
 ·refine W_cond_t rfl m (Zc (Zd (Za rfl rfl (Zo (v := Vi (0)) rfl rfl (Za rfl rfl (Zo (v := Value.bool (false)) rfl rfl (Zb (Ze (W_ret (at_ret ?_))))))))))
  have aF := Zu hm
  subst r
  refine ⟨_, ret2 rfl, ?_⟩
  exact ⟨az, (Zt g ac), ((z).drop).drop, (tup2 rfl rfl)⟩
 refine W_cond_f rfl m ?_
 replace m := Zk m
 refine W_skip (Ze (Zc (Zd (Za rfl rfl (Zp F82_0 rfl rfl rfl (Za rfl rfl (Zn (z) A9 rfl rfl rfl (Za rfl rfl (Zm (v := Vi (p)) rfl rfl (Za rfl rfl (Zm (v := Vi (t)) rfl rfl ?_)))))))))))
 obtain ⟨a3, av, hm⟩ := Zg hm
 obtain ⟨ad, ae⟩ := a3
 replace hm := un2_eq hm
 refine Za rfl rfl (Tc rfl rfl rfl (Zi rfl (Zi rfl (Zi rfl args_nil))) (ground_combine_sim av z ).r ?_)
 rintro _ aT ⟨a0, ak, aj, rfl⟩
 refine Za rfl rfl (Exec.extract (v := Vi (ad)) rfl rfl rfl (Za rfl rfl (Exec.extract (v := Value.bool (ae)) rfl rfl rfl (Za rfl rfl (Zo (v := Vi (ad)) rfl rfl (Za rfl rfl (Zo (v := Value.bool (ae)) rfl rfl (Zb (Ze (W_ret ?_))))))))))
 have aG := Zu hm
 subst r
 refine ⟨_, ret2 rfl, ?_⟩
 exact ⟨a0, (Zt (Zt g ac) ak), ((aj).drop).drop, (tup2 rfl rfl)⟩
theorem ground_value_sim {fu : Nat} : ∀ {w0 w : World} {s : PHeap} {H : List Res} {b : GState} {a : GExpr} {d : Value} {f : Value} {g : Value} {r : Int × Bool} (hm : ground_value_p fu b a = some r) (hS : St w0 s (H) w) (j : SliceRep (encInt .i64) s d b.True) (k : SliceRep (encInt .i64) s f b.Values) (l : SliceRep encGExpr s g a.Kids), Calls Try.prog 102 #[Value.agg #[d, f], Value.agg #[Value.string (a.Op), Vi (a.N), g]] w fun e w' => ∃ v, e = .returned v ∧ ((un2 fun (h : Int) (i : Bool) => ∃ (c : PHeap) , PHeap.le s c ∧ St w0 c (H) w' ∧ v = Value.tuple #[Vi (h), Value.bool (i)]) r) := by
 induction fu with
 | zero => intros; rename_i hm _ _ _ _; rw [ground_value_p] at hm; cases hm
 | succ fu ih => exact ground_value_step ih
theorem ground_test_sim {w0 w : World} {s : PHeap} {H : List Res} {fu : Nat} {ag : GState} {b : GTest} {y : Value} {z : Value} {ac : Value} {ad : Value} {r : Bool} (hm : ground_test_p fu ag b = some r) (hS : St w0 s (H) w) (ah : SliceRep (encInt .i64) s y ag.True) (ai : SliceRep (encInt .i64) s z ag.Values) (al : SliceRep encGExpr s ac b.A.Kids) (am : SliceRep encGExpr s ad b.B.Kids) :
  Calls Try.prog 101 #[Value.agg #[y, z], Value.agg #[Value.string (b.Op), Value.string (b.A.Op), Vi (b.A.N), ac, Value.string (b.B.Op), Vi (b.B.N), ad]] w fun e w' => ∃ v, e = .returned v ∧ ((fun (a0 : Bool) => ∃ (aj : PHeap) , PHeap.le s aj ∧ St w0 aj (H) w' ∧ v = Value.bool (a0)) r) := by
 unfold ground_test_p at hm
 refine calls_of_W Try.func101 rfl rfl (Zc (Zd (Za rfl rfl (Exec.box (cs := [y, z]) hS rfl rfl rfl ?_))))
 intro a1 a6 ao
 refine Za rfl rfl (Exec.box (cs := [Value.string (b.Op), Value.string (b.A.Op), Vi (b.A.N), ac, Value.string (b.B.Op), Vi (b.B.N), ad]) ao rfl rfl rfl ?_)
 intro a2 a7 ae
 refine Za rfl rfl (Zo (v := Value.bool (false)) rfl rfl (Zb (Ze (Zc (Zd (Za rfl rfl (Exec.load_box_agg (ds := [y, z]) ((ae).f1) A69 rfl rfl rfl (Za rfl rfl (Zp F129_1 rfl rfl rfl (Za rfl rfl (Exec.load_box_agg (ds := [Value.string (b.A.Op), Vi (b.A.N), ac]) (ae) A82 rfl rfl rfl ?_)))))))))))
 obtain ⟨ay, av, hm⟩ := Zg hm
 obtain ⟨c, aa⟩ := ay
 replace hm := un2_eq hm
 refine Za rfl rfl (Tc rfl rfl rfl (Zi rfl (Zi rfl args_nil)) (ground_value_sim av ae ah ai al).r ?_)
 rintro _ a8 ⟨a5, ab, af, rfl⟩
 refine Za rfl rfl (Zm (v := Value.tuple #[Vi (c), Value.bool (aa)]) rfl rfl (Za rfl rfl (Exec.extract (v := Vi (c)) rfl rfl rfl (Za rfl rfl (Exec.extract (v := Value.bool (aa)) rfl rfl rfl (Za rfl rfl (Zo (v := Vi (c)) rfl rfl (Za rfl rfl (Zo (v := Value.bool (aa)) rfl rfl (Zb (Ze (Zc (Zd (Za rfl rfl (Exec.load_box_agg (ds := [y, z]) ((af).f1) A69 rfl rfl rfl (Za rfl rfl (Zp F129_2 rfl rfl rfl (Za rfl rfl (Exec.load_box_agg (ds := [Value.string (b.B.Op), Vi (b.B.N), ad]) (af) A82 rfl rfl rfl ?_)))))))))))))))))))
 obtain ⟨az, aw, hm⟩ := Zg hm
 obtain ⟨d, x⟩ := az
 replace hm := un2_eq hm
 refine Za rfl rfl (Tc rfl rfl rfl (Zi rfl (Zi rfl args_nil)) (ground_value_sim aw af (ah.mono ab) (ai.mono ab) (am.mono ab)).r ?_)
 rintro _ a9 ⟨m, aq, g, rfl⟩
 refine Za rfl rfl (Zm (v := Value.tuple #[Vi (d), Value.bool (x)]) rfl rfl (Za rfl rfl (Exec.extract (v := Vi (d)) rfl rfl rfl (Za rfl rfl (Exec.extract (v := Value.bool (x)) rfl rfl rfl (Za rfl rfl (Zo (v := Vi (d)) rfl rfl (Za rfl rfl (Zo (v := Value.bool (x)) rfl rfl (Zb (Ze (Zc (W_mid (M := fun f' w' => ∃ (ak : PHeap) , PHeap.le m ak ∧ St w0 ak (H) w' ∧ f' 4 = Value.bool ((aa && (x && (bif (decide (b.Op = (⟨#[60]⟩))) then ((decide (c < d)) || (bif (decide (b.Op = (⟨#[60, 61]⟩))) then ((decide (c ≤ d)) || ((decide (b.Op = (⟨#[61]⟩))) && decide (c = d))) else ((decide (b.Op = (⟨#[61]⟩))) && decide (c = d)))) else (bif (decide (b.Op = (⟨#[60, 61]⟩))) then ((decide (c ≤ d)) || ((decide (b.Op = (⟨#[61]⟩))) && decide (c = d))) else ((decide (b.Op = (⟨#[61]⟩))) && decide (c = d)))))))) ?_ ?_)))))))))))))
 ·refine Zd (WL_passes 2 rfl ?_)
  by_cases h : aa = true
  ·refine WL_run rfl (Zf rfl (Zx h)) rfl (Zm (v := Value.bool (x)) rfl rfl ?_)
   refine WL_passes 2 (by rw [h]; rfl) ?_
   by_cases a : x = true
   ·refine WL_run rfl (Zf rfl (Zx a)) rfl (Zp F129_0 rfl rfl rfl (WL_run rfl (Zf rfl (Zx a)) rfl (Zn (g) A9 rfl rfl rfl (WL_run rfl (Zf rfl (Zx a)) rfl (Exec.str_eql rfl rfl rfl (WL_run rfl (Zf rfl (Zx a)) rfl (Zm (v := Value.bool (decide (b.Op = (⟨#[60]⟩)))) rfl rfl ?_)))))))
    by_cases i : (decide (b.Op = (⟨#[60]⟩))) = true
    ·refine WL_run rfl (Zf rfl (Zx i)) rfl (Zm (v := Vi (c)) rfl rfl (WL_run rfl (Zf rfl (Zx i)) rfl (Zm (v := Vi (d)) rfl rfl (WL_run rfl (Zf rfl (Zx i)) rfl (Zq rfl rfl rfl (WL_run rfl (Zf rfl (Zx a)) rfl (Zs (v := Value.bool (decide (c < d))) rfl (Zx i) rfl (WL_run rfl (Zf rfl (Zx a)) rfl (Zm (v := Value.bool (decide (c < d))) rfl rfl ?_)))))))))
     by_cases j : (decide (c < d)) = true
     ·refine WL_passes 8 (by rw [j]; rfl) ?_
      refine WL_run rfl (Zf rfl (Zx a)) rfl (Zs (v := Value.bool (true)) rfl rfl rfl (WL_run rfl (Zf rfl (Zx a)) rfl (Zm (v := Value.bool (true)) rfl rfl (WL_passes 8 rfl (WL_run rfl (Zf rfl (Zx a)) rfl (Zs (v := Value.bool (true)) rfl rfl rfl ?_))))))
      refine WL_passes 2 (by rw [a]; rfl) ?_
      refine Zb (Ze ?_)
      exact ⟨m, (Zv _), ((g).drop).drop, (Zx (Eq.trans (and_t h) (Eq.trans (and_t a) (Eq.trans (cnd_t i) (or_t j))))).symm⟩
     replace j := Zk j
     refine WL_run rfl (Zf rfl (Zx j)) rfl (Zp F129_0 rfl rfl rfl (WL_run rfl (Zf rfl (Zx j)) rfl (Zn (g) A9 rfl rfl rfl (WL_run rfl (Zf rfl (Zx j)) rfl (Exec.str_eql rfl rfl rfl (WL_run rfl (Zf rfl (Zx j)) rfl (Zm (v := Value.bool (decide (b.Op = (⟨#[60, 61]⟩)))) rfl rfl ?_)))))))
     by_cases n : (decide (b.Op = (⟨#[60, 61]⟩))) = true
     ·refine WL_run rfl (Zf rfl (Zx n)) rfl (Zm (v := Vi (c)) rfl rfl (WL_run rfl (Zf rfl (Zx n)) rfl (Zm (v := Vi (d)) rfl rfl (WL_run rfl (Zf rfl (Zx n)) rfl (Exec.leq rfl rfl rfl (WL_run rfl (Zf rfl (Zx j)) rfl (Zs (v := Value.bool (decide (c ≤ d))) rfl (Zx n) rfl (WL_run rfl (Zf rfl (Zx a)) rfl (Exec.pick_f (v := Value.bool (decide (c ≤ d))) rfl (Zx j) rfl (WL_run rfl (Zf rfl (Zx a)) rfl (Zm (v := Value.bool (decide (c ≤ d))) rfl rfl ?_)))))))))))
      by_cases k : (decide (c ≤ d)) = true
      ·refine WL_passes 8 (by rw [k]; rfl) ?_
       refine WL_run rfl (Zf rfl (Zx a)) rfl (Zs (v := Value.bool (true)) rfl rfl rfl ?_)
       refine WL_passes 2 (by rw [a]; rfl) ?_
       refine Zb (Ze ?_)
       exact ⟨m, (Zv _), ((g).drop).drop, (Zx (Eq.trans (and_t h) (Eq.trans (and_t a) (Eq.trans (cnd_t i) (Eq.trans (or_f j) (Eq.trans (cnd_t n) (or_t k))))))).symm⟩
      replace k := Zk k
      refine WL_run rfl (Zf rfl (Zx k)) rfl (Zp F129_0 rfl rfl rfl (WL_run rfl (Zf rfl (Zx k)) rfl (Zn (g) A9 rfl rfl rfl (WL_run rfl (Zf rfl (Zx k)) rfl (Exec.str_eql rfl rfl rfl (WL_run rfl (Zf rfl (Zx k)) rfl (Zm (v := Value.bool (decide (b.Op = (⟨#[61]⟩)))) rfl rfl ?_)))))))
      by_cases p : (decide (b.Op = (⟨#[61]⟩))) = true
      ·refine WL_run rfl (Zf rfl (Zx p)) rfl (Zm (v := Vi (c)) rfl rfl (WL_run rfl (Zf rfl (Zx p)) rfl (Zm (v := Vi (d)) rfl rfl (WL_run rfl (Zf rfl (Zx p)) rfl (Exec.eql rfl rfl rfl (WL_run rfl (Zf rfl (Zx k)) rfl (Zs (v := Value.bool (decide (c = d))) rfl (Zx p) rfl (WL_run rfl (Zf rfl (Zx a)) rfl (Exec.pick_f (v := Value.bool (decide (c = d))) rfl (Zx k) rfl ?_)))))))))
       refine WL_passes 2 (by rw [a]; rfl) ?_
       refine Zb (Ze ?_)
       exact ⟨m, (Zv _), ((g).drop).drop, (Zx (Eq.trans (and_t h) (Eq.trans (and_t a) (Eq.trans (cnd_t i) (Eq.trans (or_f j) (Eq.trans (cnd_t n) (Eq.trans (or_f k) (and_t p)))))))).symm⟩
      replace p := Zk p
      refine WL_passes 3 (by rw [p]; rfl) ?_
      refine WL_run rfl (Zf rfl (Zx k)) rfl (Exec.pick_f (v := Value.bool (false)) rfl rfl rfl (WL_run rfl (Zf rfl (Zx a)) rfl (Exec.pick_f (v := Value.bool (false)) rfl (Zx k) rfl ?_)))
      refine WL_passes 2 (by rw [a]; rfl) ?_
      refine Zb (Ze ?_)
      exact ⟨m, (Zv _), ((g).drop).drop, (Zx (Eq.trans (and_t h) (Eq.trans (and_t a) (Eq.trans (cnd_t i) (Eq.trans (or_f j) (Eq.trans (cnd_t n) (Eq.trans (or_f k) (and_f p)))))))).symm⟩
     replace n := Zk n
     refine WL_passes 3 (by rw [n]; rfl) ?_
     refine WL_run rfl (Zf rfl (Zx j)) rfl (Exec.pick_f (v := Value.bool (false)) rfl rfl rfl (WL_run rfl (Zf rfl (Zx a)) rfl (Exec.pick_f (v := Value.bool (false)) rfl (Zx j) rfl (WL_run rfl (Zf rfl (Zx a)) rfl (Zm (v := Value.bool (false)) rfl rfl (WL_run rfl (Zf rfl rfl) rfl (Zp F129_0 rfl rfl rfl (WL_run rfl (Zf rfl rfl) rfl (Zn (g) A9 rfl rfl rfl (WL_run rfl (Zf rfl rfl) rfl (Exec.str_eql rfl rfl rfl (WL_run rfl (Zf rfl rfl) rfl (Zm (v := Value.bool (decide (b.Op = (⟨#[61]⟩)))) rfl rfl ?_)))))))))))))
     by_cases q : (decide (b.Op = (⟨#[61]⟩))) = true
     ·refine WL_run rfl (Zf rfl (Zx q)) rfl (Zm (v := Vi (c)) rfl rfl (WL_run rfl (Zf rfl (Zx q)) rfl (Zm (v := Vi (d)) rfl rfl (WL_run rfl (Zf rfl (Zx q)) rfl (Exec.eql rfl rfl rfl (WL_run rfl (Zf rfl rfl) rfl (Zs (v := Value.bool (decide (c = d))) rfl (Zx q) rfl (WL_run rfl (Zf rfl (Zx a)) rfl (Exec.pick_f (v := Value.bool (decide (c = d))) rfl rfl rfl ?_)))))))))
      refine WL_passes 2 (by rw [a]; rfl) ?_
      refine Zb (Ze ?_)
      exact ⟨m, (Zv _), ((g).drop).drop, (Zx (Eq.trans (and_t h) (Eq.trans (and_t a) (Eq.trans (cnd_t i) (Eq.trans (or_f j) (Eq.trans (cnd_f n) (and_t q))))))).symm⟩
     replace q := Zk q
     refine WL_passes 3 (by rw [q]; rfl) ?_
     refine WL_run rfl (Zf rfl rfl) rfl (Exec.pick_f (v := Value.bool (false)) rfl rfl rfl (WL_run rfl (Zf rfl (Zx a)) rfl (Exec.pick_f (v := Value.bool (false)) rfl rfl rfl ?_)))
     refine WL_passes 2 (by rw [a]; rfl) ?_
     refine Zb (Ze ?_)
     exact ⟨m, (Zv _), ((g).drop).drop, (Zx (Eq.trans (and_t h) (Eq.trans (and_t a) (Eq.trans (cnd_t i) (Eq.trans (or_f j) (Eq.trans (cnd_f n) (and_f q))))))).symm⟩
    replace i := Zk i
    refine WL_passes 3 (by rw [i]; rfl) ?_
    refine WL_run rfl (Zf rfl (Zx a)) rfl (Exec.pick_f (v := Value.bool (false)) rfl rfl rfl (WL_run rfl (Zf rfl (Zx a)) rfl (Zm (v := Value.bool (false)) rfl rfl (WL_run rfl (Zf rfl rfl) rfl (Zp F129_0 rfl rfl rfl (WL_run rfl (Zf rfl rfl) rfl (Zn (g) A9 rfl rfl rfl (WL_run rfl (Zf rfl rfl) rfl (Exec.str_eql rfl rfl rfl (WL_run rfl (Zf rfl rfl) rfl (Zm (v := Value.bool (decide (b.Op = (⟨#[60, 61]⟩)))) rfl rfl ?_)))))))))))
    by_cases o : (decide (b.Op = (⟨#[60, 61]⟩))) = true
    ·refine WL_run rfl (Zf rfl (Zx o)) rfl (Zm (v := Vi (c)) rfl rfl (WL_run rfl (Zf rfl (Zx o)) rfl (Zm (v := Vi (d)) rfl rfl (WL_run rfl (Zf rfl (Zx o)) rfl (Exec.leq rfl rfl rfl (WL_run rfl (Zf rfl rfl) rfl (Zs (v := Value.bool (decide (c ≤ d))) rfl (Zx o) rfl (WL_run rfl (Zf rfl (Zx a)) rfl (Exec.pick_f (v := Value.bool (decide (c ≤ d))) rfl rfl rfl (WL_run rfl (Zf rfl (Zx a)) rfl (Zm (v := Value.bool (decide (c ≤ d))) rfl rfl ?_)))))))))))
     by_cases l : (decide (c ≤ d)) = true
     ·refine WL_passes 8 (by rw [l]; rfl) ?_
      refine WL_run rfl (Zf rfl (Zx a)) rfl (Zs (v := Value.bool (true)) rfl rfl rfl ?_)
      refine WL_passes 2 (by rw [a]; rfl) ?_
      refine Zb (Ze ?_)
      exact ⟨m, (Zv _), ((g).drop).drop, (Zx (Eq.trans (and_t h) (Eq.trans (and_t a) (Eq.trans (cnd_f i) (Eq.trans (cnd_t o) (or_t l)))))).symm⟩
     replace l := Zk l
     refine WL_run rfl (Zf rfl (Zx l)) rfl (Zp F129_0 rfl rfl rfl (WL_run rfl (Zf rfl (Zx l)) rfl (Zn (g) A9 rfl rfl rfl (WL_run rfl (Zf rfl (Zx l)) rfl (Exec.str_eql rfl rfl rfl (WL_run rfl (Zf rfl (Zx l)) rfl (Zm (v := Value.bool (decide (b.Op = (⟨#[61]⟩)))) rfl rfl ?_)))))))
     by_cases t : (decide (b.Op = (⟨#[61]⟩))) = true
     ·refine WL_run rfl (Zf rfl (Zx t)) rfl (Zm (v := Vi (c)) rfl rfl (WL_run rfl (Zf rfl (Zx t)) rfl (Zm (v := Vi (d)) rfl rfl (WL_run rfl (Zf rfl (Zx t)) rfl (Exec.eql rfl rfl rfl (WL_run rfl (Zf rfl (Zx l)) rfl (Zs (v := Value.bool (decide (c = d))) rfl (Zx t) rfl (WL_run rfl (Zf rfl (Zx a)) rfl (Exec.pick_f (v := Value.bool (decide (c = d))) rfl (Zx l) rfl ?_)))))))))
      refine WL_passes 2 (by rw [a]; rfl) ?_
      refine Zb (Ze ?_)
      exact ⟨m, (Zv _), ((g).drop).drop, (Zx (Eq.trans (and_t h) (Eq.trans (and_t a) (Eq.trans (cnd_f i) (Eq.trans (cnd_t o) (Eq.trans (or_f l) (and_t t))))))).symm⟩
     replace t := Zk t
     refine WL_passes 3 (by rw [t]; rfl) ?_
     refine WL_run rfl (Zf rfl (Zx l)) rfl (Exec.pick_f (v := Value.bool (false)) rfl rfl rfl (WL_run rfl (Zf rfl (Zx a)) rfl (Exec.pick_f (v := Value.bool (false)) rfl (Zx l) rfl ?_)))
     refine WL_passes 2 (by rw [a]; rfl) ?_
     refine Zb (Ze ?_)
     exact ⟨m, (Zv _), ((g).drop).drop, (Zx (Eq.trans (and_t h) (Eq.trans (and_t a) (Eq.trans (cnd_f i) (Eq.trans (cnd_t o) (Eq.trans (or_f l) (and_f t))))))).symm⟩
    replace o := Zk o
    refine WL_passes 3 (by rw [o]; rfl) ?_
    refine WL_run rfl (Zf rfl rfl) rfl (Exec.pick_f (v := Value.bool (false)) rfl rfl rfl (WL_run rfl (Zf rfl (Zx a)) rfl (Exec.pick_f (v := Value.bool (false)) rfl rfl rfl (WL_run rfl (Zf rfl (Zx a)) rfl (Zm (v := Value.bool (false)) rfl rfl (WL_run rfl (Zf rfl rfl) rfl (Zp F129_0 rfl rfl rfl (WL_run rfl (Zf rfl rfl) rfl (Zn (g) A9 rfl rfl rfl (WL_run rfl (Zf rfl rfl) rfl (Exec.str_eql rfl rfl rfl (WL_run rfl (Zf rfl rfl) rfl (Zm (v := Value.bool (decide (b.Op = (⟨#[61]⟩)))) rfl rfl ?_)))))))))))))
    by_cases u : (decide (b.Op = (⟨#[61]⟩))) = true
    ·refine WL_run rfl (Zf rfl (Zx u)) rfl (Zm (v := Vi (c)) rfl rfl (WL_run rfl (Zf rfl (Zx u)) rfl (Zm (v := Vi (d)) rfl rfl (WL_run rfl (Zf rfl (Zx u)) rfl (Exec.eql rfl rfl rfl (WL_run rfl (Zf rfl rfl) rfl (Zs (v := Value.bool (decide (c = d))) rfl (Zx u) rfl (WL_run rfl (Zf rfl (Zx a)) rfl (Exec.pick_f (v := Value.bool (decide (c = d))) rfl rfl rfl ?_)))))))))
     refine WL_passes 2 (by rw [a]; rfl) ?_
     refine Zb (Ze ?_)
     exact ⟨m, (Zv _), ((g).drop).drop, (Zx (Eq.trans (and_t h) (Eq.trans (and_t a) (Eq.trans (cnd_f i) (Eq.trans (cnd_f o) (and_t u)))))).symm⟩
    replace u := Zk u
    refine WL_passes 3 (by rw [u]; rfl) ?_
    refine WL_run rfl (Zf rfl rfl) rfl (Exec.pick_f (v := Value.bool (false)) rfl rfl rfl (WL_run rfl (Zf rfl (Zx a)) rfl (Exec.pick_f (v := Value.bool (false)) rfl rfl rfl ?_)))
    refine WL_passes 2 (by rw [a]; rfl) ?_
    refine Zb (Ze ?_)
    exact ⟨m, (Zv _), ((g).drop).drop, (Zx (Eq.trans (and_t h) (Eq.trans (and_t a) (Eq.trans (cnd_f i) (Eq.trans (cnd_f o) (and_f u)))))).symm⟩
   replace a := Zk a
   refine WL_passes 30 (by rw [a]; rfl) ?_
   refine Zb (Ze ?_)
   exact ⟨m, (Zv _), ((g).drop).drop, (Zx (Eq.trans (and_t h) (and_f a))).symm⟩
  replace h := Zk h
  refine WL_passes 33 (by rw [h]; rfl) ?_
  refine Zb (Ze ?_)
  exact ⟨m, (Zv _), ((g).drop).drop, (Zx (and_f h)).symm⟩
 intro a4 aA an
 obtain ⟨ax, ar, ap, au⟩ := an
 refine (Ze (W_ret ?_))
 have a3 := Zu hm
 subst r
 refine ⟨_, ret1 rfl, ?_⟩
 exact ⟨ax, (Zt (Zt ab aq) ar), ap, au⟩
theorem N100 : (Try.f100.name == "runtime.NumGoroutine") = false := by kernel_rfl
theorem ground_holds_c3_sim {w0 w : World} {s : PHeap} {H : List Res} {fu : Nat} {a : GTest} {g : GState} {b : Value} {c : Value} {f h : Nat} {r : Bool} (hm : ground_holds_c3_p fu a g = some r) (hS : St w0 s (H) w) (j : SliceRep encGExpr s b a.A.Kids) (k : SliceRep encGExpr s c a.B.Kids) (l : At s f h encGState g) :
  Calls Try.prog 100 #[Value.agg #[Value.string (a.Op), Value.string (a.A.Op), Vi (a.A.N), b, Value.string (a.B.Op), Vi (a.B.N), c], Value.pointer (some ⟨f, h, none⟩)] w fun e w' => ∃ v, e = .returned v ∧ ((fun (x : Bool) => ∃ (i : PHeap) , PHeap.le s i ∧ St w0 i (H) w' ∧ v = Value.bool (x)) r) := by
 unfold ground_holds_c3_p at hm
 refine calls_of_W Try.func100 rfl rfl (Zc (Zd (Za rfl rfl (Exec.box (cs := [Value.string (a.Op), Value.string (a.A.Op), Vi (a.A.N), b, Value.string (a.B.Op), Vi (a.B.N), c]) hS rfl rfl rfl ?_))))
 intro z ae d
 refine Za rfl rfl (Zo (v := Value.bool (false)) rfl rfl (Zb (Ze (Zc (Zd (Za rfl rfl (Zw (E := encGState) d A69 rfl rfl rfl l ?_)))))))
 intro ad o
 obtain ⟨ab, ac, rfl, q, t⟩ := encGState_val.1 o
 refine Za rfl rfl (Exec.load_box_agg (ds := [Value.string (a.Op), Value.string (a.A.Op), Vi (a.A.N), b, Value.string (a.B.Op), Vi (a.B.N), c]) (d) A129 rfl rfl rfl ?_)
 obtain ⟨y, p, hm⟩ := Zg hm
 refine Za rfl rfl (Tc rfl rfl rfl (Zi rfl (Zi rfl args_nil)) (ground_test_sim p d q t j k).r ?_)
 rintro _ af ⟨u, n, m, rfl⟩
 refine Za rfl rfl (Exec.not rfl rfl (Za rfl rfl (Zo (v := Value.bool (!y)) rfl rfl (Zb (Ze (W_ret ?_))))))
 have aa := Zu hm
 subst r
 refine ⟨_, ret1 rfl, ?_⟩
 exact ⟨u, n, (m).drop, rfl⟩
theorem api_GTest__f100_120_sim {w0 w : World} {s : PHeap} {H : List Res} {fu : Nat} {l : (List GTest)} {o : GState} {c : Value} {d i : Nat} {r : Int} (hm : api_GTest__f100_120_p fu l o = some r) (hS : St w0 s (H) w) (m : SliceRep encGTest s c l) (ah : At s d i encGState o) :
  Calls Try.prog 120 #[c, Value.func (.func 100) #[] #[Value.pointer (some ⟨d, i, none⟩)]] w fun e w' => ∃ v, e = .returned v ∧ ((fun (aA : Int) => ∃ (ad : PHeap) , PHeap.le s ad ∧ St w0 ad (H) w' ∧ v = Vi (aA)) r) := by
 unfold api_GTest__f100_120_p at hm
 refine calls_of_W Try.func120 rfl rfl (Zc (Zd (Za rfl rfl (Zo (v := Vi (0)) rfl rfl (Zb (Ze (Zc (Zc (Zd (Za rfl rfl (Zm (v := c) rfl rfl (Za rfl rfl (Zr S45 rfl rfl m (Za rfl rfl (Zm (v := Vi (0)) rfl rfl (Zb (Ze ?_)))))))))))))))))
 obtain ⟨p, aj, av, ar, ap⟩ := ctl_some hm
 refine W_mid (M := fun f' w' => ∃ s', (p = .next s' ∨ p = .brk s') ∧ (fun (_ : Unit) => ∃ (ae : PHeap) , PHeap.le s ae ∧ St w0 ae (H) w' ∧ f' 0 = c ∧ f' 1 = Value.func (.func 100) #[] #[Value.pointer (some ⟨d, i, none⟩)] ∧ f' 7 = Vi ((l.length : Int))) s') ?_ ?_
 ·refine W_block (W_forC (fun k' s' f' w' => (fun (_ : Unit) => ∃ (af : PHeap) , PHeap.le s af ∧ St w0 af (H) w' ∧ f' 0 = c ∧ f' 1 = Value.func (.func 100) #[] #[Value.pointer (some ⟨d, i, none⟩)] ∧ f' 7 = Vi ((l.length : Int)) ∧ f' 8 = Vi (k' : Int)) s') aj ?_ ?_ ?_)
  ·exact ⟨s, (Zv _), hS, rfl, rfl, rfl, rfl⟩
  ·intro b aO q aG aU aq ak a aw
   obtain ⟨aN, j, t, z, aa, ab, n⟩ := ak
   refine Zc (Zd (Za rfl rfl (Zq rfl n ab (Zb (Ze (Zc (W_true (Zx (decide_eq_true (by omega))) (W_skip (Ze (Zc (W_block (Zc (Zd (Za rfl rfl (Zm (v := Vi ((b : Int))) rfl n (Za rfl rfl (Zo (v := Vi ((b : Int))) rfl rfl (Zb (Ze (Zc (Zd (Za rfl rfl (Zm (v := Value.func (.func 100) #[] #[Value.pointer (some ⟨d, i, none⟩)]) rfl aa (Za rfl rfl (Zm (v := c) rfl z (Za rfl rfl (Zm (v := Vi ((b : Int))) rfl rfl ?_)))))))))))))))))))))))))))
   obtain ⟨aY, a2, a⟩ := Zg a
   refine Za rfl rfl (Exec.index_rep S45 rfl rfl rfl (m.mono j) a2 ?_)
   intro aB aJ ai
   refine Za rfl rfl (Zw (E := encGTest) t A129 rfl rfl rfl ai ?_)
   intro aT a3
   obtain ⟨aR, aS, rfl, a5, a6⟩ := encGTest_val.1 a3
   obtain ⟨aZ, a4, a⟩ := Zg a
   refine Za rfl rfl (Exec.callc rfl rfl Try.func100 rfl N100 (Zi rfl args_nil) rfl ((ground_holds_c3_sim a4 t a5 a6 (ah.mono j)).mono ?_))
   rintro _ aV ⟨_, rfl, ⟨ag, y, u, rfl⟩⟩
   refine ⟨_, rfl, ?_⟩
   refine Zb (Ze ?_)
   rcases ite_some a with ⟨g, a⟩ | ⟨g, a⟩
   ·refine W_cond_t rfl g (Zc (Zd (Za rfl rfl (Zm (v := Vi ((b : Int))) rfl rfl (Za rfl rfl (Zo (v := Vi ((b : Int))) rfl rfl (Zb (Ze (W_ret (ib_ret (at_ret (at_ret (ib_ret (at_ret (at_ret ?_)))))))))))))))
    have aC := Zu a
    subst q
    have au := av _ (aw (by intro _ h; cases h))
    have aD := Zu au
    subst r
    refine ⟨_, ret1 rfl, ?_⟩
    exact ⟨ag, (Zt j y), u, rfl⟩
   refine W_cond_f rfl g ?_
   replace g := Zk g
   refine W_skip (ib_normal (Ze (Zd (Za rfl rfl (Exec.add rfl n rfl (Za rfl rfl (Zm (v := Vi (IntKind.i64.wrap ((b : Int) + 1))) rfl rfl (Zb (Ze ?_)))))))))
   have aE := Zu a
   subst q
   refine ⟨_, rfl, ?_⟩; exact ⟨ag, (Zt j y), u, z, aa, ab, (Eq.trans rfl (wrap_up aq (SliceRep.le m)))⟩
  intro aP aH aW al ax
  obtain ⟨a7, ay, an, a0, a1, ac, a9⟩ := al
  refine Zc (Zd (Za rfl rfl (Zq rfl a9 ac (Zb (Ze (Zc (W_false (Zx (decide_eq_false (by omega))) (W_exit (at_exit (at_exit (ib_here (Ze ?_))))))))))))
  refine ⟨_, .inl ax, ?_⟩; exact ⟨a7, ay, an, a0, a1, ac⟩
 rintro aI aX ⟨aQ, x, am⟩
 have hm := x.elim (ar _) (ap _)
 clear x
 obtain ⟨a8, az, ao, aK, aL, aM⟩ := am
 refine (Ze (Zc (Zd (Za rfl rfl (Zo (v := Vi ((-1))) rfl rfl (Zb (Ze (W_ret ?_))))))))
 have aF := Zu hm
 subst r
 refine ⟨_, ret1 rfl, ?_⟩
 exact ⟨a8, az, ao, rfl⟩
theorem api_GTest__f100_sim {w0 w : World} {s : PHeap} {H : List Res} {fu : Nat} {g : (List GTest)} {d : GState} {c : Value} {a b : Nat} {r : Bool} (hm : api_GTest__f100_p fu g d = some r) (hS : St w0 s (H) w) (h : SliceRep encGTest s c g) (i : At s a b encGState d) :
  Calls Try.prog 99 #[c, Value.func (.func 100) #[] #[Value.pointer (some ⟨a, b, none⟩)]] w fun e w' => ∃ v, e = .returned v ∧ ((fun (n : Bool) => ∃ (f : PHeap) , PHeap.le s f ∧ St w0 f (H) w' ∧ v = Value.bool (n)) r) := by
 unfold api_GTest__f100_p at hm
 refine calls_of_W Try.func99 rfl rfl (Zc (Zd (Za rfl rfl (Zo (v := Value.bool (false)) rfl rfl (Zb (Ze (Zc (Zd (Za rfl rfl (Zm (v := c) rfl rfl (Za rfl rfl (Zm (v := Value.func (.func 100) #[] #[Value.pointer (some ⟨a, b, none⟩)]) rfl rfl ?_))))))))))))
 obtain ⟨o, l, hm⟩ := Zg hm
 refine Za rfl rfl (Tc rfl rfl rfl (Zi rfl (Zi rfl args_nil)) (api_GTest__f100_120_sim l hS h i).r ?_)
 rintro _ q ⟨m, k, j, rfl⟩
 refine Za rfl rfl (Exec.geq rfl rfl rfl (Za rfl rfl (Zo (v := Value.bool (decide (0 ≤ o))) rfl rfl (Zb (Ze (W_ret ?_))))))
 have p := Zu hm
 subst r
 refine ⟨_, ret1 rfl, ?_⟩
 exact ⟨m, k, j, rfl⟩
theorem ground_holds_sim {w0 w : World} {s : PHeap} {H : List Res} {fu : Nat} {l : GState} {h : Cond} {m : Value} {n : Value} {q : Value} {t : Value} {u : Value} {r : Bool} (hm : ground_holds_p fu l h = some r) (hS : St w0 s (H) w) (ac : SliceRep (encInt .i64) s m l.True) (ad : SliceRep (encInt .i64) s n l.Values) (ae : SliceRep (encInt .i64) s q h.Pos) (af : SliceRep (encInt .i64) s t h.Neg) (ag : SliceRep encGTest s u h.Tests) :
  Calls Try.prog 74 #[Value.agg #[m, n], Value.agg #[q, t, u]] w fun e w' => ∃ v, e = .returned v ∧ ((fun (a1 : Bool) => ∃ (aa : PHeap) , PHeap.le s aa ∧ St w0 aa (H) w' ∧ v = Value.bool (a1)) r) := by
 unfold ground_holds_p at hm
 refine calls_of_W Try.func74 rfl rfl (Zc (Zd (Za rfl rfl (Exec.box (cs := [m, n]) hS rfl rfl rfl ?_))))
 intro x aA ai
 refine Za rfl rfl (Exec.box (cs := [q, t, u]) ai rfl rfl rfl ?_)
 intro a3 aB aj
 refine Za rfl rfl (Zo (v := Value.bool (false)) rfl rfl (Zb (Ze (Zc (Zd ?_)))))
 obtain ⟨aw, j, ak, p⟩ := St.freezeVar (E := encGState) (y := l) (aj).f1 ⟨[m], [n], rfl, ⟨_, rfl, ac⟩, ⟨_, rfl, ad⟩⟩
 refine Za rfl rfl (Exec.makeFunc rfl (Zi rfl args_nil) (Za rfl rfl (Exec.alloc (cs := [Value.nilFunc]) ak Z143 rfl rfl ?_)))
 intro a4 aC al
 refine Za rfl rfl (Exec.store_box (ds := [Value.func (.func 96) #[] #[Value.pointer (some ⟨x, 0, none⟩)]]) (es := [Value.func (.func 96) #[] #[Value.pointer (some ⟨x, 0, none⟩)]]) al A143 rfl rfl rfl rfl (Zj rfl one_nil) (Nat.le_of_ble_eq_true rfl) rfl ?_)
 intro aD z
 refine Zb (Ze (Zc ?_))
 obtain ⟨g, a, hm⟩ := Zg hm
 refine W_mid (M := fun f' w' => (fun (g : Bool) => ∃ (ab : PHeap) , PHeap.le aw ab ∧ St w0 ab (H) w' ∧ f' 4 = Value.bool (g)) g) ?_ ?_
 ·refine Zd (Za rfl rfl (Zp F47_0 rfl rfl rfl (Za rfl rfl (Zn ((z).f1) A24 rfl rfl rfl (Za rfl rfl (Exec.makeFunc rfl (Zi rfl args_nil) ?_))))))
  obtain ⟨a2, ar, a⟩ := Zg a
  refine Za rfl rfl (Tc rfl rfl rfl (Zi rfl (Zi rfl args_nil)) (slices_ContainsFunc___int_int__f98_sim ar z (ae.mono j) p).r ?_)
  rintro _ aE ⟨ax, d, i, rfl⟩
  refine Za rfl rfl (Exec.not rfl rfl (Za rfl rfl (Zm (v := Value.bool (!a2)) rfl rfl ?_)))
  rcases ite_some a with ⟨b, a⟩ | ⟨b, a⟩
  ·refine WL_run rfl (Zf rfl (Zx b)) rfl (Zp F47_1 rfl rfl rfl (WL_run rfl (Zf rfl (Zx b)) rfl (Zn ((i).f1) A24 rfl rfl rfl (WL_run rfl (Zf rfl (Zx b)) rfl (Zn (i) A143 rfl rfl rfl ?_)))))
   obtain ⟨aI, au, a⟩ := Zg a
   refine WL_run rfl (Zf rfl (Zx b)) rfl (Tc rfl rfl rfl (Zi rfl (Zi rfl args_nil)) (slices_ContainsFunc___int_int__f96_sim au i (af.mono (Zt j d)) (p.mono d)).r ?_)
   rintro _ aF ⟨ay, k, o, rfl⟩
   refine WL_run rfl (Zf rfl (Zx b)) rfl (Exec.not rfl rfl ?_)
   refine WL_passes 2 (by rw [b]; rfl) ?_
   rcases ite_some a with ⟨c, a⟩ | ⟨c, a⟩
   ·refine WL_run rfl (Zf rfl (Zx c)) rfl (Zp F47_2 rfl rfl rfl (WL_run rfl (Zf rfl (Zx c)) rfl (Zn ((o).f1) A45 rfl rfl rfl (WL_run rfl (Zf rfl (Zx c)) rfl (Exec.makeFunc rfl (Zi rfl args_nil) ?_)))))
    obtain ⟨aJ, av, a⟩ := Zg a
    refine WL_run rfl (Zf rfl (Zx c)) rfl (Tc rfl rfl rfl (Zi rfl (Zi rfl args_nil)) (api_GTest__f100_sim av o (ag.mono (Zt (Zt j d) k)) (p.mono (Zt d k))).r ?_)
    rintro _ aG ⟨az, ao, am, rfl⟩
    refine WL_run rfl (Zf rfl (Zx c)) rfl (Exec.not rfl rfl ?_)
    refine WL_passes 2 (by rw [c]; rfl) ?_
    refine Zb (Ze ?_)
    have a5 := Zu a
    subst g
    exact ⟨az, (Zt (Zt d k) ao), ((am).drop).drop, rfl⟩
   replace c := Zk c
   refine WL_passes 7 (by rw [c]; rfl) ?_
   refine Zb (Ze ?_)
   have a6 := Zu a
   subst g
   exact ⟨ay, (Zt d k), ((o).drop).drop, rfl⟩
  replace b := Zk b
  refine WL_passes 14 (by rw [b]; rfl) ?_
  refine Zb (Ze ?_)
  have a7 := Zu a
  subst g
  exact ⟨ax, d, ((i).drop).drop, rfl⟩
 intro a9 aH ah
 obtain ⟨a0, ap, an, aq⟩ := ah
 refine (Ze (W_ret ?_))
 have a8 := Zu hm
 subst r
 refine ⟨_, ret1 rfl, ?_⟩
 exact ⟨a0, (Zt j ap), an, aq⟩
theorem N73 : (Try.f73.name == "runtime.NumGoroutine") = false := by kernel_rfl
theorem ground_Goal_c1_sim {w0 w : World} {s : PHeap} {H : List Res} {fu : Nat} {a : Cond} {h : GState} {b : Value} {c : Value} {d : Value} {g i : Nat} {r : Bool} (hm : ground_Goal_c1_p fu a h = some r) (hS : St w0 s (H) w) (k : SliceRep (encInt .i64) s b a.Pos) (l : SliceRep (encInt .i64) s c a.Neg) (m : SliceRep encGTest s d a.Tests) (n : At s g i encGState h) :
  Calls Try.prog 73 #[Value.agg #[b, c, d], Value.pointer (some ⟨g, i, none⟩)] w fun e w' => ∃ v, e = .returned v ∧ ((fun (z : Bool) => ∃ (j : PHeap) , PHeap.le s j ∧ St w0 j (H) w' ∧ v = Value.bool (z)) r) := by
 unfold ground_Goal_c1_p at hm
 refine calls_of_W Try.func73 rfl rfl (Zc (Zd (Za rfl rfl (Exec.box (cs := [b, c, d]) hS rfl rfl rfl ?_))))
 intro ab ag f
 refine Za rfl rfl (Zo (v := Value.bool (false)) rfl rfl (Zb (Ze (Zc (Zd (Za rfl rfl (Zw (E := encGState) f A69 rfl rfl rfl n ?_)))))))
 intro af q
 obtain ⟨ad, ae, rfl, u, x⟩ := encGState_val.1 q
 refine Za rfl rfl (Exec.load_box_agg (ds := [b, c, d]) (f) A47 rfl rfl rfl ?_)
 obtain ⟨aa, t, hm⟩ := Zg hm
 refine Za rfl rfl (Tc rfl rfl rfl (Zi rfl (Zi rfl args_nil)) (ground_holds_sim t f u x k l m).r ?_)
 rintro _ ah ⟨y, p, o, rfl⟩
 refine Za rfl rfl (Zo (v := Value.bool (aa)) rfl rfl (Zb (Ze (W_ret ?_))))
 have ac := Zu hm
 subst r
 refine ⟨_, ret1 rfl, ?_⟩
 exact ⟨y, p, (o).drop, rfl⟩
theorem api_Cond__f73_88_sim {w0 w : World} {s : PHeap} {H : List Res} {fu : Nat} {l : (List Cond)} {o : GState} {c : Value} {d i : Nat} {r : Int} (hm : api_Cond__f73_88_p fu l o = some r) (hS : St w0 s (H) w) (m : SliceRep encCond s c l) (ah : At s d i encGState o) :
  Calls Try.prog 88 #[c, Value.func (.func 73) #[] #[Value.pointer (some ⟨d, i, none⟩)]] w fun e w' => ∃ v, e = .returned v ∧ ((fun (aB : Int) => ∃ (ad : PHeap) , PHeap.le s ad ∧ St w0 ad (H) w' ∧ v = Vi (aB)) r) := by
 unfold api_Cond__f73_88_p at hm
 refine calls_of_W Try.func88 rfl rfl (Zc (Zd (Za rfl rfl (Zo (v := Vi (0)) rfl rfl (Zb (Ze (Zc (Zc (Zd (Za rfl rfl (Zm (v := c) rfl rfl (Za rfl rfl (Zr S25 rfl rfl m (Za rfl rfl (Zm (v := Vi (0)) rfl rfl (Zb (Ze ?_)))))))))))))))))
 obtain ⟨p, aj, av, ar, ap⟩ := ctl_some hm
 refine W_mid (M := fun f' w' => ∃ s', (p = .next s' ∨ p = .brk s') ∧ (fun (_ : Unit) => ∃ (ae : PHeap) , PHeap.le s ae ∧ St w0 ae (H) w' ∧ f' 0 = c ∧ f' 1 = Value.func (.func 73) #[] #[Value.pointer (some ⟨d, i, none⟩)] ∧ f' 7 = Vi ((l.length : Int))) s') ?_ ?_
 ·refine W_block (W_forC (fun k' s' f' w' => (fun (_ : Unit) => ∃ (af : PHeap) , PHeap.le s af ∧ St w0 af (H) w' ∧ f' 0 = c ∧ f' 1 = Value.func (.func 73) #[] #[Value.pointer (some ⟨d, i, none⟩)] ∧ f' 7 = Vi ((l.length : Int)) ∧ f' 8 = Vi (k' : Int)) s') aj ?_ ?_ ?_)
  ·exact ⟨s, (Zv _), hS, rfl, rfl, rfl, rfl⟩
  ·intro b aP q aH aW aq ak a aw
   obtain ⟨aO, j, t, z, aa, ab, n⟩ := ak
   refine Zc (Zd (Za rfl rfl (Zq rfl n ab (Zb (Ze (Zc (W_true (Zx (decide_eq_true (by omega))) (W_skip (Ze (Zc (W_block (Zc (Zd (Za rfl rfl (Zm (v := Vi ((b : Int))) rfl n (Za rfl rfl (Zo (v := Vi ((b : Int))) rfl rfl (Zb (Ze (Zc (Zd (Za rfl rfl (Zm (v := Value.func (.func 73) #[] #[Value.pointer (some ⟨d, i, none⟩)]) rfl aa (Za rfl rfl (Zm (v := c) rfl z (Za rfl rfl (Zm (v := Vi ((b : Int))) rfl rfl ?_)))))))))))))))))))))))))))
   obtain ⟨ba, a2, a⟩ := Zg a
   refine Za rfl rfl (Exec.index_rep S25 rfl rfl rfl (m.mono j) a2 ?_)
   intro aC aK ai
   refine Za rfl rfl (Zw (E := encCond) t A47 rfl rfl rfl ai ?_)
   intro aV a3
   obtain ⟨aS, aT, aU, rfl, a5, a6, a7⟩ := encCond_val.1 a3
   obtain ⟨bb, a4, a⟩ := Zg a
   refine Za rfl rfl (Exec.callc rfl rfl Try.func73 rfl N73 (Zi rfl args_nil) rfl ((ground_Goal_c1_sim a4 t a5 a6 a7 (ah.mono j)).mono ?_))
   rintro _ aX ⟨_, rfl, ⟨ag, y, u, rfl⟩⟩
   refine ⟨_, rfl, ?_⟩
   refine Zb (Ze ?_)
   rcases ite_some a with ⟨g, a⟩ | ⟨g, a⟩
   ·refine W_cond_t rfl g (Zc (Zd (Za rfl rfl (Zm (v := Vi ((b : Int))) rfl rfl (Za rfl rfl (Zo (v := Vi ((b : Int))) rfl rfl (Zb (Ze (W_ret (ib_ret (at_ret (at_ret (ib_ret (at_ret (at_ret ?_)))))))))))))))
    have aD := Zu a
    subst q
    have au := av _ (aw (by intro _ h; cases h))
    have aE := Zu au
    subst r
    refine ⟨_, ret1 rfl, ?_⟩
    exact ⟨ag, (Zt j y), u, rfl⟩
   refine W_cond_f rfl g ?_
   replace g := Zk g
   refine W_skip (ib_normal (Ze (Zd (Za rfl rfl (Exec.add rfl n rfl (Za rfl rfl (Zm (v := Vi (IntKind.i64.wrap ((b : Int) + 1))) rfl rfl (Zb (Ze ?_)))))))))
   have aF := Zu a
   subst q
   refine ⟨_, rfl, ?_⟩; exact ⟨ag, (Zt j y), u, z, aa, ab, (Eq.trans rfl (wrap_up aq (SliceRep.le m)))⟩
  intro aQ aI aY al ax
  obtain ⟨a8, ay, an, a0, a1, ac, aA⟩ := al
  refine Zc (Zd (Za rfl rfl (Zq rfl aA ac (Zb (Ze (Zc (W_false (Zx (decide_eq_false (by omega))) (W_exit (at_exit (at_exit (ib_here (Ze ?_))))))))))))
  refine ⟨_, .inl ax, ?_⟩; exact ⟨a8, ay, an, a0, a1, ac⟩
 rintro aJ aZ ⟨aR, x, am⟩
 have hm := x.elim (ar _) (ap _)
 clear x
 obtain ⟨a9, az, ao, aL, aM, aN⟩ := am
 refine (Ze (Zc (Zd (Za rfl rfl (Zo (v := Vi ((-1))) rfl rfl (Zb (Ze (W_ret ?_))))))))
 have aG := Zu hm
 subst r
 refine ⟨_, ret1 rfl, ?_⟩
 exact ⟨a9, az, ao, rfl⟩
theorem api_Cond__f73_sim {w0 w : World} {s : PHeap} {H : List Res} {fu : Nat} {g : (List Cond)} {d : GState} {c : Value} {a b : Nat} {r : Bool} (hm : api_Cond__f73_p fu g d = some r) (hS : St w0 s (H) w) (h : SliceRep encCond s c g) (i : At s a b encGState d) :
  Calls Try.prog 55 #[c, Value.func (.func 73) #[] #[Value.pointer (some ⟨a, b, none⟩)]] w fun e w' => ∃ v, e = .returned v ∧ ((fun (n : Bool) => ∃ (f : PHeap) , PHeap.le s f ∧ St w0 f (H) w' ∧ v = Value.bool (n)) r) := by
 unfold api_Cond__f73_p at hm
 refine calls_of_W Try.func55 rfl rfl (Zc (Zd (Za rfl rfl (Zo (v := Value.bool (false)) rfl rfl (Zb (Ze (Zc (Zd (Za rfl rfl (Zm (v := c) rfl rfl (Za rfl rfl (Zm (v := Value.func (.func 73) #[] #[Value.pointer (some ⟨a, b, none⟩)]) rfl rfl ?_))))))))))))
 obtain ⟨o, l, hm⟩ := Zg hm
 refine Za rfl rfl (Tc rfl rfl rfl (Zi rfl (Zi rfl args_nil)) (api_Cond__f73_88_sim l hS h i).r ?_)
 rintro _ q ⟨m, k, j, rfl⟩
 refine Za rfl rfl (Exec.geq rfl rfl rfl (Za rfl rfl (Zo (v := Value.bool (decide (0 ≤ o))) rfl rfl (Zb (Ze (W_ret ?_))))))
 have p := Zu hm
 subst r
 refine ⟨_, ret1 rfl, ?_⟩
 exact ⟨m, k, j, rfl⟩
theorem ground_Goal_sim {w0 w : World} {s : PHeap} {H : List Res} {fu : Nat} {g : Ground} {t : GState} {j : Value} {k : Value} {l : Value} {m : Value} {n : Value} {o : Value} {p : Value} {r : Bool} (hm : ground_Goal_p fu g t = some r) (hS : St w0 s (H) w) (z : SliceRep encAtom s j g.Atoms) (aa : SliceRep encGFluent s k g.Fluents) (ab : SliceRep (encInt .i64) s l g.Init) (u : SliceRep encCond s m g.Goal) (ac : SliceRep encGOp s n g.Ops) (ad : SliceRep (encInt .i64) s o t.True) (ae : SliceRep (encInt .i64) s p t.Values) :
  Calls Try.prog 28 #[Value.agg #[j, k, l, m, n], Value.agg #[o, p]] w fun e w' => ∃ v, e = .returned v ∧ ((fun (a1 : Bool) => ∃ (ah : PHeap) , PHeap.le s ah ∧ St w0 ah (H) w' ∧ v = Value.bool (a1)) r) := by
 unfold ground_Goal_p at hm
 refine calls_of_W Try.func28 rfl rfl (Zc (Zd (Za rfl rfl (Exec.box (cs := [j, k, l, m, n]) hS rfl rfl rfl ?_))))
 intro a3 aB ak
 refine Za rfl rfl (Exec.box (cs := [o, p]) ak rfl rfl rfl ?_)
 intro a4 aC af
 refine Za rfl rfl (Zo (v := Value.bool (false)) rfl rfl (Zb (Ze (Zc ?_))))
 obtain ⟨h, a, hm⟩ := Zg hm
 refine W_mid (M := fun f' w' => (fun (h : Bool) => ∃ (ai : PHeap) , PHeap.le s ai ∧ St w0 ai (H) w' ∧ f' 4 = Value.bool (h)) h) ?_ ?_
 ·refine Zd (Za rfl rfl (Exec.load_box_agg (ds := [j, k, l, m, n]) ((af).f1) A28 rfl rfl rfl ?_))
  obtain ⟨a2, ar, a⟩ := Zg a
  refine Za rfl rfl (Tc rfl rfl rfl (Zi rfl args_nil) (ground_Valid_sim ar af z aa ab u ac).r ?_)
  rintro _ aD ⟨ax, b, q, rfl⟩
  refine Za rfl rfl (Zm (v := Value.bool (a2)) rfl rfl ?_)
  rcases ite_some a with ⟨d, a⟩ | ⟨d, a⟩
  ·refine WL_run rfl (Zf rfl (Zx d)) rfl (Exec.load_box_agg (ds := [j, k, l, m, n]) ((q).f1) A28 rfl rfl rfl (WL_run rfl (Zf rfl (Zx d)) rfl (Exec.load_box_agg (ds := [o, p]) (q) A69 rfl rfl rfl ?_)))
   obtain ⟨aH, au, a⟩ := Zg a
   refine WL_run rfl (Zf rfl (Zx d)) rfl (Tc rfl rfl rfl (Zi rfl (Zi rfl args_nil)) (ground_proper_sim au q (z.mono b) (aa.mono b) (ab.mono b) (u.mono b) (ac.mono b) (ad.mono b) (ae.mono b)).r ?_)
   rintro _ aE ⟨ay, i, x, rfl⟩
   refine WL_passes 2 (by rw [d]; rfl) ?_
   rcases ite_some a with ⟨c, a⟩ | ⟨c, a⟩
   ·refine WL_run rfl (Zf rfl (Zx c)) rfl (Zp F28_3 rfl rfl rfl (WL_run rfl (Zf rfl (Zx c)) rfl (Zn ((x).f1) A25 rfl rfl rfl ?_)))
    obtain ⟨aA, ag, al, aw⟩ := St.freezeVar (E := encGState) (y := t) x ⟨[o], [p], rfl, ⟨_, rfl, (ad.mono (Zt b i))⟩, ⟨_, rfl, (ae.mono (Zt b i))⟩⟩
    refine WL_run rfl (Zf rfl (Zx c)) rfl (Exec.makeFunc rfl (Zi rfl args_nil) ?_)
    obtain ⟨aI, av, a⟩ := Zg a
    refine WL_run rfl (Zf rfl (Zx c)) rfl (Tc rfl rfl rfl (Zi rfl (Zi rfl args_nil)) (api_Cond__f73_sim av al (u.mono (Zt (Zt b i) ag)) aw).r ?_)
    rintro _ aF ⟨az, ao, am, rfl⟩
    refine WL_passes 2 (by rw [c]; rfl) ?_
    refine Zb (Ze ?_)
    have a5 := Zu a
    subst h
    exact ⟨az, (Zt (Zt (Zt b i) ag) ao), (am).drop, rfl⟩
   replace c := Zk c
   refine WL_passes 6 (by rw [c]; rfl) ?_
   refine Zb (Ze ?_)
   have a6 := Zu a
   subst h
   exact ⟨ay, (Zt b i), ((x).drop).drop, rfl⟩
  replace d := Zk d
  refine WL_passes 11 (by rw [d]; rfl) ?_
  refine Zb (Ze ?_)
  have a7 := Zu a
  subst h
  exact ⟨ax, b, ((q).drop).drop, rfl⟩
 intro a9 aG aj
 obtain ⟨a0, ap, an, aq⟩ := aj
 refine (Ze (W_ret ?_))
 have a8 := Zu hm
 subst r
 refine ⟨_, ret1 rfl, ?_⟩
 exact ⟨a0, ap, an, aq⟩
end Go.Pw
