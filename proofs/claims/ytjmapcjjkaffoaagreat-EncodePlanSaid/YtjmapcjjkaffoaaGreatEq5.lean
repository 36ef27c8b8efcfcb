/-
  The walks (printed by my generator).
-/
import Derived.Test.YtjmapcjjkaffoaaGreatL29
import Derived.Test.YtjmapcjjkaffoaaGreatL27
import Derived.Test.YtjmapcjjkaffoaaGreatEq4
set_option maxRecDepth 100000
set_option maxHeartbeats 4000000
set_option linter.unusedVariables false
namespace Go.Pw
open Go.Proofs
theorem encode_State_sim {w0 w : World} {s : PHeap} {H : List Res} {fu : Nat} {ah : Ground} {d : Encoding} {ak : GState} {j : Value} {l : Value} {m : Value} {n : Value} {o : Value} {aa : Value} {ab : Value} {ac : Value} {ad : Value} {ae : Value} {x : Value} {af : Value} {c : Value} {y : Value} {r : (List Int) × (Option Int)} (hm : encode_State_p fu ah d ak = some r) (hS : St w0 s (H) w) (a6 : SliceRep encAtom s j ah.Atoms) (a7 : SliceRep encGFluent s l ah.Fluents) (a8 : SliceRep (encInt .i64) s m ah.Init) (a9 : SliceRep encCond s n ah.Goal) (aA : SliceRep encGOp s o ah.Ops) (aB : SliceRep (encInt .i64) s aa d.Task.Vars) (bb : SliceRep (encInt .i64) s ab d.Task.Init) (bc : SliceRep encFact s ac d.Task.Goal) (bd : SliceRep encOp s ad d.Task.Ops) (aC : SliceRep encFact s ae d.Atoms) (ar : SliceRep (encInt .i64) s x d.Fluents) (be : SliceRep (encInt .i64) s af d.Ops) (am : SliceRep (encInt .i64) s c ak.True) (bf : SliceRep (encInt .i64) s y ak.Values) :
  Calls Tryz.prog 17 #[Value.agg #[j, l, m, n, o], Value.agg #[aa, ab, ac, ad, ae, x, af], Value.agg #[c, y]] w fun e w' => ∃ v, e = .returned v ∧ ((un2 fun (cv : (List Int)) (cw : (Option Int)) => ∃ (a2 : PHeap) (aZ : Value), PHeap.le s a2 ∧ St w0 a2 (H) w' ∧ v = Value.tuple #[aZ, errV 44 (cw)] ∧ SliceRep (encInt .i64) a2 aZ cv) r) := by
 unfold encode_State_p at hm
 refine calls_of_W Tryz.func17 rfl rfl (Zc (Zd (Za rfl rfl (Exec.box (cs := [j, l, m, n, o]) hS rfl rfl rfl ?_))))
 intro p dg bs
 refine Za rfl rfl (Exec.box (cs := [aa, ab, ac, ad, ae, x, af]) bs rfl rfl rfl ?_)
 intro ag dh bt
 refine Za rfl rfl (Exec.box (cs := [c, y]) bt rfl rfl rfl ?_)
 intro q di au
 refine Za rfl rfl (Zo (v := Value.slice none 0 0) rfl rfl (Za rfl rfl (Zo (v := errV 44 (none)) rfl rfl (Zb (Ze (Zc (Zc ?_)))))))
 obtain ⟨al, h, hm⟩ := Zg hm
 refine W_mid (M := fun f' w' => (fun (al : Bool) => ∃ (aU : PHeap) , PHeap.le s aU ∧ St w0 aU (Res.box p 28 [j, l, m, n, o] :: Res.box ag 36 [aa, ab, ac, ad, ae, x, af] :: Res.box q 58 [c, y] :: H) w' ∧ f' 3 = Value.pointer (some ⟨p, 0, none⟩) ∧ f' 4 = Value.pointer (some ⟨ag, 0, none⟩) ∧ f' 5 = Value.pointer (some ⟨q, 0, none⟩) ∧ f' 24 = Value.bool (al)) al) ?_ ?_
 ·refine Zd (Za rfl rfl (Exec.load_box_agg (ds := [j, l, m, n, o]) ((au).f2) A28 rfl rfl rfl (Za rfl rfl (Exec.load_box_agg (ds := [aa, ab, ac, ad, ae, x, af]) ((au).f1) A36 rfl rfl rfl ?_))))
  obtain ⟨cx, bW, h⟩ := Zg h
  refine Za rfl rfl (Tc rfl rfl rfl (Zi rfl (Zi rfl args_nil)) (encode_fits_sim bW au a6 a7 a8 a9 aA aB bb bc bd aC ar be).r ?_)
  rintro _ dj ⟨cj, i, an, rfl⟩
  refine Za rfl rfl (Exec.not rfl rfl (Za rfl rfl (Zm (v := Value.bool (!cx)) rfl rfl ?_)))
  rcases ite_some h with ⟨g, h⟩ | ⟨g, h⟩
  ·refine WL_passes 5 (by rw [g]; rfl) ?_
   refine Zb (Ze ?_)
   have c4 := Zu h
   subst al
   exact ⟨cj, i, ((an).f1).f2, rfl, rfl, rfl, rfl⟩
  replace g := Zk g
  refine WL_run rfl (Zf rfl (Zx g)) rfl (Exec.load_box_agg (ds := [j, l, m, n, o]) ((an).f2) A28 rfl rfl rfl (WL_run rfl (Zf rfl (Zx g)) rfl (Exec.load_box_agg (ds := [c, y]) (an) A58 rfl rfl rfl ?_)))
  obtain ⟨cy, bX, h⟩ := Zg h
  refine WL_run rfl (Zf rfl (Zx g)) rfl (Tc rfl rfl rfl (Zi rfl (Zi rfl args_nil)) (encode_proper_sim bX an (a6.mono i) (a7.mono i) (a8.mono i) (a9.mono i) (aA.mono i) (am.mono i) (bf.mono i)).r ?_)
  rintro _ dk ⟨ck, bA, bu, rfl⟩
  refine WL_run rfl (Zf rfl (Zx g)) rfl (Exec.not rfl rfl (Za rfl rfl (Exec.pick_f (v := Value.bool (!cy)) rfl (Zx g) rfl (Zb (Ze ?_)))))
  have c5 := Zu h
  subst al
  exact ⟨ck, (Zt i bA), ((bu).f1).f2, rfl, rfl, rfl, rfl⟩
 intro c8 dl bq
 obtain ⟨a3, u, aF, bF, aM, aN, aO⟩ := bq
 refine (Ze ?_)
 rcases ite_some hm with ⟨ai, hm⟩ | ⟨ai, hm⟩
 ·refine W_cond_t aO ai (Zc ?_)
  cases hm
 refine W_cond_f aO ai ?_
 replace ai := Zk ai
 refine W_skip (Ze (Zc (Zd (Za rfl rfl (Zp F36_0 rfl aM rfl (Za rfl rfl (Zp F34_0 rfl rfl rfl (Za rfl rfl (Zn ((aF).f1) A24 rfl rfl rfl (Za rfl rfl (Zr S24 rfl rfl (aB.mono u) ?_)))))))))))
 obtain ⟨cI, bY, hm⟩ := Zg hm
 refine Za rfl rfl (Exec.make (E := (encInt .i64)) aF S24 Z3 rfl rfl rfl rfl bY ?_)
 intro b dm bv
 refine Za rfl rfl (Exec.make_bmap (k := 3) (e := 4) bv rfl ?_)
 intro t dn aG
 refine Za rfl rfl (Zo (v := b) rfl rfl (Za rfl rfl (Zo (v := Value.map (some t)) rfl rfl (Zb (Ze (Zc (Zc (Zd (Za rfl rfl (Zp F58_0 rfl aN rfl (Za rfl rfl (Zn ((aG).f4) A24 rfl rfl rfl (Za rfl rfl (Zr S24 rfl rfl (am.mono u) (Za rfl rfl (Zm (v := Vi (0)) rfl rfl (Zb (Ze ?_))))))))))))))))))
 obtain ⟨aD, bk, cG, b7, b5⟩ := ctl_some hm
 refine W_mid (M := fun f' w' => ∃ s', (aD = .next s' ∨ aD = .brk s') ∧ (un2 fun (aw : (List Int)) (aL : BMap) => ∃ (aV : PHeap) , PHeap.le a3 aV ∧ St w0 aV (Res.box p 28 [j, l, m, n, o] :: Res.box ag 36 [aa, ab, ac, ad, ae, x, af] :: Res.box q 58 [c, y] :: Res.arr (encInt .i64) 3 b aw :: Res.bmap Tryz.prog 3 4 t aL :: H) w' ∧ f' 3 = Value.pointer (some ⟨p, 0, none⟩) ∧ f' 4 = Value.pointer (some ⟨ag, 0, none⟩) ∧ f' 5 = Value.pointer (some ⟨q, 0, none⟩) ∧ f' 8 = b ∧ f' 9 = Value.map (some t) ∧ f' 33 = c ∧ f' 34 = Vi ((ak.True.length : Int))) s') ?_ ?_
 ·refine W_block (W_forC (fun k' s' f' w' => (un2 fun (ax : (List Int)) (ay : BMap) => ∃ (aW : PHeap) , PHeap.le a3 aW ∧ St w0 aW (Res.box p 28 [j, l, m, n, o] :: Res.box ag 36 [aa, ab, ac, ad, ae, x, af] :: Res.box q 58 [c, y] :: Res.arr (encInt .i64) 3 b ax :: Res.bmap Tryz.prog 3 4 t ay :: H) w' ∧ f' 3 = Value.pointer (some ⟨p, 0, none⟩) ∧ f' 4 = Value.pointer (some ⟨ag, 0, none⟩) ∧ f' 5 = Value.pointer (some ⟨q, 0, none⟩) ∧ f' 8 = b ∧ f' 9 = Value.map (some t) ∧ f' 33 = c ∧ f' 34 = Vi ((ak.True.length : Int)) ∧ f' 35 = Vi (k' : Int)) s') bk ?_ ?_ ?_)
  ·have bw := (aG).f1
   exact ⟨a3, (Zv _), (((bw).f4).f4).f4, bF, aM, aN, rfl, rfl, rfl, rfl, rfl⟩
  ·intro b9 co bj c9 dp b6 bm a cH
   obtain ⟨ax, ay⟩ := co
   replace a := un2_eq a
   obtain ⟨cl, az, ao, bG, aP, bH, aQ, ap, aR, aS, a4⟩ := bm
   refine Zc (Zd (Za rfl rfl (Zq rfl a4 aS (Zb (Ze (Zc (W_true (Zx (decide_eq_true (by omega))) (W_skip (Ze (Zc (W_block (Zc (Zd ?_)))))))))))))
   obtain ⟨ba, bZ, a⟩ := Zg a
   refine Za rfl rfl (Exec.index_rep S24 rfl aR a4 (am.mono (Zt u az)) bZ ?_)
   intro cz cL bg
   refine Za rfl rfl (Zw (E := (encInt .i64)) ao A3 rfl rfl rfl bg ?_)
   intro dd ca
   obtain rfl := encInt_val.1 ca
   refine Za rfl rfl (Zo (v := Vi (ba)) rfl rfl (Zb (Ze (Zc (Zd (Za rfl rfl (Zp F36_1 rfl aP rfl (Za rfl rfl (Zn ((ao).f1) A31 rfl rfl rfl (Za rfl rfl (Zm (v := Vi (ba)) rfl rfl ?_)))))))))))
   obtain ⟨aq, cb, a⟩ := Zg a
   refine Za rfl rfl (Exec.index_rep S31 rfl rfl rfl (aC.mono (Zt u az)) cb ?_)
   intro c0 cM bh
   refine Za rfl rfl (Zw (E := encFact) ao A46 rfl rfl rfl bh ?_)
   intro de cc
   obtain rfl := encFact_val.1 cc
   refine Za rfl rfl (Exec.alloc (cs := [Vi (0), Vi (0)]) ao Z46 rfl rfl ?_)
   intro c1 dq bx
   refine Za rfl rfl (Exec.store_box (ds := [Vi (aq.Var), Vi (aq.Val)]) (es := [Vi (aq.Var), Vi (aq.Val)]) bx A46 rfl rfl rfl rfl (Zj rfl (Zj rfl one_nil)) (Nat.le_of_ble_eq_true rfl) rfl ?_)
   intro dr z
   refine Zb (Ze (Zc (Zc (Zd (Za rfl rfl (Zm (v := Value.map (some t)) rfl ap (Za rfl rfl (Zp F46_0 rfl rfl rfl (Za rfl rfl (Zn (z) A3 rfl rfl rfl ?_))))))))))
   obtain ⟨cX, cd, a⟩ := Zg a
   refine Za rfl rfl (Exec.bmap_get ((z).f5) ⟨Tryz.underlying107, Tryz.underlying3, Tryz.underlying4⟩ Z4 rfl rfl rfl cd (Zb (Ze ?_)))
   rcases ite_some a with ⟨aj, a⟩ | ⟨aj, a⟩
   ·refine W_cond_t rfl aj (Zc ?_)
    cases a
   refine W_cond_f rfl aj ?_
   replace aj := Zk aj
   refine W_skip (Ze (W_dl (n0 := 10) (qs 0 9 (.e 9 [3, 4, 5] .done)) hmix (by kernel_rfl) (by kernel_rfl) (DL_q rfl rfl (Zm (v := b) rfl aQ ⟨rfl, ?_⟩))))
   refine DL_q rfl rfl (Zp F46_0 rfl rfl rfl ⟨rfl, ?_⟩)
   refine DL_q rfl rfl (Zn (z.drew) A3 rfl rfl rfl ⟨rfl, ?_⟩)
   refine DL_q rfl rfl (Zm (v := Value.map (some t)) rfl ap ⟨rfl, ?_⟩)
   refine DL_q rfl rfl (Zp F46_0 rfl rfl rfl ⟨rfl, ?_⟩)
   refine DL_q rfl rfl (Zn (z.drew) A3 rfl rfl rfl ⟨rfl, ?_⟩)
   refine DL_q rfl rfl (Zp F46_1 rfl rfl rfl ⟨rfl, ?_⟩)
   refine DL_q rfl rfl (Zn (z.drew) A3 rfl rfl rfl ⟨rfl, ?_⟩)
   obtain ⟨dz, a1, a⟩ := Zg a
   obtain ⟨cE, c3, aE⟩ := ((z.drew).f4).arr_at a1
   refine DL_q rfl rfl (Exec.index_slice S24 rfl aE rfl (idx_some a1).1 (idx_some a1).2.1 ⟨rfl, ?_⟩)
   obtain ⟨cJ, ce, a⟩ := Zg a
   refine DL_e rfl rfl (Exec.store_arr (z.drew).f4 aE A3 rfl rfl rfl rfl (encInt_val.2 rfl) ce ?_)
   intro dt aH
   refine ⟨(ag_cons (ag_r rfl rfl (Zm (v := Value.map (some t)) rfl ap ⟨rfl, rfl⟩)) (ag_cons (ag_r rfl rfl (Zp F46_0 rfl rfl rfl ⟨rfl, rfl⟩)) (ag_cons (ag_r rfl rfl (Zn ((aH).f1) A3 rfl rfl rfl ⟨rfl, rfl⟩)) ag_nil))), ?_⟩
   refine DL_done ?_
   obtain ⟨cK, cf, a⟩ := Zg a
   refine Za rfl rfl (Exec.bmap_put (aH).f5 ⟨Tryz.underlying107, Tryz.underlying3, Tryz.underlying4⟩ rfl rfl rfl rfl cf ?_)
   intro du bz
   refine Zb (ib_normal (Ze (Zd (Za rfl rfl (Exec.add rfl a4 rfl (Za rfl rfl (Zm (v := Vi (IntKind.i64.wrap ((b9 : Int) + 1))) rfl rfl (Zb (Ze ?_)))))))))
   have c6 := Zu a
   subst bj
   refine ⟨_, rfl, ?_⟩; exact ⟨cl, az, ((((((bz).f2).drop).f1).f4).f4).f4, bG, aP, bH, aQ, ap, aR, aS, (Eq.trans rfl (wrap_up b6 (SliceRep.le (am.mono u))))⟩
  intro cp cA dv bn b8
  obtain ⟨ax, ay⟩ := cp
  obtain ⟨cm, bB, b0, bI, bJ, bK, bL, bM, bN, aT, cr⟩ := bn
  refine Zc (Zd (Za rfl rfl (Zq rfl cr aT (Zb (Ze (Zc (W_false (Zx (decide_eq_false (by omega))) (W_exit (at_exit (at_exit (ib_here (Ze ?_))))))))))))
  refine ⟨_, .inl b8, ?_⟩; exact ⟨cm, bB, (((((b0).f4).f4).f4).f4).f4, bI, bJ, bK, bL, bM, bN, aT⟩
 rintro cB dw ⟨cq, aJ, br⟩
 have hm := aJ.elim (b7 _) (b5 _)
 clear aJ
 obtain ⟨aw, aL⟩ := cq
 replace hm := un2_eq hm
 obtain ⟨aX, a0, aI, bO, bP, bQ, bR, cO, cP, cQ⟩ := br
 refine (Ze (Zc (Zc (Zd (Za rfl rfl (Zp F36_2 rfl bP rfl (Za rfl rfl (Zn ((aI).f1) A24 rfl rfl rfl (Za rfl rfl (Zr S24 rfl rfl (ar.mono (Zt u a0)) (Za rfl rfl (Zm (v := Vi (0)) rfl rfl (Zb (Ze ?_))))))))))))))
 obtain ⟨db, bl, hm⟩ := Zg hm
 refine W_block (W_forS (fun k' s' f' w' => (fun (_ : Unit) => ∃ (aY : PHeap) , PHeap.le aX aY ∧ St w0 aY (Res.box p 28 [j, l, m, n, o] :: Res.box q 58 [c, y] :: Res.arr (encInt .i64) 3 b aw :: H) w' ∧ f' 3 = Value.pointer (some ⟨p, 0, none⟩) ∧ f' 5 = Value.pointer (some ⟨q, 0, none⟩) ∧ f' 8 = b ∧ f' 60 = x ∧ f' 61 = Vi ((d.Fluents.length : Int)) ∧ f' 62 = Vi (k' : Int)) s') bl ?_ ?_ ?_)
 ·have b1 := ((aI).f1).drop
  exact ⟨aX, (Zv _), (((((b1).f3).drop).f2).f2).f2, bO, bQ, bR, rfl, rfl, rfl⟩
 ·intro aK dc cY cC dx cF bo av
  obtain ⟨cZ, bC, b2, cR, cS, cT, bS, bT, a5⟩ := bo
  refine Zc (Zd (Za rfl rfl (Zq rfl a5 bT (Zb (Ze (Zc (W_true (Zx (decide_eq_true (by omega))) (W_skip (Ze (Zc (W_block (Zc (Zd (Za rfl rfl (Zm (v := Vi ((aK : Int))) rfl a5 ?_)))))))))))))))
  obtain ⟨ct, cg, av⟩ := Zg av
  refine Za rfl rfl (Exec.index_rep S24 rfl bS a5 (ar.mono (Zt (Zt u a0) bC)) cg ?_)
  intro c2 cN bi
  refine Za rfl rfl (Zw (E := (encInt .i64)) b2 A3 rfl rfl rfl bi ?_)
  intro df ch
  obtain rfl := encInt_val.1 ch
  refine Za rfl rfl (Zo (v := Vi ((aK : Int))) rfl rfl (Za rfl rfl (Zo (v := Vi (ct)) rfl rfl (Zb (Ze ?_)))))
  cases av
 intro cD dy bp
 obtain ⟨da, bD, b3, cU, cV, bU, cW, bV, cu⟩ := bp
 refine Zc (Zd (Za rfl rfl (Zq rfl cu bV (Zb (Ze (Zc (W_false (Zx (decide_eq_false (by omega))) (W_exit (at_exit (at_exit (ib_here (Ze (Zc (Zd (Za rfl rfl (Zm (v := b) rfl bU (Za rfl rfl (Zo (v := b) rfl rfl (Za rfl rfl (Zo (v := errV 44 (none)) rfl rfl (Zb (Ze (W_ret ?_)))))))))))))))))))))))
 have c7 := Zu hm
 subst r
 refine ⟨_, ret2 rfl, ?_⟩
 obtain ⟨cn, bE, b4, ci⟩ := (b3).f2.freezeArr
 exact ⟨cn, b, (Zt (Zt (Zt u a0) bD) bE), ((b4).drop).drop, (tup2 rfl rfl), ci⟩
theorem base_Ints_sim {w0 w : World} {s : PHeap} {H : List Res} {j : (List Int)} {q : (List Int)} {b : Value} {c : Value} {r : Bool} (hm : base_Ints_p j q = some r) (hS : St w0 s (H) w) (l : SliceRep (encInt .i64) s b j) (p : SliceRep (encInt .i64) s c q) :
  Calls Tryz.prog 13 #[b, c] w fun e w' => ∃ v, e = .returned v ∧ ((fun (a8 : Bool) => ∃ (ac : PHeap) , PHeap.le s ac ∧ St w0 ac (H) w' ∧ v = Value.bool (a8)) r) := by
 unfold base_Ints_p at hm
 refine calls_of_W Tryz.func13 rfl rfl (Zc (Zd (Za rfl rfl (Zo (v := Value.bool (false)) rfl rfl (Zb (Ze (Zc (Zc (Zd (Za rfl rfl (Zm (v := b) rfl rfl (Za rfl rfl (Zr S24 rfl rfl l (Za rfl rfl (Zm (v := c) rfl rfl (Za rfl rfl (Zr S24 rfl rfl p (Za rfl rfl (Exec.neq rfl rfl rfl (Zb (Ze ?_)))))))))))))))))))))
 rcases ite_some hm with ⟨d, hm⟩ | ⟨d, hm⟩
 ·refine W_cond_t rfl d (Zc (Zd (Za rfl rfl (Zo (v := Value.bool (false)) rfl rfl (Zb (Ze (W_ret (at_ret ?_))))))))
  have aB := Zu hm
  subst r
  refine ⟨_, ret1 rfl, ?_⟩
  exact ⟨s, (Zv _), hS, rfl⟩
 refine W_cond_f rfl d ?_
 replace d := Zk d
 refine W_skip (Ze (Zc (Zc (Zd (Za rfl rfl (Zm (v := b) rfl rfl (Za rfl rfl (Zr S24 rfl rfl l (Za rfl rfl (Zm (v := Vi (0)) rfl rfl (Zb (Ze ?_))))))))))))
 obtain ⟨t, ai, au, aq, ao⟩ := ctl_some hm
 refine W_mid (M := fun f' w' => ∃ s', (t = .next s' ∨ t = .brk s') ∧ (fun (_ : Unit) => ∃ (ad : PHeap) , PHeap.le s ad ∧ St w0 ad (H) w' ∧ f' 0 = b ∧ f' 1 = c ∧ f' 12 = Vi ((j.length : Int))) s') ?_ ?_
 ·refine W_block (W_forC (fun k' s' f' w' => (fun (_ : Unit) => ∃ (ae : PHeap) , PHeap.le s ae ∧ St w0 ae (H) w' ∧ f' 0 = b ∧ f' 1 = c ∧ f' 12 = Vi ((j.length : Int)) ∧ f' 13 = Vi (k' : Int)) s') ai ?_ ?_ ?_)
  ·exact ⟨s, (Zv _), hS, rfl, rfl, rfl, rfl⟩
  ·intro i aQ u aI aV ap aj a av
   obtain ⟨af, n, m, y, z, aa, o⟩ := aj
   refine Zc (Zd (Za rfl rfl (Zq rfl o aa (Zb (Ze (Zc (W_true (Zx (decide_eq_true (by omega))) (W_skip (Ze (Zc (W_block (Zc (Zd (Za rfl rfl (Zm (v := Vi ((i : Int))) rfl o (Za rfl rfl (Zo (v := Vi ((i : Int))) rfl rfl (Zb (Ze (Zc (W_dl (n0 := 9) (qs 0 9 .done) hmix (by kernel_rfl) (by kernel_rfl) (DL_q rfl rfl (Zm (v := b) rfl y ⟨rfl, ?_⟩)))))))))))))))))))))))
   refine DL_q rfl rfl (Zm (v := Vi ((i : Int))) rfl rfl ⟨rfl, ?_⟩)
   obtain ⟨aY, a1, a⟩ := Zg a
   refine DL_q rfl rfl (Exec.index_repE S24 rfl rfl rfl (l.mono n) a1 ?_)
   intro a9 aL ag aC
   refine ⟨rfl, ?_⟩
   refine DL_q rfl rfl (Zw (E := (encInt .i64)) m.drew A3 rfl rfl rfl ag ?_)
   intro aT a2
   obtain rfl := encInt_val.1 a2
   refine ⟨rfl, ?_⟩
   refine DL_q rfl rfl (Zm (v := c) rfl z ⟨rfl, ?_⟩)
   refine DL_q rfl rfl (Zm (v := Vi ((i : Int))) rfl rfl ⟨rfl, ?_⟩)
   obtain ⟨aZ, a3, a⟩ := Zg a
   refine DL_q rfl rfl (Exec.index_repE S24 rfl rfl rfl (p.mono n) a3 ?_)
   intro aA aM ah aD
   refine ⟨rfl, ?_⟩
   refine DL_q rfl rfl (Zw (E := (encInt .i64)) m.drew A3 rfl rfl rfl ah ?_)
   intro aU a4
   obtain rfl := encInt_val.1 a4
   refine ⟨rfl, ?_⟩
   refine DL_q rfl rfl (Exec.neq rfl rfl rfl ⟨rfl, ?_⟩)
   refine DL_done (Zb (Ze ?_))
   rcases ite_some a with ⟨g, a⟩ | ⟨g, a⟩
   ·refine W_cond_t rfl g (Zc (Zd (Za rfl rfl (Zo (v := Value.bool (false)) rfl rfl (Zb (Ze (W_ret (ib_ret (at_ret (at_ret (ib_ret (at_ret (at_ret ?_)))))))))))))
    have aE := Zu a
    subst u
    have ar := au _ (av (by intro _ h; cases h))
    have aF := Zu ar
    subst r
    refine ⟨_, ret1 rfl, ?_⟩
    exact ⟨af, n, m.drew, rfl⟩
   refine W_cond_f rfl g ?_
   replace g := Zk g
   refine W_skip (ib_normal (Ze (Zd (Za rfl rfl (Exec.add rfl o rfl (Za rfl rfl (Zm (v := Vi (IntKind.i64.wrap ((i : Int) + 1))) rfl rfl (Zb (Ze ?_)))))))))
   have aG := Zu a
   subst u
   refine ⟨_, rfl, ?_⟩; exact ⟨af, n, m.drew, y, z, aa, (Eq.trans rfl (wrap_up ap (SliceRep.le l)))⟩
  intro aR aJ aW ak aw
  obtain ⟨a5, ax, am, az, a0, ab, a7⟩ := ak
  refine Zc (Zd (Za rfl rfl (Zq rfl a7 ab (Zb (Ze (Zc (W_false (Zx (decide_eq_false (by omega))) (W_exit (at_exit (at_exit (ib_here (Ze ?_))))))))))))
  refine ⟨_, .inl aw, ?_⟩; exact ⟨a5, ax, am, az, a0, ab⟩
 rintro aK aX ⟨aS, x, al⟩
 have hm := x.elim (aq _) (ao _)
 clear x
 obtain ⟨a6, ay, an, aN, aO, aP⟩ := al
 refine (Ze (Zc (Zd (Za rfl rfl (Zo (v := Value.bool (true)) rfl rfl (Zb (Ze (W_ret ?_))))))))
 have aH := Zu hm
 subst r
 refine ⟨_, ret1 rfl, ?_⟩
 exact ⟨a6, ay, an, rfl⟩
theorem law21_awake_sim {w0 w : World} {s : PHeap} {H : List Res} {fu : Nat}  {r : Bool} (hm : law21_awake_p fu = some r) (hS : St w0 s (H) w)  :
  Calls Tryz.prog 6 #[] w fun e w' => ∃ v, e = .returned v ∧ ((fun (y12 : Bool) => ∃ (aI : PHeap) , PHeap.le s aI ∧ St w0 aI (H) w' ∧ v = Value.bool (y12)) r) := by
 unfold law21_awake_p at hm
 refine calls_of_W Tryz.func6 rfl rfl (Zc (Zd (Za rfl rfl (Zo (v := Value.bool (false)) rfl rfl (Zb (Ze (Zc (Zd (Za rfl rfl (Tc rfl rfl rfl args_nil (law21_sample_sim law21_sample_tot hS ).r ?_))))))))))
 rintro _ cV ⟨c5, cD, cE, cF, cG, cH, aD, aV, rfl, b7, b8, b9, bA, bB⟩
 refine Za rfl rfl (Exec.buildSlice (Te := 3) (cs := [Vi (0), Vi (1)]) aV rfl (parts_cons (c := [Vi (0)]) (cells_of rfl rfl) (parts_cons (c := [Vi (1)]) (cells_of rfl rfl) parts_nil)) (fun _ => by kernel_rfl) ?_)
 intro a0 cW aW
 have aX := St.boxArr (E := (encInt .i64)) (xs := [0, 1]) aW ⟨[Vi (0)], [Vi (1)], rfl, rfl, ⟨[Vi (1)], [], rfl, rfl, rfl⟩⟩ (by simp [maxLen])
 obtain ⟨c6, ag, aY, bC⟩ := aX.freezeArr
 refine Za rfl rfl (Exec.buildSlice (Te := 24) (cs := [Value.slice (some ⟨a0, 0, none⟩) 2 2]) aY rfl (parts_cons (c := [Value.slice (some ⟨a0, 0, none⟩) 2 2]) (cells_of rfl rfl) parts_nil) (fun _ => by kernel_rfl) ?_)
 intro cg cX aZ
 have ba := St.boxArr (E := (encSlice (encInt .i64))) (xs := [[0, 1]]) aZ ⟨[Value.slice (some ⟨a0, 0, none⟩) 2 2], [], rfl, ⟨_, rfl, bC⟩, rfl⟩ (by simp [maxLen])
 obtain ⟨c7, ah, bb, bD⟩ := ba.freezeArr
 obtain ⟨bY, bw, hm⟩ := Zg hm
 obtain ⟨ap, ce⟩ := bY
 replace hm := un2_eq hm
 refine Za rfl rfl (Tc rfl rfl rfl (Zi rfl (Zi rfl args_nil)) (encode_Encode_sim bw bb (b7.mono (Zt ag ah)) (b8.mono (Zt ag ah)) (b9.mono (Zt ag ah)) (bA.mono (Zt ag ah)) (bB.mono (Zt ag ah)) bD).r ?_)
 rintro _ cY ⟨aj, l, m, n, o, p, t, u, aE, bc, rfl, ao, a2, a3, ak, aw, a4, a5⟩
 refine Za rfl rfl (Zm (v := Value.tuple #[Value.agg #[l, m, n, o, p, t, u], errV 44 (ap)]) rfl rfl (Za rfl rfl (Exec.extract (v := Value.agg #[l, m, n, o, p, t, u]) rfl rfl rfl (Za rfl rfl (Exec.extract (v := errV 44 (ap)) rfl rfl rfl (Za rfl rfl (Exec.alloc (cs := [Value.slice none 0 0, Value.slice none 0 0, Value.slice none 0 0, Value.slice none 0 0, Value.slice none 0 0, Value.slice none 0 0, Value.slice none 0 0]) bc Z36 rfl rfl ?_)))))))
 intro aq cZ bd
 refine Za rfl rfl (Exec.store_box (ds := [l, m, n, o, p, t, u]) (es := [l, m, n, o, p, t, u]) bd A36 rfl rfl rfl rfl (Zj (ao).one (Zj (a2).one (Zj (a3).one (Zj (ak).one (Zj (aw).one (Zj (a4).one (Zj (a5).one one_nil))))))) (Nat.le_of_ble_eq_true rfl) rfl ?_)
 intro da h
 refine Za rfl rfl (Zo (v := errV 44 (ap)) rfl rfl (Zb (Ze (Zc (Zc ?_)))))
 obtain ⟨ac, a, hm⟩ := Zg hm
 refine W_mid (M := fun f' w' => (fun (ac : Bool) => ∃ (aJ : PHeap) , PHeap.le aj aJ ∧ St w0 aJ (Res.box aq 36 [l, m, n, o, p, t, u] :: H) w' ∧ f' 1 = Value.pointer (some ⟨aq, 0, none⟩) ∧ f' 50 = Value.bool (ac)) ac) ?_ ?_
 ·refine Zd (Za rfl rfl (Zm (v := errV 44 (ap)) rfl rfl (Za rfl rfl (Exec.err_neq_nil (T := 44) Tryz.underlying38 rfl rfl rfl (Za rfl rfl (Zm (v := Value.bool (ap.isSome)) rfl rfl ?_))))))
  rcases ite_some a with ⟨x, a⟩ | ⟨x, a⟩
  ·refine WL_passes 37 (by rw [x]; rfl) ?_
   refine Zb (Ze ?_)
   have cm := Zu a
   subst ac
   exact ⟨aj, (Zv _), h, rfl, rfl⟩
  replace x := Zk x
  refine WL_run rfl (Zf rfl (Zx x)) rfl (Zp F36_0 rfl rfl rfl (WL_run rfl (Zf rfl (Zx x)) rfl (Zp F34_0 rfl rfl rfl (WL_run rfl (Zf rfl (Zx x)) rfl (Zn (h) A24 rfl rfl rfl (WL_run rfl (Zf rfl (Zx x)) rfl (Zr S24 rfl rfl ao (WL_run rfl (Zf rfl (Zx x)) rfl (Exec.neq rfl rfl rfl ?_)))))))))
  refine WL_passes 2 (by rw [x]; rfl) ?_
  rcases ite_some a with ⟨k, a⟩ | ⟨k, a⟩
  ·refine WL_passes 30 (by rw [k]; rfl) ?_
   refine Zb (Ze ?_)
   have cn := Zu a
   subst ac
   exact ⟨aj, (Zv _), h, rfl, rfl⟩
  replace k := Zk k
  refine WL_run rfl (Zf rfl (Zx k)) rfl (Zp F36_0 rfl rfl rfl (WL_run rfl (Zf rfl (Zx k)) rfl (Zp F34_0 rfl rfl rfl (WL_run rfl (Zf rfl (Zx k)) rfl (Zn (h) A24 rfl rfl rfl ?_)))))
  obtain ⟨dm, bx, a⟩ := Zg a
  refine WL_run rfl (Zf rfl (Zx k)) rfl (Exec.index_rep S24 rfl rfl rfl ao bx ?_)
  intro ch c1 aO
  refine WL_run rfl (Zf rfl (Zx k)) rfl (Zw (E := (encInt .i64)) h A3 rfl rfl rfl aO ?_)
  intro cI bz
  obtain rfl := encInt_val.1 bz
  refine WL_run rfl (Zf rfl (Zx k)) rfl (Exec.neq rfl rfl rfl ?_)
  refine WL_passes 2 (by rw [k]; rfl) ?_
  rcases ite_some a with ⟨y, a⟩ | ⟨y, a⟩
  ·refine WL_passes 22 (by rw [y]; rfl) ?_
   refine Zb (Ze ?_)
   have co := Zu a
   subst ac
   exact ⟨aj, (Zv _), h, rfl, rfl⟩
  replace y := Zk y
  refine WL_run rfl (Zf rfl (Zx y)) rfl (Zp F36_0 rfl rfl rfl (WL_run rfl (Zf rfl (Zx y)) rfl (Zp F34_3 rfl rfl rfl (WL_run rfl (Zf rfl (Zx y)) rfl (Zn (h) A32 rfl rfl rfl (WL_run rfl (Zf rfl (Zx y)) rfl (Zr S32 rfl rfl ak (WL_run rfl (Zf rfl (Zx y)) rfl (Exec.neq rfl rfl rfl ?_)))))))))
  refine WL_passes 2 (by rw [y]; rfl) ?_
  rcases ite_some a with ⟨i, a⟩ | ⟨i, a⟩
  ·refine WL_passes 15 (by rw [i]; rfl) ?_
   refine Zb (Ze ?_)
   have cp := Zu a
   subst ac
   exact ⟨aj, (Zv _), h, rfl, rfl⟩
  replace i := Zk i
  refine WL_run rfl (Zf rfl (Zx i)) rfl (Zp F36_0 rfl rfl rfl (WL_run rfl (Zf rfl (Zx i)) rfl (Zp F34_3 rfl rfl rfl (WL_run rfl (Zf rfl (Zx i)) rfl (Zn (h) A32 rfl rfl rfl ?_)))))
  obtain ⟨cb, b0, a⟩ := Zg a
  refine WL_run rfl (Zf rfl (Zx i)) rfl (Exec.index_rep S32 rfl rfl rfl ak b0 ?_)
  intro ci c2 aP
  refine WL_run rfl (Zf rfl (Zx i)) rfl (Zp F55_3 rfl rfl rfl (WL_run rfl (Zf rfl (Zx i)) rfl (Zw (E := (encSlice encEffect)) h A53 rfl rfl rfl (aP.sub (Sub.iso (Sub.snd (Sub.snd (Sub.snd (Sub.refl _) rfl) rfl) rfl)) rfl) ?_)))
  intro cJ b1
  have bE : SliceRep _ _ _ (cb.Effs) := encSlice_val.1 b1
  refine WL_run rfl (Zf rfl (Zx i)) rfl (Zr S53 rfl rfl bE (WL_run rfl (Zf rfl (Zx i)) rfl (Exec.neq rfl rfl rfl ?_)))
  refine WL_passes 2 (by rw [i]; rfl) ?_
  rcases ite_some a with ⟨z, a⟩ | ⟨z, a⟩
  ·refine WL_passes 5 (by rw [z]; rfl) ?_
   refine Zb (Ze ?_)
   have cq := Zu a
   subst ac
   exact ⟨aj, (Zv _), h, rfl, rfl⟩
  replace z := Zk z
  refine WL_run rfl (Zf rfl (Zx z)) rfl (Zp F36_1 rfl rfl rfl (WL_run rfl (Zf rfl (Zx z)) rfl (Zn (h) A31 rfl rfl rfl (WL_run rfl (Zf rfl (Zx z)) rfl (Zr S31 rfl rfl aw (WL_run rfl (Zf rfl (Zx z)) rfl (Exec.neq rfl rfl rfl (Za rfl rfl (Exec.pick_f (v := Value.bool (!decide ((ce.Atoms.length : Int) = 3))) rfl (Zx z) rfl (Zb (Ze ?_)))))))))))
  have cr := Zu a
  subst ac
  exact ⟨aj, (Zv _), h, rfl, rfl⟩
 intro cy db aS
 obtain ⟨aK, b, au, ai, aG⟩ := aS
 refine (Ze ?_)
 rcases ite_some hm with ⟨an, hm⟩ | ⟨an, hm⟩
 ·refine W_cond_t aG an (Zc (Zd (Za rfl rfl (Zo (v := Value.bool (false)) rfl rfl (Zb (Ze (W_ret (at_ret ?_))))))))
  have ct := Zu hm
  subst r
  refine ⟨_, ret1 rfl, ?_⟩
  exact ⟨aK, (Zt (Zt (Zt (Zt aD ag) ah) aE) b), (au).drop, rfl⟩
 refine W_cond_f aG an ?_
 replace an := Zk an
 refine W_skip (Ze (Zc ?_))
 obtain ⟨bZ, aH, hm⟩ := Zg hm
 obtain ⟨cf, ab⟩ := bZ
 replace hm := un2_eq hm
 refine W_mid (M := fun f' w' => ∃ (a6 : PHeap) (ax : Value), PHeap.le aK a6 ∧ St w0 a6 (Res.box aq 36 [l, m, n, o, p, t, u] :: H) w' ∧ f' 1 = Value.pointer (some ⟨aq, 0, none⟩) ∧ f' 2 = errV 44 (ab) ∧ f' 3 = ax ∧ SliceRep (encInt .i64) a6 ax cf) ?_ ?_
 ·refine W_dl (n0 := 9) (.q 1 (.alt (.e 0 [1] (.e 2 [1] (.q 3 (.e 4 [] (qs 5 4 .done))))) (.e 2 [1] (.q 3 (.e 0 [1, 3] (.e 4 [] (qs 5 4 .done))))))) hmix (by kernel_rfl) (by kernel_rfl) (DL_q rfl rfl (Exec.load_box_agg (ds := [l, m, n, o, p, t, u]) (au.drew) A36 rfl ai rfl ⟨rfl, ?_⟩))
  refine DL_alt ?_ ?_
  ·refine DL_e rfl rfl (Tc rfl rfl rfl args_nil (law21_sample_sim law21_sample_tot au.drew ).r ?_)
   rintro _ dc ⟨c8, cK, cL, cM, cN, cO, ae, a8, rfl, bF, bG, bH, bI, bJ⟩
   refine ⟨(ag_cons (ag_r rfl rfl (Exec.load_box_agg (ds := [l, m, n, o, p, t, u]) (a8) A36 rfl ai rfl ⟨rfl, rfl⟩)) ag_nil), ?_⟩
   refine DL_e rfl rfl (Exec.buildSlice (Te := 3) (cs := [Vi (1), Vi (2)]) a8 rfl (parts_cons (c := [Vi (1)]) (cells_of rfl rfl) (parts_cons (c := [Vi (2)]) (cells_of rfl rfl) parts_nil)) (fun _ => by kernel_rfl) ?_)
   intro a7 dd be
   have bf := St.boxArr (E := (encInt .i64)) (xs := [1, 2]) be ⟨[Vi (1)], [Vi (2)], rfl, rfl, ⟨[Vi (2)], [], rfl, rfl, rfl⟩⟩ (by simp [maxLen])
   obtain ⟨c9, j, a9, bK⟩ := bf.freezeArr
   refine ⟨(ag_cons (ag_r rfl rfl (Exec.load_box_agg (ds := [l, m, n, o, p, t, u]) (a9) A36 rfl ai rfl ⟨rfl, rfl⟩)) ag_nil), ?_⟩
   refine DL_q rfl rfl (Exec.build rfl (parts_cons (c := [Value.slice (some ⟨a7, 0, none⟩) 2 2]) (cells_of rfl rfl) parts_nil) (v := Value.agg #[Value.slice (some ⟨a7, 0, none⟩) 2 2, Value.slice none 0 0]) (fun _ => by kernel_rfl) ⟨rfl, ?_⟩)
   refine DL_e rfl rfl (Tc rfl rfl rfl (Zi rfl (Zi rfl (Zi rfl args_nil))) (encode_State_sim aH a9 (bF.mono j) (bG.mono j) (bH.mono j) (bI.mono j) (bJ.mono j) (ao.mono (Zt (Zt b ae) j)) (a2.mono (Zt (Zt b ae) j)) (a3.mono (Zt (Zt b ae) j)) (ak.mono (Zt (Zt b ae) j)) (aw.mono (Zt (Zt b ae) j)) (a4.mono (Zt (Zt b ae) j)) (a5.mono (Zt (Zt b ae) j)) bK (SliceRep.nil _ _)).r ?_)
   rintro _ de ⟨bV, ay, bp, bg, rfl, bL⟩
   refine ⟨ag_nil, ?_⟩
   refine DL_q rfl rfl (Zm (v := Value.tuple #[ay, errV 44 (ab)]) rfl rfl ⟨rfl, ?_⟩)
   refine DL_q rfl rfl (Exec.extract (v := ay) rfl rfl rfl ⟨rfl, ?_⟩)
   refine DL_q rfl rfl (Exec.extract (v := errV 44 (ab)) rfl rfl rfl ⟨rfl, ?_⟩)
   refine DL_q rfl rfl (Zo (v := ay) rfl rfl ⟨rfl, ?_⟩)
   refine DL_done (Za rfl rfl (Zo (v := errV 44 (ab)) rfl rfl (Zb (Ze ?_))))
   exact ⟨bV, ay, (Zt (Zt ae j) bp), bg, ai, rfl, rfl, bL⟩
  refine DL_e rfl rfl (Exec.buildSlice (Te := 3) (cs := [Vi (1), Vi (2)]) au.drew rfl (parts_cons (c := [Vi (1)]) (cells_of rfl rfl) (parts_cons (c := [Vi (2)]) (cells_of rfl rfl) parts_nil)) (fun _ => by kernel_rfl) ?_)
  intro ar df bh
  have bi := St.boxArr (E := (encInt .i64)) (xs := [1, 2]) bh ⟨[Vi (1)], [Vi (2)], rfl, rfl, ⟨[Vi (2)], [], rfl, rfl, rfl⟩⟩ (by simp [maxLen])
  obtain ⟨cA, af, aA, bM⟩ := bi.freezeArr
  refine ⟨(ag_cons (ag_r rfl rfl (Exec.load_box_agg (ds := [l, m, n, o, p, t, u]) (aA) A36 rfl ai rfl ⟨rfl, rfl⟩)) ag_nil), ?_⟩
  refine DL_q rfl rfl (Exec.build rfl (parts_cons (c := [Value.slice (some ⟨ar, 0, none⟩) 2 2]) (cells_of rfl rfl) parts_nil) (v := Value.agg #[Value.slice (some ⟨ar, 0, none⟩) 2 2, Value.slice none 0 0]) (fun _ => by kernel_rfl) ⟨rfl, ?_⟩)
  refine DL_e rfl rfl (Tc rfl rfl rfl args_nil (law21_sample_sim law21_sample_tot aA ).r ?_)
  rintro _ dg ⟨cB, cP, cQ, cR, cS, cT, aa, aB, rfl, bN, bO, bP, bQ, bR⟩
  refine ⟨(ag_cons (ag_r rfl rfl (Exec.load_box_agg (ds := [l, m, n, o, p, t, u]) (aB) A36 rfl ai rfl ⟨rfl, rfl⟩)) (ag_cons (ag_r rfl rfl (Exec.build rfl (parts_cons (c := [Value.slice (some ⟨ar, 0, none⟩) 2 2]) (cells_of rfl rfl) parts_nil) (v := Value.agg #[Value.slice (some ⟨ar, 0, none⟩) 2 2, Value.slice none 0 0]) (fun _ => by kernel_rfl) ⟨rfl, rfl⟩)) ag_nil)), ?_⟩
  refine DL_e rfl rfl (Tc rfl rfl rfl (Zi rfl (Zi rfl (Zi rfl args_nil))) (encode_State_sim aH aB bN bO bP bQ bR (ao.mono (Zt (Zt b af) aa)) (a2.mono (Zt (Zt b af) aa)) (a3.mono (Zt (Zt b af) aa)) (ak.mono (Zt (Zt b af) aa)) (aw.mono (Zt (Zt b af) aa)) (a4.mono (Zt (Zt b af) aa)) (a5.mono (Zt (Zt b af) aa)) (bM.mono aa) (SliceRep.nil _ _)).r ?_)
  rintro _ dh ⟨bW, az, bq, bj, rfl, bS⟩
  refine ⟨ag_nil, ?_⟩
  refine DL_q rfl rfl (Zm (v := Value.tuple #[az, errV 44 (ab)]) rfl rfl ⟨rfl, ?_⟩)
  refine DL_q rfl rfl (Exec.extract (v := az) rfl rfl rfl ⟨rfl, ?_⟩)
  refine DL_q rfl rfl (Exec.extract (v := errV 44 (ab)) rfl rfl rfl ⟨rfl, ?_⟩)
  refine DL_q rfl rfl (Zo (v := az) rfl rfl ⟨rfl, ?_⟩)
  refine DL_done (Za rfl rfl (Zo (v := errV 44 (ab)) rfl rfl (Zb (Ze ?_))))
  exact ⟨bW, az, (Zt (Zt af aa) bq), bj, ai, rfl, rfl, bS⟩
 intro cz di aT
 obtain ⟨aL, ax, aF, aC, bs, bt, bu, bo⟩ := aT
 refine (Ze (Zc ?_))
 obtain ⟨al, g, hm⟩ := Zg hm
 refine W_mid (M := fun f' w' => (fun (al : Bool) => ∃ (aM : PHeap) , PHeap.le aL aM ∧ St w0 aM (H) w' ∧ f' 0 = Value.bool (al)) al) ?_ ?_
 ·refine Zd (Za rfl rfl (Zm (v := errV 44 (ab)) rfl bt (Za rfl rfl (Exec.err_eql_nil (T := 44) Tryz.underlying38 rfl rfl rfl (Za rfl rfl (Zm (v := Value.bool (ab.isNone)) rfl rfl ?_))))))
  rcases ite_some g with ⟨ad, g⟩ | ⟨ad, g⟩
  ·refine WL_run rfl (Zf rfl (Zx ad)) rfl (Zm (v := ax) rfl bu (WL_run rfl (Zf rfl (Zx ad)) rfl (Exec.buildSlice (Te := 3) (cs := [Vi (2), Vi (1)]) aC rfl (parts_cons (c := [Vi (2)]) (cells_of rfl rfl) (parts_cons (c := [Vi (1)]) (cells_of rfl rfl) parts_nil)) (fun _ => by kernel_rfl) ?_)))
   intro cj dj bk
   have bl := St.boxArr (E := (encInt .i64)) (xs := [2, 1]) bk ⟨[Vi (2)], [Vi (1)], rfl, rfl, ⟨[Vi (1)], [], rfl, rfl, rfl⟩⟩ (by simp [maxLen])
   obtain ⟨cC, av, bm, bT⟩ := bl.freezeArr
   obtain ⟨dn, b2, g⟩ := Zg g
   refine WL_run rfl (Zf rfl (Zx ad)) rfl (Tc rfl rfl rfl (Zi rfl (Zi rfl args_nil)) (base_Ints_sim b2 bm (bo.mono av) bT).r ?_)
   rintro _ dk ⟨aN, a1, am, rfl⟩
   refine WL_passes 2 (by rw [ad]; rfl) ?_
   rcases ite_some g with ⟨d, g⟩ | ⟨d, g⟩
   ·refine WL_run rfl (Zf rfl (Zx d)) rfl (Zp F36_0 rfl bs rfl (WL_run rfl (Zf rfl (Zx d)) rfl (Zp F34_3 rfl rfl rfl (WL_run rfl (Zf rfl (Zx d)) rfl (Zn (am) A32 rfl rfl rfl ?_)))))
    obtain ⟨cc, b3, g⟩ := Zg g
    refine WL_run rfl (Zf rfl (Zx d)) rfl (Exec.index_rep S32 rfl rfl rfl (ak.mono (Zt (Zt (Zt b aF) av) a1)) b3 ?_)
    intro ck c3 aQ
    refine WL_run rfl (Zf rfl (Zx d)) rfl (Zp F55_3 rfl rfl rfl (WL_run rfl (Zf rfl (Zx d)) rfl (Zw (E := (encSlice encEffect)) am A53 rfl rfl rfl (aQ.sub (Sub.iso (Sub.snd (Sub.snd (Sub.snd (Sub.refl _) rfl) rfl) rfl)) rfl) ?_)))
    intro cU b4
    have bU : SliceRep _ _ _ (cc.Effs) := encSlice_val.1 b4
    obtain ⟨cd, b5, g⟩ := Zg g
    refine WL_run rfl (Zf rfl (Zx d)) rfl (Exec.index_rep S53 rfl rfl rfl bU b5 ?_)
    intro cl c4 aR
    refine WL_run rfl (Zf rfl (Zx d)) rfl (Zp F60_2 rfl rfl rfl (WL_run rfl (Zf rfl (Zx d)) rfl (Zw (E := (encInt .i64)) am A3 rfl rfl rfl (aR.sub (Sub.iso (Sub.snd (Sub.snd (Sub.refl _) rfl) rfl)) rfl) ?_)))
    intro ca b6
    obtain rfl : ca = Vi (cd.Val) := encInt_val.1 b6
    refine WL_run rfl (Zf rfl (Zx d)) rfl (Exec.eql rfl rfl rfl ?_)
    refine WL_passes 2 (by rw [d]; rfl) ?_
    refine Zb (Ze ?_)
    have cu := Zu g
    subst al
    exact ⟨aN, (Zt av a1), (am).drop, rfl⟩
   replace d := Zk d
   refine WL_passes 12 (by rw [d]; rfl) ?_
   refine Zb (Ze ?_)
   have cv := Zu g
   subst al
   exact ⟨aN, (Zt av a1), (am).drop, rfl⟩
  replace ad := Zk ad
  refine WL_passes 17 (by rw [ad]; rfl) ?_
  refine Zb (Ze ?_)
  have cw := Zu g
  subst al
  exact ⟨aL, (Zv _), (aC).drop, rfl⟩
 intro c0 dl aU
 obtain ⟨bX, br, bn, bv⟩ := aU
 refine (Ze (W_ret ?_))
 have cx := Zu hm
 subst r
 refine ⟨_, ret1 rfl, ?_⟩
 exact ⟨bX, (Zt (Zt (Zt (Zt (Zt (Zt aD ag) ah) aE) b) aF) br), bn, bv⟩
theorem C44 : Tryz.prog.concrete 44 = true := by kernel_rfl
theorem encode_Plan_sim {w0 w : World} {s : PHeap} {H : List Res} {g : Encoding} {aa : (List Int)} {n : Value} {o : Value} {p : Value} {q : Value} {t : Value} {u : Value} {x : Value} {y : Value} {r : (List Int) × (Option Int)} (hm : encode_Plan_p g aa = some r) (hS : St w0 s (H) w) (b4 : SliceRep (encInt .i64) s n g.Task.Vars) (b5 : SliceRep (encInt .i64) s o g.Task.Init) (b6 : SliceRep encFact s p g.Task.Goal) (b7 : SliceRep encOp s q g.Task.Ops) (b8 : SliceRep encFact s t g.Atoms) (b9 : SliceRep (encInt .i64) s u g.Fluents) (an : SliceRep (encInt .i64) s x g.Ops) (ao : SliceRep (encInt .i64) s y aa) :
  Calls Tryz.prog 11 #[Value.agg #[n, o, p, q, t, u, x], y] w fun e w' => ∃ v, e = .returned v ∧ ((un2 fun (b2 : (List Int)) (b3 : (Option Int)) => ∃ (av : PHeap) (aE : Value), PHeap.le s av ∧ St w0 av (H) w' ∧ v = Value.tuple #[aE, errV 44 (b3)] ∧ SliceRep (encInt .i64) av aE b2) r) := by
 unfold encode_Plan_p at hm
 refine calls_of_W Tryz.func11 rfl rfl (Zc (Zd (Za rfl rfl (Exec.box (cs := [n, o, p, q, t, u, x]) hS rfl rfl rfl ?_))))
 intro j ca aP
 refine Za rfl rfl (Zo (v := Value.slice none 0 0) rfl rfl (Za rfl rfl (Zo (v := errV 44 (none)) rfl rfl (Zb (Ze (Zc (Zd (Za rfl rfl (Zo (v := Value.slice none 0 0) rfl rfl (Zb (Ze (Zc (Zc (Zd (Za rfl rfl (Zm (v := y) rfl rfl (Za rfl rfl (Zr S24 rfl rfl ao (Za rfl rfl (Zm (v := Vi (0)) rfl rfl (Zb (Ze ?_))))))))))))))))))))))
 obtain ⟨ax, aJ, bb, aZ, aX⟩ := ctl_some hm
 refine W_mid (M := fun f' w' => ∃ s', (ax = .next s' ∨ ax = .brk s') ∧ (fun (a0 : (List Int)) => ∃ (aA : PHeap) (ab : Value), PHeap.le s aA ∧ St w0 aA (Res.box j 36 [n, o, p, q, t, u, x] :: Res.arr (encInt .i64) 3 ab a0 :: H) w' ∧ f' 2 = Value.pointer (some ⟨j, 0, none⟩) ∧ f' 6 = ab ∧ f' 9 = y ∧ f' 10 = Vi ((aa.length : Int))) s') ?_ ?_
 ·refine W_block (W_forC (fun k' s' f' w' => (fun (ah : (List Int)) => ∃ (aB : PHeap) (i : Value), PHeap.le s aB ∧ St w0 aB (Res.box j 36 [n, o, p, q, t, u, x] :: Res.arr (encInt .i64) 3 i ah :: H) w' ∧ f' 2 = Value.pointer (some ⟨j, 0, none⟩) ∧ f' 6 = i ∧ f' 9 = y ∧ f' 10 = Vi ((aa.length : Int)) ∧ f' 11 = Vi (k' : Int)) s') aJ ?_ ?_ ?_)
  ·have aQ := aP.nilArr (encInt .i64) 3
   exact ⟨s, (Value.slice none 0 0), (Zv _), (aQ).f1, rfl, rfl, rfl, rfl, rfl⟩
  ·intro ap ah ay bK cb aY aK b bc
   obtain ⟨aw, i, z, af, aq, a1, ar, au, al⟩ := aK
   refine Zc (Zd (Za rfl rfl (Zq rfl al au (Zb (Ze (Zc (W_true (Zx (decide_eq_true (by omega))) (W_skip (Ze (Zc (W_block (Zc (Zd ?_)))))))))))))
   obtain ⟨d, br, b⟩ := Zg b
   refine Za rfl rfl (Exec.index_rep S24 rfl ar al (ao.mono z) br ?_)
   intro bA bQ aG
   refine Za rfl rfl (Zw (E := (encInt .i64)) af A3 rfl rfl rfl aG ?_)
   intro bX bs
   obtain rfl := encInt_val.1 bs
   refine Za rfl rfl (Zo (v := Vi (d)) rfl rfl (Zb (Ze (Zc (Zc (W_mid (M := fun f' w' => ∃ (aC : PHeap) , PHeap.le aw aC ∧ St w0 aC (Res.box j 36 [n, o, p, q, t, u, x] :: Res.arr (encInt .i64) 3 i ah :: H) w' ∧ f' 2 = Value.pointer (some ⟨j, 0, none⟩) ∧ f' 6 = i ∧ f' 8 = Vi (d) ∧ f' 9 = y ∧ f' 10 = Vi ((aa.length : Int)) ∧ f' 11 = Vi ((ap : Int)) ∧ f' 23 = Value.bool (((decide (d < 0)) || decide ((g.Ops.length : Int) ≤ d)))) ?_ ?_))))))
   ·refine Zd (Za rfl rfl (Zm (v := Vi (d)) rfl rfl (Za rfl rfl (Zq rfl rfl rfl (Za rfl rfl (Zm (v := Value.bool (decide (d < 0))) rfl rfl ?_))))))
    by_cases a : (decide (d < 0)) = true
    ·refine WL_passes 6 (by rw [a]; rfl) ?_
     refine Zb (Ze ?_)
     exact ⟨aw, (Zv _), ((af).f1).f1, aq, a1, rfl, ar, au, al, (Zx (or_t a)).symm⟩
    replace a := Zk a
    refine WL_run rfl (Zf rfl (Zx a)) rfl (Zm (v := Vi (d)) rfl rfl (WL_run rfl (Zf rfl (Zx a)) rfl (Zp F36_3 rfl aq rfl (WL_run rfl (Zf rfl (Zx a)) rfl (Zn (af) A24 rfl rfl rfl (WL_run rfl (Zf rfl (Zx a)) rfl (Zr S24 rfl rfl (an.mono z) (WL_run rfl (Zf rfl (Zx a)) rfl (Exec.geq rfl rfl rfl (Za rfl rfl (Exec.pick_f (v := Value.bool (decide ((g.Ops.length : Int) ≤ d))) rfl (Zx a) rfl (Zb (Ze ?_)))))))))))))
    exact ⟨aw, (Zv _), ((af).f1).f1, aq, a1, rfl, ar, au, al, (Zx (or_f a)).symm⟩
   intro bL cc aM
   obtain ⟨aj, ag, l, ai, a2, a3, a4, a5, a6, a7⟩ := aM
   refine (Ze ?_)
   rcases ite_some b with ⟨ac, b⟩ | ⟨ac, b⟩
   ·refine W_cond_t a7 ac (Zc (Zd (Za rfl rfl (Exec.makeInterface C44 rfl rfl (Za rfl rfl (Zo (v := Value.slice none 0 0) rfl rfl (Za rfl rfl (Zo (v := errV 44 (some 1)) rfl rfl (Zb (Ze (W_ret (at_ret (ib_ret (at_ret (at_ret (ib_ret (at_ret (at_ret ?_))))))))))))))))))
    have bE := Zu b
    subst ay
    have ba := bb _ (bc (by intro _ h; cases h))
    have bF := Zu ba
    subst r
    refine ⟨_, ret2 rfl, ?_⟩
    exact ⟨aj, (Value.slice none 0 0), (Zt z ag), ((l).drop).drop, (tup2 rfl rfl), (SliceRep.nil _ _)⟩
   refine W_cond_f a7 ac ?_
   replace ac := Zk ac
   refine W_skip (Ze (Zc (Zd (Za rfl rfl (Zp F36_3 rfl ai rfl (Za rfl rfl (Zn (l) A24 rfl rfl rfl (Za rfl rfl (Zm (v := Vi (d)) rfl a3 ?_)))))))))
   obtain ⟨am, a9, b⟩ := Zg b
   refine Za rfl rfl (Exec.index_rep S24 rfl rfl rfl (an.mono (Zt z ag)) a9 ?_)
   intro bB bR aH
   refine Za rfl rfl (Zw (E := (encInt .i64)) l A3 rfl rfl rfl aH ?_)
   intro bY bt
   obtain rfl := encInt_val.1 bt
   refine Za rfl rfl (Exec.geq rfl rfl rfl (Zb (Ze ?_)))
   obtain ⟨ae, m, b⟩ := Zg b
   refine W_mid (M := fun f' w' => (fun (ae : (List Int)) => ∃ (aD : PHeap) (ak : Value), PHeap.le aj aD ∧ St w0 aD (Res.box j 36 [n, o, p, q, t, u, x] :: Res.arr (encInt .i64) 3 ak ae :: H) w' ∧ f' 2 = Value.pointer (some ⟨j, 0, none⟩) ∧ f' 6 = ak ∧ f' 9 = y ∧ f' 10 = Vi ((aa.length : Int)) ∧ f' 11 = Vi ((ap : Int))) ae) ?_ ?_
   ·rcases ite_some m with ⟨ad, m⟩ | ⟨ad, m⟩
    ·refine W_cond_t rfl ad (Zd (Za rfl rfl (Zm (v := i) rfl a2 (Za rfl rfl (Zp F36_3 rfl ai rfl (Za rfl rfl (Zn (l) A24 rfl rfl rfl (Za rfl rfl (Zm (v := Vi (d)) rfl a3 (Za rfl rfl (Exec.index_rep S24 rfl rfl rfl (an.mono (Zt z ag)) a9 ?_)))))))))))
     intro bC bS aI
     refine Za rfl rfl (Zw (E := (encInt .i64)) l A3 rfl rfl rfl aI ?_)
     intro bZ bu
     obtain rfl := encInt_val.1 bu
     refine Za rfl rfl (Exec.buildSlice (Te := 3) (cs := [Vi (am)]) l rfl (parts_cons (c := [Vi (am)]) (cells_of rfl rfl) parts_nil) (fun _ => by kernel_rfl) ?_)
     intro bD cd aR
     obtain ⟨bP, bv, m⟩ := Zg m
     refine Za rfl rfl (Exec.append_box (E := (encInt .i64)) (ys := [am]) (aR).f2 S24 Z3 rfl (by decide) rfl rfl rfl rfl ⟨[Vi (am)], [], rfl, rfl, rfl⟩ rfl bv ?_)
     intro aF ce aS
     refine Za rfl rfl (Zo (v := aF) rfl rfl (Zb (Ze ?_)))
     have bG := Zu m
     subst ae
     exact ⟨aj, aF, (Zv _), (aS).f1, ai, rfl, a4, a5, a6⟩
    refine W_cond_f rfl ad ?_
    replace ad := Zk ad
    refine W_skip (Ze ?_)
    have bH := Zu m
    subst ae
    exact ⟨aj, i, (Zv _), ((l).f1).f1, ai, a2, a4, a5, a6⟩
   intro bM cf aN
   obtain ⟨bx, ak, be, aT, bi, bj, bk, bl, bm⟩ := aN
   refine (ib_normal (Ze (Zd (Za rfl rfl (Exec.add rfl bm rfl (Za rfl rfl (Zm (v := Vi (IntKind.i64.wrap ((ap : Int) + 1))) rfl rfl (Zb (Ze ?_)))))))))
   have bI := Zu b
   subst ay
   refine ⟨_, rfl, ?_⟩; exact ⟨bx, ak, (Zt (Zt z ag) be), ((aT).f1).f1, bi, bj, bk, bl, (Eq.trans rfl (wrap_up aY (SliceRep.le ao)))⟩
  intro ah bN cg aL bd
  obtain ⟨bz, i, bf, aU, bn, bo, bp, a8, b1⟩ := aL
  refine Zc (Zd (Za rfl rfl (Zq rfl b1 a8 (Zb (Ze (Zc (W_false (Zx (decide_eq_false (by omega))) (W_exit (at_exit (at_exit (ib_here (Ze ?_))))))))))))
  refine ⟨_, .inl bd, ?_⟩; exact ⟨bz, i, bf, ((aU).f1).f1, bn, bo, bp, a8⟩
 rintro bO ch ⟨a0, az, aO⟩
 have hm := az.elim (aZ _) (aX _)
 clear az
 obtain ⟨bW, ab, bg, aV, bT, bq, bU, bV⟩ := aO
 refine (Ze (Zc (Zd (Za rfl rfl (Zm (v := ab) rfl bq (Za rfl rfl (Zo (v := ab) rfl rfl (Za rfl rfl (Zo (v := errV 44 (none)) rfl rfl (Zb (Ze (W_ret ?_))))))))))))
 have bJ := Zu hm
 subst r
 refine ⟨_, ret2 rfl, ?_⟩
 obtain ⟨b0, bh, aW, bw⟩ := (aV).f1.freezeArr
 exact ⟨b0, ab, (Zt bg bh), (aW).drop, (tup2 rfl rfl), bw⟩
theorem ref21_Plan_sim {w0 w : World} {s : PHeap} {H : List Res} {j : Encoding} {a8 : (List Int)} {o : Value} {p : Value} {q : Value} {t : Value} {u : Value} {x : Value} {y : Value} {i : Value} {r : (List Int) × Bool} (hm : ref21_Plan_p j a8 = some r) (hS : St w0 s (H) w) (b2 : SliceRep (encInt .i64) s o j.Task.Vars) (b3 : SliceRep (encInt .i64) s p j.Task.Init) (b4 : SliceRep encFact s q j.Task.Goal) (b5 : SliceRep encOp s t j.Task.Ops) (b6 : SliceRep encFact s u j.Atoms) (b7 : SliceRep (encInt .i64) s x j.Fluents) (aw : SliceRep (encInt .i64) s y j.Ops) (af : SliceRep (encInt .i64) s i a8) :
  Calls Tryz.prog 12 #[Value.agg #[o, p, q, t, u, x, y], i] w fun e w' => ∃ v, e = .returned v ∧ ((un2 fun (b0 : (List Int)) (b1 : Bool) => ∃ (a1 : PHeap) (aG : Value), PHeap.le s a1 ∧ St w0 a1 (H) w' ∧ v = Value.tuple #[aG, Value.bool (b1)] ∧ SliceRep (encInt .i64) a1 aG b0) r) := by
 unfold ref21_Plan_p at hm
 refine calls_of_W Tryz.func12 rfl rfl (Zc (Zd (Za rfl rfl (Exec.box (cs := [o, p, q, t, u, x, y]) hS rfl rfl rfl ?_))))
 intro l cp aU
 refine Za rfl rfl (Zo (v := Value.slice none 0 0) rfl rfl (Za rfl rfl (Zo (v := Value.bool (false)) rfl rfl (Zb (Ze (Zc (Zd (Za rfl rfl (Zo (v := Value.slice none 0 0) rfl rfl (Zb (Ze (Zc (Zc (Zd (Za rfl rfl (Zo (v := Vi (0)) rfl rfl (Zb (Ze ?_))))))))))))))))))
 obtain ⟨a2, aP, be, bc, bb⟩ := ctl_some hm
 refine W_mid (M := fun f' w' => ∃ s', (a2 = .next s' ∨ a2 = .brk s') ∧ (un2 fun (a6 : (List Int)) (a5 : Int) => ∃ (aC : PHeap) (ae : Value), PHeap.le s aC ∧ St w0 aC (Res.box l 36 [o, p, q, t, u, x, y] :: Res.arr (encInt .i64) 3 ae a6 :: H) w' ∧ f' 1 = i ∧ f' 2 = Value.pointer (some ⟨l, 0, none⟩) ∧ f' 6 = ae ∧ f' 7 = Vi (a5)) s') ?_ ?_
 ·refine W_block (W_while (fun s' f' w' => (un2 fun (ay : (List Int)) (d : Int) => ∃ (aD : PHeap) (k : Value), PHeap.le s aD ∧ St w0 aD (Res.box l 36 [o, p, q, t, u, x, y] :: Res.arr (encInt .i64) 3 k ay :: H) w' ∧ f' 1 = i ∧ f' 2 = Value.pointer (some ⟨l, 0, none⟩) ∧ f' 6 = k ∧ f' 7 = Vi (d)) s') aP ?_ ?_)
  ·have aV := aU.nilArr (encInt .i64) 3
   exact ⟨s, (Value.slice none 0 0), (Zv _), (aV).f1, rfl, rfl, rfl, rfl⟩
  intro bx ax bU cq aQ a a4
  obtain ⟨ay, d⟩ := bx
  replace a := un2_eq a
  obtain ⟨aq, k, g, z, ac, am, az, ad⟩ := aQ
  refine Zc (Zc (Zd (Za rfl rfl (Zm (v := Vi (d)) rfl ad (Za rfl rfl (Zm (v := i) rfl ac (Za rfl rfl (Zr S24 rfl rfl (af.mono g) (Za rfl rfl (Zq rfl rfl rfl (Zb (Ze ?_))))))))))))
  rcases ite_some a with ⟨ag, a⟩ | ⟨ag, a⟩
  ·refine W_cond_t rfl ag (W_skip (Ze (Zc (W_block (Zc (Zc ?_))))))
   obtain ⟨ak, m, a⟩ := Zg a
   refine W_mid (M := fun f' w' => (fun (ak : Bool) => ∃ (aE : PHeap) , PHeap.le aq aE ∧ St w0 aE (Res.box l 36 [o, p, q, t, u, x, y] :: Res.arr (encInt .i64) 3 k ay :: H) w' ∧ f' 1 = i ∧ f' 2 = Value.pointer (some ⟨l, 0, none⟩) ∧ f' 6 = k ∧ f' 7 = Vi (d) ∧ f' 28 = Value.bool (ak)) ak) ?_ ?_
   ·refine W_dl (n0 := 15) (qs 0 15 .done) hmix (by kernel_rfl) (by kernel_rfl) (DL_q rfl rfl (Zm (v := i) rfl ac ⟨rfl, ?_⟩))
    refine DL_q rfl rfl (Zm (v := Vi (d)) rfl ad ⟨rfl, ?_⟩)
    obtain ⟨aI, a9, m⟩ := Zg m
    refine DL_q rfl rfl (Exec.index_repE S24 rfl rfl rfl (af.mono g) a9 ?_)
    intro b8 bZ aJ bF
    refine ⟨rfl, ?_⟩
    refine DL_q rfl rfl (Zw (E := (encInt .i64)) z.drew A3 rfl rfl rfl aJ ?_)
    intro cj bn
    obtain rfl := encInt_val.1 bn
    refine ⟨rfl, ?_⟩
    refine DL_q rfl rfl (Zq rfl rfl rfl ⟨rfl, ?_⟩)
    refine DL_q rfl rfl (Zm (v := Value.bool (decide (aI < 0))) rfl rfl ⟨rfl, ?_⟩)
    rcases ite_some m with ⟨b, m⟩ | ⟨b, m⟩
    ·refine DL_passes 9 (by rw [b]; rfl) ?_
     refine DL_done (Zb (Ze ?_))
     have bG := Zu m
     subst ak
     exact ⟨aq, (Zv _), ((z.drew).f1).f1, ac, am, az, ad, rfl⟩
    replace b := Zk b
    refine DL_qg rfl rfl (Zf rfl (Zx b)) (Zm (v := i) rfl ac ⟨rfl, ?_⟩)
    refine DL_qg rfl rfl (Zf rfl (Zx b)) (Zm (v := Vi (d)) rfl ad ⟨rfl, ?_⟩)
    refine DL_qg rfl rfl (Zf rfl (Zx b)) (Exec.index_repE S24 rfl rfl rfl (af.mono g) a9 ?_)
    intro b9 ca aK bH
    refine ⟨rfl, ?_⟩
    refine DL_qg rfl rfl (Zf rfl (Zx b)) (Zw (E := (encInt .i64)) z.drew A3 rfl rfl rfl aK ?_)
    intro ck bo
    obtain rfl := encInt_val.1 bo
    refine ⟨rfl, ?_⟩
    refine DL_qg rfl rfl (Zf rfl (Zx b)) (Zp F36_3 rfl am rfl ⟨rfl, ?_⟩)
    refine DL_qg rfl rfl (Zf rfl (Zx b)) (Zn (z.drew) A24 rfl rfl rfl ⟨rfl, ?_⟩)
    refine DL_qg rfl rfl (Zf rfl (Zx b)) (Zr S24 rfl rfl (aw.mono g) ⟨rfl, ?_⟩)
    refine DL_qg rfl rfl (Zf rfl (Zx b)) (Exec.geq rfl rfl rfl ⟨rfl, ?_⟩)
    refine DL_q rfl rfl (Exec.pick_f (v := Value.bool (decide ((j.Ops.length : Int) ≤ aI))) rfl (Zx b) rfl ⟨rfl, ?_⟩)
    refine DL_done (Zb (Ze ?_))
    have bI := Zu m
    subst ak
    exact ⟨aq, (Zv _), ((z.drew).f1).f1, ac, am, az, ad, rfl⟩
   intro bV cr aR
   obtain ⟨ar, ab, aa, an, ao, a0, ap, a7⟩ := aR
   refine (Ze ?_)
   rcases ite_some a with ⟨ah, a⟩ | ⟨ah, a⟩
   ·refine W_cond_t a7 ah (Zc (Zd (Za rfl rfl (Zo (v := Value.slice none 0 0) rfl rfl (Za rfl rfl (Zo (v := Value.bool (false)) rfl rfl (Zb (Ze (W_ret (at_ret (ib_ret (at_ret (at_ret (ib_ret (at_ret (at_ret ?_))))))))))))))))
    have bJ := Zu a
    subst ax
    have bd := be _ (a4 (by intro _ h; cases h))
    have bK := Zu bd
    subst r
    refine ⟨_, ret2 rfl, ?_⟩
    exact ⟨ar, (Value.slice none 0 0), (Zt g ab), ((aa).drop).drop, (tup2 rfl rfl), (SliceRep.nil _ _)⟩
   refine W_cond_f a7 ah ?_
   replace ah := Zk ah
   refine W_skip (Ze (Zc (W_dl (n0 := 9) (qs 0 9 .done) hmix (by kernel_rfl) (by kernel_rfl) (DL_q rfl rfl (Zp F36_3 rfl ao rfl ⟨rfl, ?_⟩)))))
   refine DL_q rfl rfl (Zn (aa.drew) A24 rfl rfl rfl ⟨rfl, ?_⟩)
   refine DL_q rfl rfl (Zm (v := i) rfl an ⟨rfl, ?_⟩)
   refine DL_q rfl rfl (Zm (v := Vi (d)) rfl ap ⟨rfl, ?_⟩)
   obtain ⟨cx, aA, a⟩ := Zg a
   refine DL_q rfl rfl (Exec.index_repE S24 rfl rfl rfl (af.mono (Zt g ab)) aA ?_)
   intro bA cb aL bL
   refine ⟨rfl, ?_⟩
   refine DL_q rfl rfl (Zw (E := (encInt .i64)) aa.drew A3 rfl rfl rfl aL ?_)
   intro cl bp
   obtain rfl := encInt_val.1 bp
   refine ⟨rfl, ?_⟩
   obtain ⟨av, aB, a⟩ := Zg a
   refine DL_q rfl rfl (Exec.index_repE S24 rfl rfl rfl (aw.mono (Zt g ab)) aB ?_)
   intro bB cc aM bM
   refine ⟨rfl, ?_⟩
   refine DL_q rfl rfl (Zw (E := (encInt .i64)) aa.drew A3 rfl rfl rfl aM ?_)
   intro cm bq
   obtain rfl := encInt_val.1 bq
   refine ⟨rfl, ?_⟩
   refine DL_q rfl rfl (Exec.geq rfl rfl rfl ⟨rfl, ?_⟩)
   refine DL_done (Zb (Ze ?_))
   obtain ⟨aj, n, a⟩ := Zg a
   refine W_mid (M := fun f' w' => (fun (aj : (List Int)) => ∃ (aF : PHeap) (au : Value), PHeap.le ar aF ∧ St w0 aF (Res.box l 36 [o, p, q, t, u, x, y] :: Res.arr (encInt .i64) 3 au aj :: H) w' ∧ f' 1 = i ∧ f' 2 = Value.pointer (some ⟨l, 0, none⟩) ∧ f' 6 = au ∧ f' 7 = Vi (d)) aj) ?_ ?_
   ·rcases ite_some n with ⟨ai, n⟩ | ⟨ai, n⟩
    ·refine W_cond_t rfl ai (W_dl (n0 := 11) (qs 0 9 (.e 9 [0] (.e 10 [] .done))) hmix (by kernel_rfl) (by kernel_rfl) ?_)
     have al := aa.drew.drew
     refine DL_q rfl rfl (Zm (v := k) rfl a0 ⟨rfl, ?_⟩)
     refine DL_q rfl rfl (Zp F36_3 rfl ao rfl ⟨rfl, ?_⟩)
     refine DL_q rfl rfl (Zn (al) A24 rfl rfl rfl ⟨rfl, ?_⟩)
     refine DL_q rfl rfl (Zm (v := i) rfl an ⟨rfl, ?_⟩)
     refine DL_q rfl rfl (Zm (v := Vi (d)) rfl ap ⟨rfl, ?_⟩)
     refine DL_q rfl rfl (Exec.index_repE S24 rfl rfl rfl (af.mono (Zt g ab)) aA ?_)
     intro bC cd aN bN
     refine ⟨rfl, ?_⟩
     refine DL_q rfl rfl (Zw (E := (encInt .i64)) al A3 rfl rfl rfl aN ?_)
     intro cn br
     obtain rfl := encInt_val.1 br
     refine ⟨rfl, ?_⟩
     refine DL_q rfl rfl (Exec.index_repE S24 rfl rfl rfl (aw.mono (Zt g ab)) aB ?_)
     intro bD ce aO bO
     refine ⟨rfl, ?_⟩
     refine DL_q rfl rfl (Zw (E := (encInt .i64)) al A3 rfl rfl rfl aO ?_)
     intro co bs
     obtain rfl := encInt_val.1 bs
     refine ⟨rfl, ?_⟩
     refine DL_e rfl rfl (Exec.buildSlice (Te := 3) (cs := [Vi (av)]) al rfl (parts_cons (c := [Vi (av)]) (cells_of rfl rfl) parts_nil) (fun _ => by kernel_rfl) ?_)
     intro bE ct aW
     refine ⟨(ag_cons (ag_r rfl rfl (Zm (v := k) rfl a0 ⟨rfl, rfl⟩)) ag_nil), ?_⟩
     obtain ⟨bY, bt, n⟩ := Zg n
     refine DL_e rfl rfl (Exec.append_box (E := (encInt .i64)) (ys := [av]) (aW).f2 S24 Z3 rfl (by decide) rfl rfl rfl rfl ⟨[Vi (av)], [], rfl, rfl, rfl⟩ rfl bt ?_)
     intro aH cu aX
     refine ⟨ag_nil, ?_⟩
     refine DL_done (Za rfl rfl (Zo (v := aH) rfl rfl (Zb (Ze ?_))))
     have bP := Zu n
     subst aj
     exact ⟨ar, aH, (Zv _), (aX).f1, an, ao, rfl, ap⟩
    refine W_cond_f rfl ai ?_
    replace ai := Zk ai
    refine W_skip (Ze ?_)
    have bQ := Zu n
    subst aj
    exact ⟨ar, k, (Zv _), ((aa.drew).f1).f1, an, ao, a0, ap⟩
   intro bW cv aS
   obtain ⟨bv, au, bf, aY, bi, bj, bk, bl⟩ := aS
   refine (ib_normal (Ze (Zd (Za rfl rfl (Zm (v := Vi (d)) rfl bl (Za rfl rfl (Exec.add rfl rfl rfl (Za rfl rfl (Zo (v := Vi (IntKind.i64.wrap (d + 1))) rfl rfl (Zb (Ze ?_)))))))))))
   have bR := Zu a
   subst ax
   refine ⟨_, rfl, ?_⟩; exact ⟨bv, au, (Zt (Zt g ab) bf), ((aY).f1).f1, bi, bj, bk, rfl⟩
  refine W_cond_f rfl ag ?_
  replace ag := Zk ag
  refine W_exit (at_exit (at_exit (ib_here (Ze ?_))))
  have bS := Zu a
  subst ax
  refine ⟨_, .inr (a4 (by intro _ h; cases h)), ?_⟩; exact ⟨aq, k, g, ((z).f1).f1, ac, am, az, ad⟩
 rintro bX cw ⟨bz, a3, aT⟩
 have hm := a3.elim (bc _) (bb _)
 clear a3
 obtain ⟨a6, a5⟩ := bz
 replace hm := un2_eq hm
 obtain ⟨ci, ae, bg, aZ, cf, cg, bm, ch⟩ := aT
 refine (Ze (Zc (Zd (Za rfl rfl (Zm (v := ae) rfl bm (Za rfl rfl (Zo (v := ae) rfl rfl (Za rfl rfl (Zo (v := Value.bool (true)) rfl rfl (Zb (Ze (W_ret ?_))))))))))))
 have bT := Zu hm
 subst r
 refine ⟨_, ret2 rfl, ?_⟩
 obtain ⟨bw, bh, ba, bu⟩ := (aZ).f1.freezeArr
 exact ⟨bw, ae, (Zt bg bh), (ba).drop, (tup2 rfl rfl), bu⟩
theorem ZZ44 : (Tryz.prog.info? 44).map (·.zero) = some (some (.int .i64 0)) := by kernel_rfl
theorem base_Num_sim {w0 w : World} {s : PHeap} {H : List Res} {a : (Option Int)}  {r : Int} (hm : base_Num_p a = some r) (hS : St w0 s (H) w)  :
  Calls Tryz.prog 39 #[errV 44 (a)] w fun e w' => ∃ v, e = .returned v ∧ ((fun (f : Int) => ∃ (d : PHeap) , PHeap.le s d ∧ St w0 d (H) w' ∧ v = Vi (f)) r) := by
 unfold base_Num_p at hm
 refine calls_of_W Tryz.func39 rfl rfl (Zc (Zd (Za rfl rfl (Zo (v := Vi (0)) rfl rfl (Zb (Ze (Zc (Zc (Zd (Za rfl rfl (Zm (v := errV 44 (a)) rfl rfl (Za rfl rfl (Exec.err_eql_nil (T := 44) Tryz.underlying38 rfl rfl rfl (Zb (Ze ?_)))))))))))))))
 rcases ite_some hm with ⟨b, hm⟩ | ⟨b, hm⟩
 ·refine W_cond_t rfl b (Zc (Zd (Za rfl rfl (Zo (v := Vi (0)) rfl rfl (Zb (Ze (W_ret (at_ret ?_))))))))
  have g := Zu hm
  subst r
  refine ⟨_, ret1 rfl, ?_⟩
  exact ⟨s, (Zv _), hS, rfl⟩
 refine W_cond_f rfl b ?_
 replace b := Zk b
 refine W_skip (Ze (Zc (Zc (Zd (Za rfl rfl (Zm (v := errV 44 (a)) rfl rfl (Za rfl rfl (Exec.err_assert Tryz.underlying44 ZZ44 rfl rfl (Za rfl rfl (Zm (v := Value.tuple #[Vi (a.getD 0), Value.bool (a.isSome)]) rfl rfl (Za rfl rfl (Exec.extract (v := Vi (a.getD 0)) rfl rfl rfl (Za rfl rfl (Exec.extract (v := Value.bool (a.isSome)) rfl rfl rfl (Za rfl rfl (Zo (v := Vi (a.getD 0)) rfl rfl (Za rfl rfl (Zo (v := Value.bool (a.isSome)) rfl rfl (Zb (Ze (Zc (Zd (Za rfl rfl (Zm (v := Value.bool (a.isSome)) rfl rfl (Zb (Ze ?_))))))))))))))))))))))))))
 rcases ite_some hm with ⟨c, hm⟩ | ⟨c, hm⟩
 ·refine W_cond_t rfl c (Zc (Zd (Za rfl rfl (Zm (v := Vi (a.getD 0)) rfl rfl (Za rfl rfl (Zo (v := Vi (a.getD 0)) rfl rfl (Zb (Ze (W_ret (at_ret ?_))))))))))
  have h := Zu hm
  subst r
  refine ⟨_, ret1 rfl, ?_⟩
  exact ⟨s, (Zv _), hS, rfl⟩
 refine W_cond_f rfl c ?_
 replace c := Zk c
 refine W_skip (Ze (Zc (Zd (Za rfl rfl (Zo (v := Vi ((-1))) rfl rfl (Zb (Ze (W_ret ?_))))))))
 have i := Zu hm
 subst r
 refine ⟨_, ret1 rfl, ?_⟩
 exact ⟨s, (Zv _), hS, rfl⟩
theorem base_Is_sim {w0 w : World} {s : PHeap} {H : List Res} {b : (Option Int)} {c : Int}  {r : Bool} (hm : base_Is_p b c = some r) (hS : St w0 s (H) w)  :
  Calls Tryz.prog 10 #[errV 44 (b), Vi (c)] w fun e w' => ∃ v, e = .returned v ∧ ((fun (p : Bool) => ∃ (d : PHeap) , PHeap.le s d ∧ St w0 d (H) w' ∧ v = Value.bool (p)) r) := by
 unfold base_Is_p at hm
 refine calls_of_W Tryz.func10 rfl rfl (Zc (Zd (Za rfl rfl (Zo (v := Value.bool (false)) rfl rfl (Zb (Ze (Zc (W_mid (M := fun f' w' => ∃ (g : PHeap) , PHeap.le s g ∧ St w0 g (H) w' ∧ f' 4 = Value.bool ((b.isSome && decide ((base_Num_t b) = c)))) ?_ ?_))))))))
 ·refine Zd (Za rfl rfl (Zm (v := errV 44 (b)) rfl rfl (Za rfl rfl (Exec.err_neq_nil (T := 44) Tryz.underlying38 rfl rfl rfl (Za rfl rfl (Zm (v := Value.bool (b.isSome)) rfl rfl ?_))))))
  by_cases a : b.isSome = true
  ·refine WL_run rfl (Zf rfl (Zx a)) rfl (Zm (v := errV 44 (b)) rfl rfl (WL_run rfl (Zf rfl (Zx a)) rfl (Tc rfl rfl rfl (Zi rfl args_nil) (base_Num_sim (base_Num_tot b) hS ).r ?_)))
   rintro _ u ⟨n, k, i, rfl⟩
   refine WL_run rfl (Zf rfl (Zx a)) rfl (Zm (v := Vi (c)) rfl rfl (WL_run rfl (Zf rfl (Zx a)) rfl (Exec.eql rfl rfl rfl ?_)))
   refine WL_passes 2 (by rw [a]; rfl) ?_
   refine Zb (Ze ?_)
   exact ⟨n, k, i, (Zx (and_t a)).symm⟩
  replace a := Zk a
  refine WL_passes 6 (by rw [a]; rfl) ?_
  refine Zb (Ze ?_)
  exact ⟨s, (Zv _), hS, (Zx (and_f a)).symm⟩
 intro t x h
 obtain ⟨o, l, j, m⟩ := h
 refine (Ze (W_ret ?_))
 have q := Zu hm
 subst r
 refine ⟨_, ret1 rfl, ?_⟩
 exact ⟨o, l, j, m⟩
theorem law21_EncodePlan_sim {w0 w : World} {s : PHeap} {H : List Res} {fu : Nat} {ops1 : (List Int)} {plan4 : (List Int)} {v2 : Value} {v5 : Value} {r : Bool} (hm : law21_EncodePlan_p fu ops1 plan4 = some r) (hS : St w0 s (H) w) (a3 : SliceRep (encInt .i64) s v2 ops1) (a6 : SliceRep (encInt .i64) s v5 plan4) :
  Calls Tryz.prog 4 #[v2, v5] w fun e w' => ∃ v, e = .returned v ∧ ((fun (y8 : Bool) => ∃ (ag : PHeap) , PHeap.le s ag ∧ St w0 ag (H) w' ∧ v = Value.bool (y8)) r) := by
 unfold law21_EncodePlan_p at hm
 refine calls_of_W Tryz.func4 rfl rfl (Zc (Zd (Za rfl rfl (Zo (v := Value.bool (false)) rfl rfl (Zb (Ze (Zc (Zc ?_))))))))
 obtain ⟨o, d, hm⟩ := Zg hm
 refine W_mid (M := fun f' w' => (fun (o : Bool) => ∃ (ah : PHeap) , PHeap.le s ah ∧ St w0 ah (H) w' ∧ f' 0 = v2 ∧ f' 1 = v5 ∧ f' 21 = Value.bool (o)) o) ?_ ?_
 ·refine Zd (Za rfl rfl (Zm (v := v2) rfl rfl (Za rfl rfl (Zr S24 rfl rfl a3 (Za rfl rfl (Exec.gtr rfl rfl rfl (Za rfl rfl (Zm (v := Value.bool (decide (500 < (ops1.length : Int)))) rfl rfl ?_))))))))
  rcases ite_some d with ⟨h, d⟩ | ⟨h, d⟩
  ·refine WL_passes 8 (by rw [h]; rfl) ?_
   refine Zb (Ze ?_)
   have aJ := Zu d
   subst o
   exact ⟨s, (Zv _), hS, rfl, rfl, rfl⟩
  replace h := Zk h
  refine WL_run rfl (Zf rfl (Zx h)) rfl (Zm (v := v5) rfl rfl (WL_run rfl (Zf rfl (Zx h)) rfl (Zr S24 rfl rfl a6 (WL_run rfl (Zf rfl (Zx h)) rfl (Exec.gtr rfl rfl rfl ?_)))))
  refine WL_passes 2 (by rw [h]; rfl) ?_
  rcases ite_some d with ⟨k, d⟩ | ⟨k, d⟩
  ·refine WL_passes 3 (by rw [k]; rfl) ?_
   refine Zb (Ze ?_)
   have aK := Zu d
   subst o
   exact ⟨s, (Zv _), hS, rfl, rfl, rfl⟩
  replace k := Zk k
  obtain ⟨aF, az, d⟩ := Zg d
  refine WL_run rfl (Zf rfl (Zx k)) rfl (Tc rfl rfl rfl args_nil (law21_awake_sim az hS ).r ?_)
  rintro _ aW ⟨a8, ar, al, rfl⟩
  refine WL_run rfl (Zf rfl (Zx k)) rfl (Exec.not rfl rfl (Za rfl rfl (Exec.pick_f (v := Value.bool (!aF)) rfl (Zx k) rfl (Zb (Ze ?_)))))
  have aL := Zu d
  subst o
  exact ⟨a8, ar, al, rfl, rfl, rfl⟩
 intro aS aX aj
 obtain ⟨aU, j, aa, ax, ae, af⟩ := aj
 refine (Ze ?_)
 rcases ite_some hm with ⟨p, hm⟩ | ⟨p, hm⟩
 ·refine W_cond_t af p (Zc (Zd ?_))
  obtain ⟨aG, a0, hm⟩ := Zg hm
  refine Za rfl rfl (Tc rfl rfl rfl args_nil (law21_awake_sim a0 aa ).r ?_)
  rintro _ aY ⟨a9, au, am, rfl⟩
  refine Za rfl rfl (Zo (v := Value.bool (aG)) rfl rfl (Zb (Ze (W_ret (at_ret ?_)))))
  have aM := Zu hm
  subst r
  refine ⟨_, ret1 rfl, ?_⟩
  exact ⟨a9, (Zt j au), am, rfl⟩
 refine W_cond_f af p ?_
 replace p := Zk p
 refine W_skip (Ze (Zc (Zd (Za rfl rfl (Zm (v := v2) rfl ax (Za rfl rfl (Exec.build rfl (parts_cons (c := [v2]) (cells_of rfl (cells_one ((a3.mono j)).one)) parts_nil) (v := Value.agg #[Value.slice none 0 0, Value.slice none 0 0, Value.slice none 0 0, Value.slice none 0 0, Value.slice none 0 0, Value.slice none 0 0, v2]) (fun _ => by kernel_rfl) (Za rfl rfl (Exec.alloc (cs := [Value.slice none 0 0, Value.slice none 0 0, Value.slice none 0 0, Value.slice none 0 0, Value.slice none 0 0, Value.slice none 0 0, Value.slice none 0 0]) aa Z36 rfl rfl ?_)))))))))
 intro aI aZ an
 refine Za rfl rfl (Exec.store_box (ds := [Value.slice none 0 0, Value.slice none 0 0, Value.slice none 0 0, Value.slice none 0 0, Value.slice none 0 0, Value.slice none 0 0, v2]) (es := [Value.slice none 0 0, Value.slice none 0 0, Value.slice none 0 0, Value.slice none 0 0, Value.slice none 0 0, Value.slice none 0 0, v2]) an A36 rfl rfl rfl rfl (Zj rfl (Zj rfl (Zj rfl (Zj rfl (Zj rfl (Zj rfl (Zj ((a3.mono j)).one one_nil))))))) (Nat.le_of_ble_eq_true rfl) rfl ?_)
 intro ba ab
 refine Zb (Ze (Zc (Zd (Za rfl rfl (Exec.load_box_agg (ds := [Value.slice none 0 0, Value.slice none 0 0, Value.slice none 0 0, Value.slice none 0 0, Value.slice none 0 0, Value.slice none 0 0, v2]) (ab) A36 rfl rfl rfl (Za rfl rfl (Zm (v := v5) rfl ae ?_)))))))
 obtain ⟨aD, a1, hm⟩ := Zg hm
 obtain ⟨bg, l⟩ := aD
 replace hm := un2_eq hm
 refine Za rfl rfl (Tc rfl rfl rfl (Zi rfl (Zi rfl args_nil)) (encode_Plan_sim a1 ab (SliceRep.nil _ _) (SliceRep.nil _ _) (SliceRep.nil _ _) (SliceRep.nil _ _) (SliceRep.nil _ _) (SliceRep.nil _ _) (a3.mono j) (a6.mono j)).r ?_)
 rintro _ bb ⟨aV, u, y, ac, rfl, a5⟩
 refine Za rfl rfl (Zm (v := Value.tuple #[u, errV 44 (l)]) rfl rfl (Za rfl rfl (Exec.extract (v := u) rfl rfl rfl (Za rfl rfl (Exec.extract (v := errV 44 (l)) rfl rfl rfl (Za rfl rfl (Zo (v := u) rfl rfl (Za rfl rfl (Zo (v := errV 44 (l)) rfl rfl (Zb (Ze (Zc (Zd (Za rfl rfl (Exec.load_box_agg (ds := [Value.slice none 0 0, Value.slice none 0 0, Value.slice none 0 0, Value.slice none 0 0, Value.slice none 0 0, Value.slice none 0 0, v2]) (ac) A36 rfl rfl rfl (Za rfl rfl (Zm (v := v5) rfl ae ?_)))))))))))))))))
 obtain ⟨aE, a2, hm⟩ := Zg hm
 obtain ⟨bh, n⟩ := aE
 replace hm := un2_eq hm
 refine Za rfl rfl (Tc rfl rfl rfl (Zi rfl (Zi rfl args_nil)) (ref21_Plan_sim a2 ac (SliceRep.nil _ _) (SliceRep.nil _ _) (SliceRep.nil _ _) (SliceRep.nil _ _) (SliceRep.nil _ _) (SliceRep.nil _ _) (a3.mono (Zt j y)) (a6.mono (Zt j y))).r ?_)
 rintro _ bc ⟨aA, x, ad, ao, rfl, a7⟩
 refine Za rfl rfl (Zm (v := Value.tuple #[x, Value.bool (n)]) rfl rfl (Za rfl rfl (Exec.extract (v := x) rfl rfl rfl (Za rfl rfl (Exec.extract (v := Value.bool (n)) rfl rfl rfl (Za rfl rfl (Zo (v := x) rfl rfl (Za rfl rfl (Zo (v := Value.bool (n)) rfl rfl (Zb (Ze (Zc ?_))))))))))))
 obtain ⟨m, a, hm⟩ := Zg hm
 refine W_mid (M := fun f' w' => (fun (m : Bool) => ∃ (ai : PHeap) , PHeap.le aA ai ∧ St w0 ai (H) w' ∧ f' 4 = Value.bool (m)) m) ?_ ?_
 ·refine Zd (Za rfl rfl (Zm (v := u) rfl rfl (Za rfl rfl (Zm (v := x) rfl rfl ?_))))
  obtain ⟨aH, a4, a⟩ := Zg a
  refine Za rfl rfl (Tc rfl rfl rfl (Zi rfl (Zi rfl args_nil)) (base_Ints_sim a4 ao (a5.mono ad) a7).r ?_)
  rintro _ bd ⟨z, t, q, rfl⟩
  refine Za rfl rfl (Zm (v := Value.bool (aH)) rfl rfl ?_)
  rcases ite_some a with ⟨g, a⟩ | ⟨g, a⟩
  ·refine WL_run rfl (Zf rfl (Zx g)) rfl (Zm (v := Value.bool (n)) rfl rfl (WL_run rfl (Zf rfl (Zx g)) rfl (Zm (v := errV 44 (l)) rfl rfl (WL_run rfl (Zf rfl (Zx g)) rfl (Exec.err_eql_nil (T := 44) Tryz.underlying38 rfl rfl rfl (WL_run rfl (Zf rfl (Zx g)) rfl (Exec.bool_eql Tryz.underlying4 rfl rfl rfl ?_)))))))
   refine WL_passes 2 (by rw [g]; rfl) ?_
   rcases ite_some a with ⟨b, a⟩ | ⟨b, a⟩
   ·refine WL_run rfl (Zf rfl (Zx b)) rfl (Zm (v := Value.bool (n)) rfl rfl (WL_run rfl (Zf rfl (Zx b)) rfl (Zm (v := Value.bool (n)) rfl rfl ?_)))
    rcases ite_some a with ⟨i, a⟩ | ⟨i, a⟩
    ·refine WL_passes 2 (by rw [i]; rfl) ?_
     rw [i] at b
     refine WL_run rfl (Zf rfl (Zx b)) rfl (Zs (v := Value.bool (true)) rfl rfl rfl ?_)
     refine WL_passes 2 (by rw [b]; rfl) ?_
     refine Zb (Ze ?_)
     have aN := Zu a
     subst m
     exact ⟨z, t, (q).drop, rfl⟩
    replace i := Zk i
    refine WL_run rfl (Zf rfl (Zx i)) rfl (Zm (v := errV 44 (l)) rfl rfl (WL_run rfl (Zf rfl (Zx i)) rfl (Tc rfl rfl rfl (Zi rfl (Zi rfl args_nil)) (base_Is_sim (base_Is_tot l 1) q ).r ?_)))
    rintro _ be ⟨aB, av, ap, rfl⟩
    refine WL_run rfl (Zf rfl (Zx b)) rfl (Exec.pick_f (v := Value.bool ((base_Is_t l 1))) rfl (Zx i) rfl ?_)
    refine WL_passes 2 (by rw [b]; rfl) ?_
    refine Zb (Ze ?_)
    have aO := Zu a
    subst m
    exact ⟨aB, (Zt t av), (ap).drop, rfl⟩
   replace b := Zk b
   refine WL_passes 7 (by rw [b]; rfl) ?_
   refine Zb (Ze ?_)
   have aP := Zu a
   subst m
   exact ⟨z, t, (q).drop, rfl⟩
  replace g := Zk g
  refine WL_passes 13 (by rw [g]; rfl) ?_
  refine Zb (Ze ?_)
  have aQ := Zu a
  subst m
  exact ⟨z, t, (q).drop, rfl⟩
 intro aT bf ak
 obtain ⟨aC, aw, aq, ay⟩ := ak
 refine (Ze (W_ret ?_))
 have aR := Zu hm
 subst r
 refine ⟨_, ret1 rfl, ?_⟩
 exact ⟨aC, (Zt (Zt (Zt j y) ad) aw), aq, ay⟩
end Go.Pw
