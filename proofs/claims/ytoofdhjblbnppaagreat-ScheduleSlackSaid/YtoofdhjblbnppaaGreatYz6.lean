/-
  The walks (printed by my generator).
-/
import Derived.Test.YtoofdhjblbnppaaGreatL29
import Derived.Test.YtoofdhjblbnppaaGreatL27
import Derived.Test.YtoofdhjblbnppaaGreatYz5
set_option maxRecDepth 100000
set_option maxHeartbeats 4000000
set_option linter.unusedVariables false
namespace Go.Pw
open Go.Proofs
theorem law57_ScheduleSlack_sim {w0 w : World} {s : PHeap} {H : List Res} {bn : Temporal} {aN : (List Launch)} {l : Value} {m : Value} {n : Value} {o : Value} {a2 : Value} {r : Bool} (hm : law57_ScheduleSlack_p bn aN = some r) (hS : St w0 s (H) w) (a6 : SliceRep (encInt .i64) s l bn.Vars) (a7 : SliceRep (encInt .i64) s m bn.Init) (a8 : SliceRep encFact s n bn.Goal) (a9 : SliceRep encJob s o bn.Jobs) (aF : SliceRep encLaunch s a2 aN) :
  Calls Tryz.prog 5 #[Value.agg #[l, m, n, o], a2] w fun e w' => ∃ v, e = .returned v ∧ ((fun (hc : Bool) => ∃ (de : PHeap) , PHeap.le s de ∧ St w0 de (H) w' ∧ v = Value.bool (hc)) r) := by
 unfold law57_ScheduleSlack_p at hm
 refine calls_of_W Tryz.func5 rfl rfl (Zc (Zd (Za rfl rfl (Exec.box (cs := [l, m, n, o]) hS rfl rfl rfl ?_))))
 intro j jo eb
 refine Za rfl rfl (Zo (v := Value.bool (false)) rfl rfl (Zb (Ze (Zc (Zc ?_)))))
 obtain ⟨bo, aC, hm⟩ := Zg hm
 refine W_mid (M := fun f' w' => (fun (bo : Bool) => ∃ (df : PHeap) , PHeap.le s df ∧ St w0 df (Res.box j 26 [l, m, n, o] :: H) w' ∧ f' 1 = a2 ∧ f' 2 = Value.pointer (some ⟨j, 0, none⟩) ∧ f' 26 = Value.bool (bo)) bo) ?_ ?_
 ·refine Zd ?_
  obtain ⟨hd, gh, aC⟩ := Zg aC
  refine Za rfl rfl (Tc rfl rfl rfl args_nil (law57_awake_sim gh eb ).r ?_)
  rintro _ jp ⟨gA, aH, b9, rfl⟩
  refine Za rfl rfl (Exec.not rfl rfl (Za rfl rfl (Zm (v := Value.bool (!hd)) rfl rfl ?_)))
  rcases ite_some aC with ⟨aA, aC⟩ | ⟨aA, aC⟩
  ·refine WL_passes 5 (by rw [aA]; rfl) ?_
   refine Zb (Ze ?_)
   have hv := Zu aC
   subst bo
   exact ⟨gA, aH, b9, rfl, rfl, rfl⟩
  replace aA := Zk aA
  refine WL_run rfl (Zf rfl (Zx aA)) rfl (Exec.load_box_agg (ds := [l, m, n, o]) (b9) A26 rfl rfl rfl (WL_run rfl (Zf rfl (Zx aA)) rfl (Zm (v := a2) rfl rfl ?_)))
  obtain ⟨he, gi, aC⟩ := Zg aC
  refine WL_run rfl (Zf rfl (Zx aA)) rfl (Tc rfl rfl rfl (Zi rfl (Zi rfl args_nil)) (law57_few_sim gi b9 (a6.mono aH) (a7.mono aH) (a8.mono aH) (a9.mono aH) (aF.mono aH)).r ?_)
  rintro _ jq ⟨gB, eW, ec, rfl⟩
  refine WL_run rfl (Zf rfl (Zx aA)) rfl (Exec.not rfl rfl (Za rfl rfl (Exec.pick_f (v := Value.bool (!he)) rfl (Zx aA) rfl (Zb (Ze ?_)))))
  have hw := Zu aC
  subst bo
  exact ⟨gB, (Zt aH eW), ec, rfl, rfl, rfl⟩
 intro hV jr dR
 obtain ⟨iH, a, bA, aD, aI, cB⟩ := dR
 refine (Ze ?_)
 rcases ite_some hm with ⟨aX, hm⟩ | ⟨aX, hm⟩
 ·refine W_cond_t cB aX (Zc (Zd ?_))
  obtain ⟨hf, gj, hm⟩ := Zg hm
  refine Za rfl rfl (Tc rfl rfl rfl args_nil (law57_awake_sim gj bA ).r ?_)
  rintro _ js ⟨gC, eX, ed, rfl⟩
  refine Za rfl rfl (Zo (v := Value.bool (hf)) rfl rfl (Zb (Ze (W_ret (at_ret ?_)))))
  have hx := Zu hm
  subst r
  refine ⟨_, ret1 rfl, ?_⟩
  exact ⟨gC, (Zt a eX), (ed).drop, rfl⟩
 refine W_cond_f cB aX ?_
 replace aX := Zk aX
 refine W_skip (Ze (Zc (Zc (Zd (Za rfl rfl (Exec.load_box_agg (ds := [l, m, n, o]) (bA) A26 rfl aI rfl (Za rfl rfl (Zm (v := a2) rfl aD ?_))))))))
 obtain ⟨gR, gk, hm⟩ := Zg hm
 obtain ⟨ca, b6⟩ := gR
 replace hm := un2_eq hm
 refine Za rfl rfl (Tc rfl rfl rfl (Zi rfl (Zi rfl args_nil)) (temporal_Validate_sim gk bA (a6.mono a) (a7.mono a) (a8.mono a) (a9.mono a) (aF.mono a)).r ?_)
 rintro _ jt ⟨gD, g, bB, rfl⟩
 refine Za rfl rfl (Zm (v := Value.tuple #[Vi (ca), errV 60 (b6)]) rfl rfl (Za rfl rfl (Exec.extract (v := Vi (ca)) rfl rfl rfl (Za rfl rfl (Exec.extract (v := errV 60 (b6)) rfl rfl rfl (Za rfl rfl (Zo (v := Vi (ca)) rfl rfl (Za rfl rfl (Zo (v := errV 60 (b6)) rfl rfl (Zb (Ze (Zc (Zd (Za rfl rfl (Zm (v := errV 60 (b6)) rfl rfl (Za rfl rfl (Exec.err_neq_nil (T := 60) Tryz.underlying31 rfl rfl rfl (Zb (Ze ?_)))))))))))))))))))
 rcases ite_some hm with ⟨aY, hm⟩ | ⟨aY, hm⟩
 ·refine W_cond_t rfl aY (Zc (Zd (Za rfl rfl (Zo (v := Value.bool (true)) rfl rfl (Zb (Ze (W_ret (at_ret ?_))))))))
  have hy := Zu hm
  subst r
  refine ⟨_, ret1 rfl, ?_⟩
  exact ⟨gD, (Zt a g), (bB).drop, rfl⟩
 refine W_cond_f rfl aY ?_
 replace aY := Zk aY
 refine W_skip (Ze (Zc (Zd (Za rfl rfl (Exec.load_box_agg (ds := [l, m, n, o]) (bB) A26 rfl aI rfl (Za rfl rfl (Zm (v := a2) rfl aD ?_)))))))
 obtain ⟨gS, gl, hm⟩ := Zg hm
 obtain ⟨am, aL⟩ := gS
 replace hm := un2_eq hm
 refine Za rfl rfl (Tc rfl rfl rfl (Zi rfl (Zi rfl args_nil)) (schedule_Shift_sim gl bB (a6.mono (Zt a g)) (a7.mono (Zt a g)) (a8.mono (Zt a g)) (a9.mono (Zt a g)) (aF.mono (Zt a g))).r ?_)
 rintro _ ju ⟨iI, q, i, cj, rfl, ar⟩
 refine Za rfl rfl (Zm (v := Value.tuple #[q, errV 60 (aL)]) rfl rfl (Za rfl rfl (Exec.extract (v := q) rfl rfl rfl (Za rfl rfl (Exec.extract (v := errV 60 (aL)) rfl rfl rfl (Za rfl rfl (Zo (v := q) rfl rfl (Za rfl rfl (Zo (v := errV 60 (aL)) rfl rfl (Zb (Ze (Zc (Zd (Za rfl rfl (Exec.load_box_agg (ds := [l, m, n, o]) (cj) A26 rfl aI rfl (Za rfl rfl (Zm (v := a2) rfl aD ?_)))))))))))))))))
 obtain ⟨gT, gm, hm⟩ := Zg hm
 obtain ⟨d5, aS⟩ := gT
 replace hm := un2_eq hm
 refine Za rfl rfl (Tc rfl rfl rfl (Zi rfl (Zi rfl args_nil)) (schedule_Slack_sim gm cj (a6.mono (Zt (Zt a g) i)) (a7.mono (Zt (Zt a g) i)) (a8.mono (Zt (Zt a g) i)) (a9.mono (Zt (Zt a g) i)) (aF.mono (Zt (Zt a g) i))).r ?_)
 rintro _ jv ⟨bm, t, d, bq, rfl, aJ⟩
 refine Za rfl rfl (Zm (v := Value.tuple #[t, errV 60 (aS)]) rfl rfl (Za rfl rfl (Exec.extract (v := t) rfl rfl rfl (Za rfl rfl (Exec.extract (v := errV 60 (aS)) rfl rfl rfl (Za rfl rfl (Zo (v := t) rfl rfl (Za rfl rfl (Zo (v := errV 60 (aS)) rfl rfl (Zb (Ze (Zc (Zc (W_mid (M := fun f' w' => ∃ (dg : PHeap) , PHeap.le bm dg ∧ St w0 dg (Res.box j 26 [l, m, n, o] :: H) w' ∧ f' 1 = a2 ∧ f' 2 = Value.pointer (some ⟨j, 0, none⟩) ∧ f' 7 = q ∧ f' 9 = t ∧ f' 67 = Value.bool ((aL.isSome || (aS.isSome || ((!decide ((d5.length : Int) = (aN.length : Int))) || !decide ((am.length : Int) = (aN.length : Int))))))) ?_ ?_))))))))))))))
 ·refine Zd (Za rfl rfl (Zm (v := errV 60 (aL)) rfl rfl (Za rfl rfl (Exec.err_neq_nil (T := 60) Tryz.underlying31 rfl rfl rfl (Za rfl rfl (Zm (v := Value.bool (aL.isSome)) rfl rfl ?_))))))
  by_cases a3 : aL.isSome = true
  ·refine WL_passes 17 (by rw [a3]; rfl) ?_
   refine Zb (Ze ?_)
   exact ⟨bm, (Zv _), bq, aD, aI, rfl, rfl, (Zx (or_t a3)).symm⟩
  replace a3 := Zk a3
  refine WL_run rfl (Zf rfl (Zx a3)) rfl (Zm (v := errV 60 (aS)) rfl rfl (WL_run rfl (Zf rfl (Zx a3)) rfl (Exec.err_neq_nil (T := 60) Tryz.underlying31 rfl rfl rfl ?_)))
  refine WL_passes 2 (by rw [a3]; rfl) ?_
  by_cases av : aS.isSome = true
  ·refine WL_passes 13 (by rw [av]; rfl) ?_
   refine Zb (Ze ?_)
   exact ⟨bm, (Zv _), bq, aD, aI, rfl, rfl, (Zx (Eq.trans (or_f a3) (or_t av))).symm⟩
  replace av := Zk av
  refine WL_run rfl (Zf rfl (Zx av)) rfl (Zm (v := t) rfl rfl (WL_run rfl (Zf rfl (Zx av)) rfl (Zr S22 rfl rfl aJ (WL_run rfl (Zf rfl (Zx av)) rfl (Zm (v := a2) rfl aD (WL_run rfl (Zf rfl (Zx av)) rfl (Zr S27 rfl rfl (aF.mono (Zt (Zt (Zt a g) i) d)) (WL_run rfl (Zf rfl (Zx av)) rfl (Exec.neq rfl rfl rfl ?_)))))))))
  refine WL_passes 2 (by rw [av]; rfl) ?_
  by_cases az : (!decide ((d5.length : Int) = (aN.length : Int))) = true
  ·refine WL_passes 6 (by rw [az]; rfl) ?_
   refine Zb (Ze ?_)
   exact ⟨bm, (Zv _), bq, aD, aI, rfl, rfl, (Zx (Eq.trans (or_f a3) (Eq.trans (or_f av) (or_t az)))).symm⟩
  replace az := Zk az
  refine WL_run rfl (Zf rfl (Zx az)) rfl (Zm (v := q) rfl rfl (WL_run rfl (Zf rfl (Zx az)) rfl (Zr S27 rfl rfl (ar.mono d) (WL_run rfl (Zf rfl (Zx az)) rfl (Zm (v := a2) rfl aD (WL_run rfl (Zf rfl (Zx az)) rfl (Zr S27 rfl rfl (aF.mono (Zt (Zt (Zt a g) i) d)) (WL_run rfl (Zf rfl (Zx az)) rfl (Exec.neq rfl rfl rfl (Za rfl rfl (Exec.pick_f (v := Value.bool (!decide ((am.length : Int) = (aN.length : Int)))) rfl (Zx az) rfl (Zb (Ze ?_)))))))))))))
  exact ⟨bm, (Zv _), bq, aD, aI, rfl, rfl, (Zx (Eq.trans (or_f a3) (Eq.trans (or_f av) (or_f az)))).symm⟩
 intro hW jw dS
 obtain ⟨gE, b, bC, fk, bj, aP, cC, cD⟩ := dS
 refine (Ze ?_)
 rcases ite_some hm with ⟨aZ, hm⟩ | ⟨aZ, hm⟩
 ·refine W_cond_t cD aZ (Zc (Zd (Za rfl rfl (Zo (v := Value.bool (false)) rfl rfl (Zb (Ze (W_ret (at_ret ?_))))))))
  have hz := Zu hm
  subst r
  refine ⟨_, ret1 rfl, ?_⟩
  exact ⟨gE, (Zt (Zt (Zt (Zt a g) i) d) b), (bC).drop, rfl⟩
 refine W_cond_f cD aZ ?_
 replace aZ := Zk aZ
 refine W_skip (Ze (Zc (Zd (Za rfl rfl (Exec.load_box_agg (ds := [l, m, n, o]) (bC) A26 rfl bj rfl (Za rfl rfl (Zm (v := a2) rfl fk ?_)))))))
 obtain ⟨gU, gn, hm⟩ := Zg hm
 obtain ⟨iG, jY, aE⟩ := gU
 replace hm := un3_eq hm
 refine Za rfl rfl (Tc rfl rfl rfl (Zi rfl (Zi rfl args_nil)) (law57_network_sim gn bC (a6.mono (Zt (Zt (Zt (Zt a g) i) d) b)) (a7.mono (Zt (Zt (Zt (Zt a g) i) d) b)) (a8.mono (Zt (Zt (Zt (Zt a g) i) d) b)) (a9.mono (Zt (Zt (Zt (Zt a g) i) d) b)) (aF.mono (Zt (Zt (Zt (Zt a g) i) d) b))).r ?_)
 rintro _ jx eH
 rcases eH with ⟨hs, rfl, gF, aa, aw, ax, bU, x, bD, rfl⟩ | ⟨rfl, gG, bV, y, bE, rfl⟩
 ·replace hm := optC_some hm
  refine Za rfl rfl (Zm (v := Value.tuple #[Value.pointer (some ⟨aa, 0, none⟩), bU, Value.bool (aE)]) rfl rfl (Za rfl rfl (Exec.extract (v := Value.pointer (some ⟨aa, 0, none⟩)) rfl rfl rfl (Za rfl rfl (Exec.extract (v := bU) rfl rfl rfl (Za rfl rfl (Exec.extract (v := Value.bool (aE)) rfl rfl rfl (Za rfl rfl (Zo (v := Value.pointer (some ⟨aa, 0, none⟩)) rfl rfl (Za rfl rfl (Zo (v := bU) rfl rfl (Za rfl rfl (Zo (v := Value.bool (aE)) rfl rfl (Zb (Ze (Zc (Zc (Zd (Za rfl rfl (Zm (v := Value.bool (aE)) rfl rfl (Za rfl rfl (Exec.not rfl rfl (Zb (Ze ?_))))))))))))))))))))))))
  rcases ite_some hm with ⟨ba, hm⟩ | ⟨ba, hm⟩
  ·refine W_cond_t rfl ba (Zc (Zd (Za rfl rfl (Zo (v := Value.bool (false)) rfl rfl (Zb (Ze (W_ret (at_ret ?_))))))))
   have h0 := Zu hm
   subst r
   refine ⟨_, ret1 rfl, ?_⟩
   exact ⟨gF, (Zt (Zt (Zt (Zt (Zt a g) i) d) b) x), (((((bD).drop).drop).drop).drop).drop, rfl⟩
  refine W_cond_f rfl ba ?_
  replace ba := Zk ba
  refine W_skip (Ze (Zc (Zd (Za rfl rfl (Exec.load_box_agg (ds := [l, m, n, o]) ((bD).f4) A26 rfl bj rfl (Za rfl rfl (Zm (v := q) rfl aP ?_)))))))
  obtain ⟨ay, go, hm⟩ := Zg hm
  refine Za rfl rfl (Tc rfl rfl rfl (Zi rfl (Zi rfl args_nil)) (ref55_Makespan_sim go bD (a6.mono (Zt (Zt (Zt (Zt (Zt a g) i) d) b) x)) (a7.mono (Zt (Zt (Zt (Zt (Zt a g) i) d) b) x)) (a8.mono (Zt (Zt (Zt (Zt (Zt a g) i) d) b) x)) (a9.mono (Zt (Zt (Zt (Zt (Zt a g) i) d) b) x)) (ar.mono (Zt (Zt d b) x))).r ?_)
  rintro _ jy ⟨bQ, ae, ee, rfl⟩
  refine Za rfl rfl (Zo (v := Vi (ay)) rfl rfl (Zb (Ze (Zc (Zc (Zd (Za rfl rfl (Zm (v := q) rfl aP (Za rfl rfl (Zr S27 rfl rfl (ar.mono (Zt (Zt (Zt d b) x) ae)) (Za rfl rfl (Zm (v := Vi (0)) rfl rfl (Zb (Ze ?_))))))))))))))
  obtain ⟨cd, dF, eO, eD, e5⟩ := ctl_some hm
  refine W_mid (M := fun f' w' => ∃ s', (cd = .next s' ∨ cd = .brk s') ∧ (fun (aO : (List (List Int))) => ∃ (dh : PHeap) , PHeap.le bQ dh ∧ St w0 dh (Res.box j 26 [l, m, n, o] :: Res.box aa 101 [aw] :: Res.arr encRaw 22 aw ax :: Res.rows (encInt .i64) 3 ax aO :: H) w' ∧ f' 2 = Value.pointer (some ⟨j, 0, none⟩) ∧ f' 7 = q ∧ f' 9 = t ∧ f' 11 = Value.pointer (some ⟨aa, 0, none⟩) ∧ f' 14 = Vi (ay) ∧ f' 81 = Vi ((am.length : Int))) s') ?_ ?_
  ·refine W_block (W_forC (fun k' s' f' w' => (fun (bH : (List (List Int))) => ∃ (di : PHeap) , PHeap.le bQ di ∧ St w0 di (Res.box j 26 [l, m, n, o] :: Res.box aa 101 [aw] :: Res.arr encRaw 22 aw ax :: Res.rows (encInt .i64) 3 ax bH :: H) w' ∧ f' 2 = Value.pointer (some ⟨j, 0, none⟩) ∧ f' 7 = q ∧ f' 9 = t ∧ f' 11 = Value.pointer (some ⟨aa, 0, none⟩) ∧ f' 14 = Vi (ay) ∧ f' 81 = Vi ((am.length : Int)) ∧ f' 82 = Vi (k' : Int)) s') dF ?_ ?_ ?_)
   ·have ef := ((ee).f3).drop
    exact ⟨bQ, (Zv _), ((((ef).f2).f2).f2).f3, bj, aP, cC, rfl, rfl, rfl, rfl⟩
   ·intro aM bH ce hX jz e9 dJ aB eQ
    obtain ⟨iJ, c1, eg, fl, fm, fn, cE, cF, cG, bW⟩ := dJ
    refine Zc (Zd (Za rfl rfl (Zq rfl bW cG (Zb (Ze (Zc (W_true (Zx (decide_eq_true (by omega))) (W_skip (Ze (Zc (W_block (Zc (Zd (Za rfl rfl (Zm (v := Vi ((aM : Int))) rfl bW (Za rfl rfl (Zo (v := Vi ((aM : Int))) rfl rfl (Zb (Ze (Zc (Zd (Za rfl rfl (Zm (v := Value.pointer (some ⟨aa, 0, none⟩)) rfl cE (Za rfl rfl (Zm (v := Vi ((aM : Int))) rfl rfl (Za rfl rfl (Exec.mul rfl rfl rfl (Za rfl rfl (Exec.add rfl rfl rfl (Za rfl rfl (Zm (v := Vi (ay)) rfl cF (Za rfl rfl (Exec.build rfl (parts_cons (c := [Vi (0)]) (cells_of rfl rfl) (parts_cons (c := [Vi (IntKind.i64.wrap ((IntKind.i64.wrap (2 * (aM : Int))) + 2))]) (cells_of rfl rfl) (parts_cons (c := [Vi (ay)]) (cells_of rfl rfl) parts_nil))) (v := Value.agg #[Vi (0), Vi (IntKind.i64.wrap ((IntKind.i64.wrap (2 * (aM : Int))) + 2)), Vi (ay)]) (fun _ => by kernel_rfl) ?_)))))))))))))))))))))))))))))))))
    obtain ⟨gV, gp, aB⟩ := Zg aB
    obtain ⟨jZ, iq⟩ := gV
    replace aB := un2_eq aB
    refine Za rfl rfl (Tc rfl rfl rfl (Zi rfl (Zi rfl args_nil)) (stn_Network_Add_sim gp (((eg).f3).f3).f3 ).r ?_)
    rintro _ j0 ⟨dj, c2, ck, rfl⟩
    refine Za rfl rfl (Exec.err_neq_nil (T := 60) Tryz.underlying31 rfl rfl rfl (Zb (Ze ?_)))
    rcases ite_some aB with ⟨bb, aB⟩ | ⟨bb, aB⟩
    ·refine W_cond_t rfl bb (Zc (Zd (Za rfl rfl (Zo (v := Value.bool (false)) rfl rfl (Zb (Ze (W_ret (ib_ret (at_ret (at_ret (ib_ret (at_ret (at_ret ?_)))))))))))))
     have h1 := Zu aB
     subst ce
     have eI := eO _ (eQ (by intro _ h; cases h))
     have h2 := Zu eI
     subst r
     refine ⟨_, ret1 rfl, ?_⟩
     exact ⟨dj, (Zt (Zt (Zt (Zt (Zt (Zt (Zt (Zt a g) i) d) b) x) ae) c1) c2), ((((ck).drop).drop).drop).drop, rfl⟩
    refine W_cond_f rfl bb ?_
    replace bb := Zk bb
    refine W_skip (ib_normal (Ze (Zd (Za rfl rfl (Exec.add rfl bW rfl (Za rfl rfl (Zm (v := Vi (IntKind.i64.wrap ((aM : Int) + 1))) rfl rfl (Zb (Ze ?_)))))))))
    have h3 := Zu aB
    subst ce
    refine ⟨_, rfl, ?_⟩; exact ⟨dj, (Zt c1 c2), ((((ck).f2).f2).f2).f3, fl, fm, fn, cE, cF, cG, (Eq.trans rfl (wrap_up e9 (SliceRep.le (ar.mono (Zt (Zt (Zt d b) x) ae)))))⟩
   intro bH hY j1 dK eR
   obtain ⟨gH, eY, eh, fo, fp, fq, fr, fs, cH, gY⟩ := dK
   refine Zc (Zd (Za rfl rfl (Zq rfl gY cH (Zb (Ze (Zc (W_false (Zx (decide_eq_false (by omega))) (W_exit (at_exit (at_exit (ib_here (Ze ?_))))))))))))
   refine ⟨_, .inl eR, ?_⟩; exact ⟨gH, eY, ((((eh).f3).f3).f3).f3, fo, fp, fq, fr, fs, cH⟩
  rintro hZ j2 ⟨aO, ct, dT⟩
  have hm := ct.elim (eD _) (e5 _)
  clear ct
  obtain ⟨bR, ap, ei, ft, fu, fv, fw, fx, i2⟩ := dT
  refine (Ze (Zc (Zc (Zd (Za rfl rfl (Zm (v := q) rfl fu (Za rfl rfl (Zr S27 rfl rfl (ar.mono (Zt (Zt (Zt (Zt d b) x) ae) ap)) (Za rfl rfl (Zm (v := Vi (0)) rfl rfl (Zb (Ze ?_))))))))))))
  obtain ⟨cf, dG, cx, eE, e6⟩ := ctl_some hm
  refine W_mid (M := fun f' w' => ∃ s', (cf = .next s' ∨ cf = .brk s') ∧ (fun (_ : Unit) => ∃ (dk : PHeap) , PHeap.le bR dk ∧ St w0 dk (Res.box j 26 [l, m, n, o] :: Res.box aa 101 [aw] :: Res.arr encRaw 22 aw ax :: Res.rows (encInt .i64) 3 ax aO :: H) w' ∧ f' 2 = Value.pointer (some ⟨j, 0, none⟩) ∧ f' 9 = t ∧ f' 11 = Value.pointer (some ⟨aa, 0, none⟩) ∧ f' 14 = Vi (ay) ∧ f' 94 = q ∧ f' 95 = Vi ((am.length : Int))) s') ?_ ?_
  ·refine W_block (W_forC (fun k' s' f' w' => (fun (_ : Unit) => ∃ (dl : PHeap) , PHeap.le bR dl ∧ St w0 dl (Res.box j 26 [l, m, n, o] :: Res.box aa 101 [aw] :: Res.arr encRaw 22 aw ax :: Res.rows (encInt .i64) 3 ax aO :: H) w' ∧ f' 2 = Value.pointer (some ⟨j, 0, none⟩) ∧ f' 9 = t ∧ f' 11 = Value.pointer (some ⟨aa, 0, none⟩) ∧ f' 14 = Vi (ay) ∧ f' 94 = q ∧ f' 95 = Vi ((am.length : Int)) ∧ f' 96 = Vi (k' : Int)) s') dG ?_ ?_ ?_)
   ·have ej := ((ei).f3).f3
    exact ⟨bR, (Zv _), ((ej).f3).f3, ft, fv, fw, fx, rfl, rfl, rfl⟩
   ·intro ah iR b7 ia j3 eA dL ac cz
    obtain ⟨dm, a0, cl, bv, bk, bK, bw, bx, bz, aQ⟩ := dL
    refine Zc (Zd (Za rfl rfl (Zq rfl aQ bz (Zb (Ze (Zc (W_true (Zx (decide_eq_true (by omega))) (W_skip (Ze (Zc (W_block (Zc (Zd (Za rfl rfl (Zm (v := Vi ((ah : Int))) rfl aQ ?_)))))))))))))))
    obtain ⟨ai, gq, ac⟩ := Zg ac
    refine Za rfl rfl (Exec.index_rep S27 rfl bx aQ (ar.mono (Zt (Zt (Zt (Zt (Zt d b) x) ae) ap) a0)) gq ?_)
    intro hj iu d7
    refine Za rfl rfl (Zw (E := encLaunch) cl A56 rfl rfl rfl d7 ?_)
    intro ja gr
    obtain rfl := encLaunch_val.1 gr
    refine Za rfl rfl (Exec.alloc (cs := [Vi (0), Vi (0)]) cl Z56 rfl rfl ?_)
    intro cb j4 ek
    refine Za rfl rfl (Zo (v := Vi ((ah : Int))) rfl rfl (Za rfl rfl (Exec.store_box (ds := [Vi (ai.At), Vi (ai.Job)]) (es := [Vi (ai.At), Vi (ai.Job)]) ek A56 rfl rfl rfl rfl (Zj rfl (Zj rfl one_nil)) (Nat.le_of_ble_eq_true rfl) rfl ?_)))
    intro j5 aV
    refine Zb (Ze (Zc (Zc ?_)))
    obtain ⟨aT, an, ac⟩ := Zg ac
    refine W_mid (M := fun f' w' => (fun (aT : Bool) => ∃ (dn : PHeap) , PHeap.le dm dn ∧ St w0 dn (Res.box j 26 [l, m, n, o] :: Res.box aa 101 [aw] :: Res.box cb 56 [Vi (ai.At), Vi (ai.Job)] :: Res.arr encRaw 22 aw ax :: Res.rows (encInt .i64) 3 ax aO :: H) w' ∧ f' 2 = Value.pointer (some ⟨j, 0, none⟩) ∧ f' 9 = t ∧ f' 11 = Value.pointer (some ⟨aa, 0, none⟩) ∧ f' 14 = Vi (ay) ∧ f' 16 = Vi ((ah : Int)) ∧ f' 17 = Value.pointer (some ⟨cb, 0, none⟩) ∧ f' 94 = q ∧ f' 95 = Vi ((am.length : Int)) ∧ f' 96 = Vi ((ah : Int)) ∧ f' 119 = Value.bool (aT)) aT) ?_ ?_
    ·refine Zd (Za rfl rfl (Zm (v := t) rfl bk (Za rfl rfl (Zm (v := Vi ((ah : Int))) rfl rfl ?_))))
     obtain ⟨bX, dc, an⟩ := Zg an
     refine Za rfl rfl (Exec.index_rep S22 rfl rfl rfl (aJ.mono (Zt (Zt (Zt (Zt b x) ae) ap) a0)) dc ?_)
     intro hk iv d8
     refine Za rfl rfl (Zw (E := (encInt .i64)) aV A3 rfl rfl rfl d8 ?_)
     intro jb gs
     obtain rfl := encInt_val.1 gs
     refine Za rfl rfl (Zq rfl rfl rfl (Za rfl rfl (Zm (v := Value.bool (decide (bX < 0))) rfl rfl ?_)))
     rcases ite_some an with ⟨ak, an⟩ | ⟨ak, an⟩
     ·refine WL_passes 13 (by rw [ak]; rfl) ?_
      refine Zb (Ze ?_)
      have h4 := Zu an
      subst aT
      exact ⟨dm, (Zv _), (((((aV).f4).f4).f2).f4).f4, bv, bk, bK, bw, rfl, rfl, bx, bz, aQ, rfl⟩
     replace ak := Zk ak
     refine WL_run rfl (Zf rfl (Zx ak)) rfl (Exec.load_box_agg (ds := [l, m, n, o]) ((aV).f1) A26 rfl bv rfl (WL_run rfl (Zf rfl (Zx ak)) rfl (Exec.load_box_agg (ds := [Vi (ai.At), Vi (ai.Job)]) (aV) A56 rfl rfl rfl ?_)))
     obtain ⟨hg, gu, an⟩ := Zg an
     refine WL_run rfl (Zf rfl (Zx ak)) rfl (Tc rfl rfl rfl (Zi rfl (Zi rfl args_nil)) (ref55_End_sim gu aV (a6.mono (Zt (Zt (Zt (Zt (Zt (Zt (Zt (Zt a g) i) d) b) x) ae) ap) a0)) (a7.mono (Zt (Zt (Zt (Zt (Zt (Zt (Zt (Zt a g) i) d) b) x) ae) ap) a0)) (a8.mono (Zt (Zt (Zt (Zt (Zt (Zt (Zt (Zt a g) i) d) b) x) ae) ap) a0)) (a9.mono (Zt (Zt (Zt (Zt (Zt (Zt (Zt (Zt a g) i) d) b) x) ae) ap) a0))).r ?_)
     rintro _ j6 ⟨dp, bI, bF, rfl⟩
     refine WL_run rfl (Zf rfl (Zx ak)) rfl (Zm (v := Vi (ay)) rfl bw (WL_run rfl (Zf rfl (Zx ak)) rfl (Exec.eql rfl rfl rfl (WL_run rfl (Zf rfl (Zx ak)) rfl (Zm (v := Value.bool (decide (hg = ay))) rfl rfl ?_)))))
     rcases ite_some an with ⟨a4, an⟩ | ⟨a4, an⟩
     ·refine WL_run rfl (Zf rfl (Zx a4)) rfl (Zm (v := t) rfl bk (WL_run rfl (Zf rfl (Zx a4)) rfl (Zm (v := Vi ((ah : Int))) rfl rfl (WL_run rfl (Zf rfl (Zx a4)) rfl (Exec.index_rep S22 rfl rfl rfl (aJ.mono (Zt (Zt (Zt (Zt (Zt b x) ae) ap) a0) bI)) dc ?_)))))
      intro hl iw d9
      refine WL_run rfl (Zf rfl (Zx a4)) rfl (Zw (E := (encInt .i64)) bF A3 rfl rfl rfl d9 ?_)
      intro jc gv
      obtain rfl := encInt_val.1 gv
      refine WL_run rfl (Zf rfl (Zx a4)) rfl (Exec.neq rfl rfl rfl (WL_run rfl (Zf rfl (Zx ak)) rfl (Zs (v := Value.bool (!decide (bX = 0))) rfl (Zx a4) rfl (Za rfl rfl (Exec.pick_f (v := Value.bool (!decide (bX = 0))) rfl (Zx ak) rfl (Zb (Ze ?_)))))))
      have h5 := Zu an
      subst aT
      exact ⟨dp, bI, (((((bF).f4).f4).f2).f4).f4, bv, bk, bK, bw, rfl, rfl, bx, bz, aQ, rfl⟩
     replace a4 := Zk a4
     refine WL_passes 5 (by rw [a4]; rfl) ?_
     refine WL_run rfl (Zf rfl (Zx ak)) rfl (Exec.pick_f (v := Value.bool (false)) rfl rfl rfl (Za rfl rfl (Exec.pick_f (v := Value.bool (false)) rfl (Zx ak) rfl (Zb (Ze ?_)))))
     have h6 := Zu an
     subst aT
     exact ⟨dp, bI, (((((bF).f4).f4).f2).f4).f4, bv, bk, bK, bw, rfl, rfl, bx, bz, aQ, rfl⟩
    intro ib j7 dU
    obtain ⟨dq, bt, br, cI, bL, b0, cJ, bM, fy, cK, cL, cM, cN⟩ := dU
    refine (Ze ?_)
    rcases ite_some ac with ⟨bc, ac⟩ | ⟨bc, ac⟩
    ·refine W_cond_t cN bc (Zc (Zd (Za rfl rfl (Zo (v := Value.bool (false)) rfl rfl (Zb (Ze (W_ret (at_ret (ib_ret (at_ret (at_ret (ib_ret (at_ret (at_ret ?_))))))))))))))
     have h7 := Zu ac
     subst b7
     have eJ := cx _ (cz (by intro _ h; cases h))
     have h8 := Zu eJ
     subst r
     refine ⟨_, ret1 rfl, ?_⟩
     exact ⟨dq, (Zt (Zt (Zt (Zt (Zt (Zt (Zt (Zt (Zt a g) i) d) b) x) ae) ap) a0) bt), (((((br).drop).drop).drop).drop).drop, rfl⟩
    refine W_cond_f cN bc ?_
    replace bc := Zk bc
    refine W_skip (Ze (Zc (W_dl (n0 := 7) (qs 0 7 .done) hmix (by kernel_rfl) (by kernel_rfl) (DL_q rfl rfl (Zp F56_0 rfl fy rfl ⟨rfl, ?_⟩)))))
    refine DL_q rfl rfl (Zn ((br.drew).f2) A3 rfl rfl rfl ⟨rfl, ?_⟩)
    refine DL_q rfl rfl (Zm (v := t) rfl bL ⟨rfl, ?_⟩)
    refine DL_q rfl rfl (Zm (v := Vi ((ah : Int))) rfl bM ⟨rfl, ?_⟩)
    obtain ⟨aK, gw, ac⟩ := Zg ac
    refine DL_q rfl rfl (Exec.index_repE S22 rfl rfl rfl (aJ.mono (Zt (Zt (Zt (Zt (Zt b x) ae) ap) a0) bt)) gw ?_)
    intro hn ix dA h9
    refine ⟨rfl, ?_⟩
    refine DL_q rfl rfl (Zw (E := (encInt .i64)) br.drew A3 rfl rfl rfl dA ?_)
    intro jd gx
    obtain rfl := encInt_val.1 gx
    refine ⟨rfl, ?_⟩
    refine DL_q rfl rfl (Exec.add rfl rfl rfl ⟨rfl, ?_⟩)
    refine DL_done (Za rfl rfl (Zo (v := Vi (IntKind.i64.wrap (ai.At + aK))) rfl rfl (Zb (Ze (Zc ?_)))))
    obtain ⟨bp, ad, ac⟩ := Zg ac
    refine W_mid (M := fun f' w' => (fun (bp : Bool) => ∃ (dr : PHeap) , PHeap.le dq dr ∧ St w0 dr (Res.box j 26 [l, m, n, o] :: Res.box aa 101 [aw] :: Res.arr encRaw 22 aw ax :: Res.rows (encInt .i64) 3 ax aO :: H) w' ∧ f' 2 = Value.pointer (some ⟨j, 0, none⟩) ∧ f' 9 = t ∧ f' 11 = Value.pointer (some ⟨aa, 0, none⟩) ∧ f' 14 = Vi (ay) ∧ f' 94 = q ∧ f' 95 = Vi ((am.length : Int)) ∧ f' 96 = Vi ((ah : Int)) ∧ f' 150 = Value.bool (bp)) bp) ?_ ?_
    ·refine Zd (Za rfl rfl (Zm (v := Value.pointer (some ⟨aa, 0, none⟩)) rfl b0 ?_))
     obtain ⟨ht, gy, ad⟩ := Zg ad
     refine Za rfl rfl (Tc rfl rfl rfl (Zi rfl args_nil) (stn_Network_Copy_sim gy (((br.drew).f4).f4).f3 ).r ?_)
     rintro _ j8 ⟨iK, je, jf, jg, c3, el, rfl⟩
     refine Za rfl rfl (Zm (v := Vi ((ah : Int))) rfl bM (Za rfl rfl (Exec.mul rfl rfl rfl (Za rfl rfl (Exec.add rfl rfl rfl (Za rfl rfl (Zm (v := Vi (IntKind.i64.wrap (ai.At + aK))) rfl rfl (Za rfl rfl (Exec.neg rfl rfl (Za rfl rfl (Exec.build rfl (parts_cons (c := [Vi (IntKind.i64.wrap ((IntKind.i64.wrap (2 * (ah : Int))) + 1))]) (cells_of rfl rfl) (parts_cons (c := [Vi (0)]) (cells_of rfl rfl) (parts_cons (c := [Vi (IntKind.i64.wrap (0 - (IntKind.i64.wrap (ai.At + aK))))]) (cells_of rfl rfl) parts_nil))) (v := Value.agg #[Vi (IntKind.i64.wrap ((IntKind.i64.wrap (2 * (ah : Int))) + 1)), Vi (0), Vi (IntKind.i64.wrap (0 - (IntKind.i64.wrap (ai.At + aK))))]) (fun _ => by kernel_rfl) ?_)))))))))))
     obtain ⟨gW, gz, ad⟩ := Zg ad
     obtain ⟨hh, ir⟩ := gW
     replace ad := un2_eq ad
     refine Za rfl rfl (Tc rfl rfl rfl (Zi rfl (Zi rfl args_nil)) (stn_Network_Add_sim gz (((el).f5).f5).f5 ).r ?_)
     rintro _ j9 ⟨gI, c4, cm, rfl⟩
     refine Za rfl rfl (Exec.err_neq_nil (T := 60) Tryz.underlying31 rfl rfl rfl (Za rfl rfl (Zm (v := Value.bool (hh.isSome)) rfl rfl ?_)))
     rcases ite_some ad with ⟨ab, ad⟩ | ⟨ab, ad⟩
     ·refine WL_passes 13 (by rw [ab]; rfl) ?_
      refine Zb (Ze ?_)
      have hA := Zu ad
      subst bp
      exact ⟨gI, (Zt c3 c4), (((((((((cm).drop).drop).drop).f4).drop).f2).f2).f2).f3, cI, bL, b0, cJ, cK, cL, cM, rfl⟩
     replace ab := Zk ab
     refine WL_run rfl (Zf rfl (Zx ab)) rfl (Zm (v := Value.pointer (some ⟨aa, 0, none⟩)) rfl b0 ?_)
     obtain ⟨hu, g0, ad⟩ := Zg ad
     refine WL_run rfl (Zf rfl (Zx ab)) rfl (Tc rfl rfl rfl (Zi rfl args_nil) (stn_Network_Copy_sim g0 (((cm).f5).f5).f5 ).r ?_)
     rintro _ jA ⟨iL, jh, ji, jj, eZ, em, rfl⟩
     refine WL_run rfl (Zf rfl (Zx ab)) rfl (Zm (v := Vi ((ah : Int))) rfl bM (WL_run rfl (Zf rfl (Zx ab)) rfl (Exec.mul rfl rfl rfl (WL_run rfl (Zf rfl (Zx ab)) rfl (Exec.add rfl rfl rfl (WL_run rfl (Zf rfl (Zx ab)) rfl (Zm (v := Vi (IntKind.i64.wrap (ai.At + aK))) rfl rfl (WL_run rfl (Zf rfl (Zx ab)) rfl (Exec.neg rfl rfl (WL_run rfl (Zf rfl (Zx ab)) rfl (Exec.sub rfl rfl rfl (WL_run rfl (Zf rfl (Zx ab)) rfl (Exec.build rfl (parts_cons (c := [Vi (IntKind.i64.wrap ((IntKind.i64.wrap (2 * (ah : Int))) + 1))]) (cells_of rfl rfl) (parts_cons (c := [Vi (0)]) (cells_of rfl rfl) (parts_cons (c := [Vi (IntKind.i64.wrap ((IntKind.i64.wrap (0 - (IntKind.i64.wrap (ai.At + aK)))) - 1))]) (cells_of rfl rfl) parts_nil))) (v := Value.agg #[Vi (IntKind.i64.wrap ((IntKind.i64.wrap (2 * (ah : Int))) + 1)), Vi (0), Vi (IntKind.i64.wrap ((IntKind.i64.wrap (0 - (IntKind.i64.wrap (ai.At + aK)))) - 1))]) (fun _ => by kernel_rfl) ?_)))))))))))))
     obtain ⟨gX, g1, ad⟩ := Zg ad
     obtain ⟨d6, it⟩ := gX
     replace ad := un2_eq ad
     refine WL_run rfl (Zf rfl (Zx ab)) rfl (Tc rfl rfl rfl (Zi rfl (Zi rfl args_nil)) (stn_Network_Add_sim g1 (((em).f5).f5).f5 ).r ?_)
     rintro _ jB ⟨iM, fa, en, rfl⟩
     refine WL_run rfl (Zf rfl (Zx ab)) rfl (Tc rfl rfl rfl (Zi rfl (Zi rfl args_nil)) (base_Is_sim (base_Is_tot d6 21) en ).r ?_)
     rintro _ jC ⟨gJ, fb, eo, rfl⟩
     refine WL_run rfl (Zf rfl (Zx ab)) rfl (Exec.not rfl rfl (Za rfl rfl (Exec.pick_f (v := Value.bool (!(base_Is_t d6 21))) rfl (Zx ab) rfl (Zb (Ze ?_)))))
     have hB := Zu ad
     subst bp
     exact ⟨gJ, (Zt (Zt (Zt (Zt c3 c4) eZ) fa) fb), (((((((((((((((eo).drop).drop).drop).f3).drop).f4).f4).drop).drop).f4).drop).f2).f2).f2).f3, cI, bL, b0, cJ, cK, cL, cM, rfl⟩
    intro ic jD dV
    obtain ⟨dt, c5, cn, fz, f0, f6, f7, f8, f9, fA, cO⟩ := dV
    refine (Ze ?_)
    rcases ite_some ac with ⟨bd, ac⟩ | ⟨bd, ac⟩
    ·refine W_cond_t cO bd (Zc (Zd (Za rfl rfl (Zo (v := Value.bool (false)) rfl rfl (Zb (Ze (W_ret (ib_ret (at_ret (at_ret (ib_ret (at_ret (at_ret ?_)))))))))))))
     have hC := Zu ac
     subst b7
     have eK := cx _ (cz (by intro _ h; cases h))
     have hD := Zu eK
     subst r
     refine ⟨_, ret1 rfl, ?_⟩
     exact ⟨dt, (Zt (Zt (Zt (Zt (Zt (Zt (Zt (Zt (Zt (Zt a g) i) d) b) x) ae) ap) a0) bt) c5), ((((cn).drop).drop).drop).drop, rfl⟩
    refine W_cond_f cO bd ?_
    replace bd := Zk bd
    refine W_skip (ib_normal (Ze (Zd (Za rfl rfl (Exec.add rfl fA rfl (Za rfl rfl (Zm (v := Vi (IntKind.i64.wrap ((ah : Int) + 1))) rfl rfl (Zb (Ze ?_)))))))))
    have hE := Zu ac
    subst b7
    refine ⟨_, rfl, ?_⟩; exact ⟨dt, (Zt (Zt a0 bt) c5), ((((cn).f3).f3).f3).f3, fz, f0, f6, f7, f8, f9, (Eq.trans rfl (wrap_up eA (SliceRep.le (ar.mono (Zt (Zt (Zt (Zt d b) x) ae) ap)))))⟩
   intro iS ie jE dM eS
   obtain ⟨gK, fc, ep, fB, fC, fD, fE, fF, cP, gZ⟩ := dM
   refine Zc (Zd (Za rfl rfl (Zq rfl gZ cP (Zb (Ze (Zc (W_false (Zx (decide_eq_false (by omega))) (W_exit (at_exit (at_exit (ib_here (Ze ?_))))))))))))
   refine ⟨_, .inl eS, ?_⟩; exact ⟨gK, fc, ((((ep).f3).f3).f3).f3, fB, fC, fD, fE, fF, cP⟩
  rintro ig jF ⟨iT, cu, dW⟩
  have hm := cu.elim (eE _) (e6 _)
  clear cu
  obtain ⟨gL, fd, er, i3, i4, i5, i6, i7, i8⟩ := dW
  refine (Ze (Zc (Zd (Za rfl rfl (Zo (v := Value.bool (true)) rfl rfl (Zb (Ze (W_ret ?_))))))))
  have hF := Zu hm
  subst r
  refine ⟨_, ret1 rfl, ?_⟩
  exact ⟨gL, (Zt (Zt (Zt (Zt (Zt (Zt (Zt (Zt a g) i) d) b) x) ae) ap) fd), ((((er).drop).drop).drop).drop, rfl⟩
 replace hm := optC_none hm
 refine Za rfl rfl (Zm (v := Value.tuple #[Value.pointer none, bV, Value.bool (aE)]) rfl rfl (Za rfl rfl (Exec.extract (v := Value.pointer none) rfl rfl rfl (Za rfl rfl (Exec.extract (v := bV) rfl rfl rfl (Za rfl rfl (Exec.extract (v := Value.bool (aE)) rfl rfl rfl (Za rfl rfl (Zo (v := Value.pointer none) rfl rfl (Za rfl rfl (Zo (v := bV) rfl rfl (Za rfl rfl (Zo (v := Value.bool (aE)) rfl rfl (Zb (Ze (Zc (Zc (Zd (Za rfl rfl (Zm (v := Value.bool (aE)) rfl rfl (Za rfl rfl (Exec.not rfl rfl (Zb (Ze ?_))))))))))))))))))))))))
 rcases ite_some hm with ⟨be, hm⟩ | ⟨be, hm⟩
 ·refine W_cond_t rfl be (Zc (Zd (Za rfl rfl (Zo (v := Value.bool (false)) rfl rfl (Zb (Ze (W_ret (at_ret ?_))))))))
  have hG := Zu hm
  subst r
  refine ⟨_, ret1 rfl, ?_⟩
  exact ⟨gG, (Zt (Zt (Zt (Zt (Zt a g) i) d) b) y), ((bE).drop).drop, rfl⟩
 refine W_cond_f rfl be ?_
 replace be := Zk be
 refine W_skip (Ze (Zc (Zd (Za rfl rfl (Exec.load_box_agg (ds := [l, m, n, o]) ((bE).f1) A26 rfl bj rfl (Za rfl rfl (Zm (v := q) rfl aP ?_)))))))
 obtain ⟨au, g2, hm⟩ := Zg hm
 refine Za rfl rfl (Tc rfl rfl rfl (Zi rfl (Zi rfl args_nil)) (ref55_Makespan_sim g2 bE (a6.mono (Zt (Zt (Zt (Zt (Zt a g) i) d) b) y)) (a7.mono (Zt (Zt (Zt (Zt (Zt a g) i) d) b) y)) (a8.mono (Zt (Zt (Zt (Zt (Zt a g) i) d) b) y)) (a9.mono (Zt (Zt (Zt (Zt (Zt a g) i) d) b) y)) (ar.mono (Zt (Zt d b) y))).r ?_)
 rintro _ jG ⟨bS, af, et, rfl⟩
 refine Za rfl rfl (Zo (v := Vi (au)) rfl rfl (Zb (Ze (Zc (Zc (Zd (Za rfl rfl (Zm (v := q) rfl aP (Za rfl rfl (Zr S27 rfl rfl (ar.mono (Zt (Zt (Zt d b) y) af)) (Za rfl rfl (Zm (v := Vi (0)) rfl rfl (Zb (Ze ?_))))))))))))))
 obtain ⟨cg, dH, eP, eF, e7⟩ := ctl_some hm
 refine W_mid (M := fun f' w' => ∃ s', (cg = .next s' ∨ cg = .brk s') ∧ (fun (_ : Unit) => ∃ (du : PHeap) , PHeap.le bS du ∧ St w0 du (Res.box j 26 [l, m, n, o] :: H) w' ∧ f' 2 = Value.pointer (some ⟨j, 0, none⟩) ∧ f' 7 = q ∧ f' 9 = t ∧ f' 11 = Value.pointer none ∧ f' 14 = Vi (au) ∧ f' 81 = Vi ((am.length : Int))) s') ?_ ?_
 ·refine W_block (W_forC (fun k' s' f' w' => (fun (_ : Unit) => ∃ (dv : PHeap) , PHeap.le bS dv ∧ St w0 dv (Res.box j 26 [l, m, n, o] :: H) w' ∧ f' 2 = Value.pointer (some ⟨j, 0, none⟩) ∧ f' 7 = q ∧ f' 9 = t ∧ f' 11 = Value.pointer none ∧ f' 14 = Vi (au) ∧ f' 81 = Vi ((am.length : Int)) ∧ f' 82 = Vi (k' : Int)) s') dH ?_ ?_ ?_)
  ·have eu := (et).drop
   exact ⟨bS, (Zv _), eu, bj, aP, cC, rfl, rfl, rfl, rfl⟩
  ·intro aG iU ch ih jH eB dN bi eT
   obtain ⟨iN, c6, ev, fG, fH, fI, cQ, cR, cS, bY⟩ := dN
   refine Zc (Zd (Za rfl rfl (Zq rfl bY cS (Zb (Ze (Zc (W_true (Zx (decide_eq_true (by omega))) (W_skip (Ze (Zc (W_block (Zc (Zd (Za rfl rfl (Zm (v := Vi ((aG : Int))) rfl bY (Za rfl rfl (Zo (v := Vi ((aG : Int))) rfl rfl (Zb (Ze (Zc (Zd (Za rfl rfl (Zm (v := Value.pointer none) rfl cQ (Za rfl rfl (Zm (v := Vi ((aG : Int))) rfl rfl (Za rfl rfl (Exec.mul rfl rfl rfl (Za rfl rfl (Exec.add rfl rfl rfl (Za rfl rfl (Zm (v := Vi (au)) rfl cR (Za rfl rfl (Exec.build rfl (parts_cons (c := [Vi (0)]) (cells_of rfl rfl) (parts_cons (c := [Vi (IntKind.i64.wrap ((IntKind.i64.wrap (2 * (aG : Int))) + 2))]) (cells_of rfl rfl) (parts_cons (c := [Vi (au)]) (cells_of rfl rfl) parts_nil))) (v := Value.agg #[Vi (0), Vi (IntKind.i64.wrap ((IntKind.i64.wrap (2 * (aG : Int))) + 2)), Vi (au)]) (fun _ => by kernel_rfl) (Za rfl rfl (Tc rfl rfl rfl (Zi rfl (Zi rfl args_nil)) (stn_Network_Add_nil_sim (stn_Network_Add_nil_tot (⟨0, IntKind.i64.wrap ((IntKind.i64.wrap (2 * (aG : Int))) + 2), au⟩ : Bound)) ev ).r ?_)))))))))))))))))))))))))))))))))))
   rintro _ jI ⟨dw, c7, co, rfl⟩
   refine Za rfl rfl (Exec.err_neq_nil (T := 60) Tryz.underlying31 rfl rfl rfl (Zb (Ze ?_)))
   rcases ite_some bi with ⟨bf, bi⟩ | ⟨bf, bi⟩
   ·refine W_cond_t rfl bf (Zc (Zd (Za rfl rfl (Zo (v := Value.bool (false)) rfl rfl (Zb (Ze (W_ret (ib_ret (at_ret (at_ret (ib_ret (at_ret (at_ret ?_)))))))))))))
    have hH := Zu bi
    subst ch
    have eL := eP _ (eT (by intro _ h; cases h))
    have hI := Zu eL
    subst r
    refine ⟨_, ret1 rfl, ?_⟩
    exact ⟨dw, (Zt (Zt (Zt (Zt (Zt (Zt (Zt (Zt a g) i) d) b) y) af) c6) c7), (co).drop, rfl⟩
   refine W_cond_f rfl bf ?_
   replace bf := Zk bf
   refine W_skip (ib_normal (Ze (Zd (Za rfl rfl (Exec.add rfl bY rfl (Za rfl rfl (Zm (v := Vi (IntKind.i64.wrap ((aG : Int) + 1))) rfl rfl (Zb (Ze ?_)))))))))
   have hJ := Zu bi
   subst ch
   refine ⟨_, rfl, ?_⟩; exact ⟨dw, (Zt c6 c7), co, fG, fH, fI, cQ, cR, cS, (Eq.trans rfl (wrap_up eB (SliceRep.le (ar.mono (Zt (Zt (Zt d b) y) af)))))⟩
  intro iV ii jJ dO eU
  obtain ⟨gM, fe, ew, fJ, fK, fL, fM, fN, cT, ha⟩ := dO
  refine Zc (Zd (Za rfl rfl (Zq rfl ha cT (Zb (Ze (Zc (W_false (Zx (decide_eq_false (by omega))) (W_exit (at_exit (at_exit (ib_here (Ze ?_))))))))))))
  refine ⟨_, .inl eU, ?_⟩; exact ⟨gM, fe, ew, fJ, fK, fL, fM, fN, cT⟩
 rintro ij jK ⟨iW, cv, dX⟩
 have hm := cv.elim (eF _) (e7 _)
 clear cv
 obtain ⟨bT, aq, ex, fO, fP, fQ, fR, fS, i9⟩ := dX
 refine (Ze (Zc (Zc (Zd (Za rfl rfl (Zm (v := q) rfl fP (Za rfl rfl (Zr S27 rfl rfl (ar.mono (Zt (Zt (Zt (Zt d b) y) af) aq)) (Za rfl rfl (Zm (v := Vi (0)) rfl rfl (Zb (Ze ?_))))))))))))
 obtain ⟨ci, dI, cy, eG, e8⟩ := ctl_some hm
 refine W_mid (M := fun f' w' => ∃ s', (ci = .next s' ∨ ci = .brk s') ∧ (fun (_ : Unit) => ∃ (dx : PHeap) , PHeap.le bT dx ∧ St w0 dx (Res.box j 26 [l, m, n, o] :: H) w' ∧ f' 2 = Value.pointer (some ⟨j, 0, none⟩) ∧ f' 9 = t ∧ f' 11 = Value.pointer none ∧ f' 14 = Vi (au) ∧ f' 94 = q ∧ f' 95 = Vi ((am.length : Int))) s') ?_ ?_
 ·refine W_block (W_forC (fun k' s' f' w' => (fun (_ : Unit) => ∃ (dy : PHeap) , PHeap.le bT dy ∧ St w0 dy (Res.box j 26 [l, m, n, o] :: H) w' ∧ f' 2 = Value.pointer (some ⟨j, 0, none⟩) ∧ f' 9 = t ∧ f' 11 = Value.pointer none ∧ f' 14 = Vi (au) ∧ f' 94 = q ∧ f' 95 = Vi ((am.length : Int)) ∧ f' 96 = Vi (k' : Int)) s') dI ?_ ?_ ?_)
  ·exact ⟨bT, (Zv _), ex, fO, fQ, fR, fS, rfl, rfl, rfl⟩
  ·intro p iX b8 ik jL eC dP ag c0
   obtain ⟨dz, a1, cp, b1, bl, bN, b2, b3, b4, aR⟩ := dP
   refine Zc (Zd (Za rfl rfl (Zq rfl aR b4 (Zb (Ze (Zc (W_true (Zx (decide_eq_true (by omega))) (W_skip (Ze (Zc (W_block (Zc (Zd (Za rfl rfl (Zm (v := Vi ((p : Int))) rfl aR ?_)))))))))))))))
   obtain ⟨u, g3, ag⟩ := Zg ag
   refine Za rfl rfl (Exec.index_rep S27 rfl b3 aR (ar.mono (Zt (Zt (Zt (Zt (Zt d b) y) af) aq) a1)) g3 ?_)
   intro ho iy dB
   refine Za rfl rfl (Zw (E := encLaunch) cp A56 rfl rfl rfl dB ?_)
   intro jk g4
   obtain rfl := encLaunch_val.1 g4
   refine Za rfl rfl (Exec.alloc (cs := [Vi (0), Vi (0)]) cp Z56 rfl rfl ?_)
   intro cc jM ey
   refine Za rfl rfl (Zo (v := Vi ((p : Int))) rfl rfl (Za rfl rfl (Exec.store_box (ds := [Vi (u.At), Vi (u.Job)]) (es := [Vi (u.At), Vi (u.Job)]) ey A56 rfl rfl rfl rfl (Zj rfl (Zj rfl one_nil)) (Nat.le_of_ble_eq_true rfl) rfl ?_)))
   intro jN aW
   refine Zb (Ze (Zc (Zc ?_)))
   obtain ⟨aU, ao, ag⟩ := Zg ag
   refine W_mid (M := fun f' w' => (fun (aU : Bool) => ∃ (d0 : PHeap) , PHeap.le dz d0 ∧ St w0 d0 (Res.box j 26 [l, m, n, o] :: Res.box cc 56 [Vi (u.At), Vi (u.Job)] :: H) w' ∧ f' 2 = Value.pointer (some ⟨j, 0, none⟩) ∧ f' 9 = t ∧ f' 11 = Value.pointer none ∧ f' 14 = Vi (au) ∧ f' 16 = Vi ((p : Int)) ∧ f' 17 = Value.pointer (some ⟨cc, 0, none⟩) ∧ f' 94 = q ∧ f' 95 = Vi ((am.length : Int)) ∧ f' 96 = Vi ((p : Int)) ∧ f' 119 = Value.bool (aU)) aU) ?_ ?_
   ·refine Zd (Za rfl rfl (Zm (v := t) rfl bl (Za rfl rfl (Zm (v := Vi ((p : Int))) rfl rfl ?_))))
    obtain ⟨bZ, dd, ao⟩ := Zg ao
    refine Za rfl rfl (Exec.index_rep S22 rfl rfl rfl (aJ.mono (Zt (Zt (Zt (Zt b y) af) aq) a1)) dd ?_)
    intro hp iz dC
    refine Za rfl rfl (Zw (E := (encInt .i64)) aW A3 rfl rfl rfl dC ?_)
    intro jl g5
    obtain rfl := encInt_val.1 g5
    refine Za rfl rfl (Zq rfl rfl rfl (Za rfl rfl (Zm (v := Value.bool (decide (bZ < 0))) rfl rfl ?_)))
    rcases ite_some ao with ⟨al, ao⟩ | ⟨al, ao⟩
    ·refine WL_passes 13 (by rw [al]; rfl) ?_
     refine Zb (Ze ?_)
     have hK := Zu ao
     subst aU
     exact ⟨dz, (Zv _), (aW).f1, b1, bl, bN, b2, rfl, rfl, b3, b4, aR, rfl⟩
    replace al := Zk al
    refine WL_run rfl (Zf rfl (Zx al)) rfl (Exec.load_box_agg (ds := [l, m, n, o]) ((aW).f1) A26 rfl b1 rfl (WL_run rfl (Zf rfl (Zx al)) rfl (Exec.load_box_agg (ds := [Vi (u.At), Vi (u.Job)]) (aW) A56 rfl rfl rfl ?_)))
    obtain ⟨hi, g6, ao⟩ := Zg ao
    refine WL_run rfl (Zf rfl (Zx al)) rfl (Tc rfl rfl rfl (Zi rfl (Zi rfl args_nil)) (ref55_End_sim g6 aW (a6.mono (Zt (Zt (Zt (Zt (Zt (Zt (Zt (Zt a g) i) d) b) y) af) aq) a1)) (a7.mono (Zt (Zt (Zt (Zt (Zt (Zt (Zt (Zt a g) i) d) b) y) af) aq) a1)) (a8.mono (Zt (Zt (Zt (Zt (Zt (Zt (Zt (Zt a g) i) d) b) y) af) aq) a1)) (a9.mono (Zt (Zt (Zt (Zt (Zt (Zt (Zt (Zt a g) i) d) b) y) af) aq) a1))).r ?_)
    rintro _ jO ⟨d1, bJ, bG, rfl⟩
    refine WL_run rfl (Zf rfl (Zx al)) rfl (Zm (v := Vi (au)) rfl b2 (WL_run rfl (Zf rfl (Zx al)) rfl (Exec.eql rfl rfl rfl (WL_run rfl (Zf rfl (Zx al)) rfl (Zm (v := Value.bool (decide (hi = au))) rfl rfl ?_)))))
    rcases ite_some ao with ⟨a5, ao⟩ | ⟨a5, ao⟩
    ·refine WL_run rfl (Zf rfl (Zx a5)) rfl (Zm (v := t) rfl bl (WL_run rfl (Zf rfl (Zx a5)) rfl (Zm (v := Vi ((p : Int))) rfl rfl (WL_run rfl (Zf rfl (Zx a5)) rfl (Exec.index_rep S22 rfl rfl rfl (aJ.mono (Zt (Zt (Zt (Zt (Zt b y) af) aq) a1) bJ)) dd ?_)))))
     intro hq i0 dD
     refine WL_run rfl (Zf rfl (Zx a5)) rfl (Zw (E := (encInt .i64)) bG A3 rfl rfl rfl dD ?_)
     intro jm g7
     obtain rfl := encInt_val.1 g7
     refine WL_run rfl (Zf rfl (Zx a5)) rfl (Exec.neq rfl rfl rfl (WL_run rfl (Zf rfl (Zx al)) rfl (Zs (v := Value.bool (!decide (bZ = 0))) rfl (Zx a5) rfl (Za rfl rfl (Exec.pick_f (v := Value.bool (!decide (bZ = 0))) rfl (Zx al) rfl (Zb (Ze ?_)))))))
     have hL := Zu ao
     subst aU
     exact ⟨d1, bJ, (bG).f1, b1, bl, bN, b2, rfl, rfl, b3, b4, aR, rfl⟩
    replace a5 := Zk a5
    refine WL_passes 5 (by rw [a5]; rfl) ?_
    refine WL_run rfl (Zf rfl (Zx al)) rfl (Exec.pick_f (v := Value.bool (false)) rfl rfl rfl (Za rfl rfl (Exec.pick_f (v := Value.bool (false)) rfl (Zx al) rfl (Zb (Ze ?_)))))
    have hM := Zu ao
    subst aU
    exact ⟨d1, bJ, (bG).f1, b1, bl, bN, b2, rfl, rfl, b3, b4, aR, rfl⟩
   intro il jP dY
   obtain ⟨d2, bu, bs, cU, bO, b5, cV, bP, fT, cW, cX, cY, cZ⟩ := dY
   refine (Ze ?_)
   rcases ite_some ag with ⟨bg, ag⟩ | ⟨bg, ag⟩
   ·refine W_cond_t cZ bg (Zc (Zd (Za rfl rfl (Zo (v := Value.bool (false)) rfl rfl (Zb (Ze (W_ret (at_ret (ib_ret (at_ret (at_ret (ib_ret (at_ret (at_ret ?_))))))))))))))
    have hN := Zu ag
    subst b8
    have eM := cy _ (c0 (by intro _ h; cases h))
    have hO := Zu eM
    subst r
    refine ⟨_, ret1 rfl, ?_⟩
    exact ⟨d2, (Zt (Zt (Zt (Zt (Zt (Zt (Zt (Zt (Zt a g) i) d) b) y) af) aq) a1) bu), ((bs).drop).drop, rfl⟩
   refine W_cond_f cZ bg ?_
   replace bg := Zk bg
   refine W_skip (Ze (Zc (W_dl (n0 := 7) (qs 0 7 .done) hmix (by kernel_rfl) (by kernel_rfl) (DL_q rfl rfl (Zp F56_0 rfl fT rfl ⟨rfl, ?_⟩)))))
   refine DL_q rfl rfl (Zn ((bs.drew).f1) A3 rfl rfl rfl ⟨rfl, ?_⟩)
   refine DL_q rfl rfl (Zm (v := t) rfl bO ⟨rfl, ?_⟩)
   refine DL_q rfl rfl (Zm (v := Vi ((p : Int))) rfl bP ⟨rfl, ?_⟩)
   obtain ⟨aj, g8, ag⟩ := Zg ag
   refine DL_q rfl rfl (Exec.index_repE S22 rfl rfl rfl (aJ.mono (Zt (Zt (Zt (Zt (Zt b y) af) aq) a1) bu)) g8 ?_)
   intro hr i1 dE hP
   refine ⟨rfl, ?_⟩
   refine DL_q rfl rfl (Zw (E := (encInt .i64)) bs.drew A3 rfl rfl rfl dE ?_)
   intro jn g9
   obtain rfl := encInt_val.1 g9
   refine ⟨rfl, ?_⟩
   refine DL_q rfl rfl (Exec.add rfl rfl rfl ⟨rfl, ?_⟩)
   refine DL_done (Za rfl rfl (Zo (v := Vi (IntKind.i64.wrap (u.At + aj))) rfl rfl (Zb (Ze (Zc (W_mid (M := fun f' w' => ∃ (d3 : PHeap) , PHeap.le d2 d3 ∧ St w0 d3 (Res.box j 26 [l, m, n, o] :: H) w' ∧ f' 2 = Value.pointer (some ⟨j, 0, none⟩) ∧ f' 9 = t ∧ f' 11 = Value.pointer none ∧ f' 14 = Vi (au) ∧ f' 94 = q ∧ f' 95 = Vi ((am.length : Int)) ∧ f' 96 = Vi ((p : Int)) ∧ f' 150 = Value.bool ((((stn_Network_Add_nil_t (⟨IntKind.i64.wrap ((IntKind.i64.wrap (2 * (p : Int))) + 1), 0, IntKind.i64.wrap (0 - (IntKind.i64.wrap (u.At + aj)))⟩ : Bound)).isSome) || !(base_Is_t (stn_Network_Add_nil_t (⟨IntKind.i64.wrap ((IntKind.i64.wrap (2 * (p : Int))) + 1), 0, IntKind.i64.wrap ((IntKind.i64.wrap (0 - (IntKind.i64.wrap (u.At + aj)))) - 1)⟩ : Bound)) 21)))) ?_ ?_))))))
   ·refine Zd (Za rfl rfl (Zm (v := Value.pointer none) rfl b5 (Za rfl rfl (Tc rfl rfl rfl (Zi rfl args_nil) (stn_Network_Copy_nil_sim stn_Network_Copy_nil_tot bs.drew ).r ?_))))
    rintro _ jQ ⟨iO, c8, ez, rfl⟩
    refine Za rfl rfl (Zm (v := Vi ((p : Int))) rfl bP (Za rfl rfl (Exec.mul rfl rfl rfl (Za rfl rfl (Exec.add rfl rfl rfl (Za rfl rfl (Zm (v := Vi (IntKind.i64.wrap (u.At + aj))) rfl rfl (Za rfl rfl (Exec.neg rfl rfl (Za rfl rfl (Exec.build rfl (parts_cons (c := [Vi (IntKind.i64.wrap ((IntKind.i64.wrap (2 * (p : Int))) + 1))]) (cells_of rfl rfl) (parts_cons (c := [Vi (0)]) (cells_of rfl rfl) (parts_cons (c := [Vi (IntKind.i64.wrap (0 - (IntKind.i64.wrap (u.At + aj))))]) (cells_of rfl rfl) parts_nil))) (v := Value.agg #[Vi (IntKind.i64.wrap ((IntKind.i64.wrap (2 * (p : Int))) + 1)), Vi (0), Vi (IntKind.i64.wrap (0 - (IntKind.i64.wrap (u.At + aj))))]) (fun _ => by kernel_rfl) (Za rfl rfl (Tc rfl rfl rfl (Zi rfl (Zi rfl args_nil)) (stn_Network_Add_nil_sim (stn_Network_Add_nil_tot (⟨IntKind.i64.wrap ((IntKind.i64.wrap (2 * (p : Int))) + 1), 0, IntKind.i64.wrap (0 - (IntKind.i64.wrap (u.At + aj)))⟩ : Bound)) ez ).r ?_)))))))))))))
    rintro _ jR ⟨gN, c9, cq, rfl⟩
    refine Za rfl rfl (Exec.err_neq_nil (T := 60) Tryz.underlying31 rfl rfl rfl (Za rfl rfl (Zm (v := Value.bool ((stn_Network_Add_nil_t (⟨IntKind.i64.wrap ((IntKind.i64.wrap (2 * (p : Int))) + 1), 0, IntKind.i64.wrap (0 - (IntKind.i64.wrap (u.At + aj)))⟩ : Bound)).isSome)) rfl rfl ?_)))
    by_cases z : ((stn_Network_Add_nil_t (⟨IntKind.i64.wrap ((IntKind.i64.wrap (2 * (p : Int))) + 1), 0, IntKind.i64.wrap (0 - (IntKind.i64.wrap (u.At + aj)))⟩ : Bound)).isSome) = true
    ·refine WL_passes 13 (by rw [z]; rfl) ?_
     refine Zb (Ze ?_)
     exact ⟨gN, (Zt c8 c9), ((cq).f1).drop, cU, bO, b5, cV, cW, cX, cY, (Zx (or_t z)).symm⟩
    replace z := Zk z
    refine WL_run rfl (Zf rfl (Zx z)) rfl (Zm (v := Value.pointer none) rfl b5 (WL_run rfl (Zf rfl (Zx z)) rfl (Tc rfl rfl rfl (Zi rfl args_nil) (stn_Network_Copy_nil_sim stn_Network_Copy_nil_tot cq ).r ?_)))
    rintro _ jS ⟨iP, ff, e0, rfl⟩
    refine WL_run rfl (Zf rfl (Zx z)) rfl (Zm (v := Vi ((p : Int))) rfl bP (WL_run rfl (Zf rfl (Zx z)) rfl (Exec.mul rfl rfl rfl (WL_run rfl (Zf rfl (Zx z)) rfl (Exec.add rfl rfl rfl (WL_run rfl (Zf rfl (Zx z)) rfl (Zm (v := Vi (IntKind.i64.wrap (u.At + aj))) rfl rfl (WL_run rfl (Zf rfl (Zx z)) rfl (Exec.neg rfl rfl (WL_run rfl (Zf rfl (Zx z)) rfl (Exec.sub rfl rfl rfl (WL_run rfl (Zf rfl (Zx z)) rfl (Exec.build rfl (parts_cons (c := [Vi (IntKind.i64.wrap ((IntKind.i64.wrap (2 * (p : Int))) + 1))]) (cells_of rfl rfl) (parts_cons (c := [Vi (0)]) (cells_of rfl rfl) (parts_cons (c := [Vi (IntKind.i64.wrap ((IntKind.i64.wrap (0 - (IntKind.i64.wrap (u.At + aj)))) - 1))]) (cells_of rfl rfl) parts_nil))) (v := Value.agg #[Vi (IntKind.i64.wrap ((IntKind.i64.wrap (2 * (p : Int))) + 1)), Vi (0), Vi (IntKind.i64.wrap ((IntKind.i64.wrap (0 - (IntKind.i64.wrap (u.At + aj)))) - 1))]) (fun _ => by kernel_rfl) (WL_run rfl (Zf rfl (Zx z)) rfl (Tc rfl rfl rfl (Zi rfl (Zi rfl args_nil)) (stn_Network_Add_nil_sim (stn_Network_Add_nil_tot (⟨IntKind.i64.wrap ((IntKind.i64.wrap (2 * (p : Int))) + 1), 0, IntKind.i64.wrap ((IntKind.i64.wrap (0 - (IntKind.i64.wrap (u.At + aj)))) - 1)⟩ : Bound)) e0 ).r ?_)))))))))))))))
    rintro _ jT ⟨iQ, fg, e1, rfl⟩
    refine WL_run rfl (Zf rfl (Zx z)) rfl (Tc rfl rfl rfl (Zi rfl (Zi rfl args_nil)) (base_Is_sim (base_Is_tot (stn_Network_Add_nil_t (⟨IntKind.i64.wrap ((IntKind.i64.wrap (2 * (p : Int))) + 1), 0, IntKind.i64.wrap ((IntKind.i64.wrap (0 - (IntKind.i64.wrap (u.At + aj)))) - 1)⟩ : Bound)) 21) e1 ).r ?_)
    rintro _ jU ⟨gO, fh, e2, rfl⟩
    refine WL_run rfl (Zf rfl (Zx z)) rfl (Exec.not rfl rfl (Za rfl rfl (Exec.pick_f (v := Value.bool (!(base_Is_t (stn_Network_Add_nil_t (⟨IntKind.i64.wrap ((IntKind.i64.wrap (2 * (p : Int))) + 1), 0, IntKind.i64.wrap ((IntKind.i64.wrap (0 - (IntKind.i64.wrap (u.At + aj)))) - 1)⟩ : Bound)) 21))) rfl (Zx z) rfl (Zb (Ze ?_)))))
    exact ⟨gO, (Zt (Zt (Zt (Zt c8 c9) ff) fg) fh), ((e2).f1).drop, cU, bO, b5, cV, cW, cX, cY, (Zx (or_f z)).symm⟩
   intro im jV dZ
   obtain ⟨d4, cA, cr, fU, fV, fW, fX, fY, fZ, ga, da⟩ := dZ
   refine (Ze ?_)
   rcases ite_some ag with ⟨bh, ag⟩ | ⟨bh, ag⟩
   ·refine W_cond_t da bh (Zc (Zd (Za rfl rfl (Zo (v := Value.bool (false)) rfl rfl (Zb (Ze (W_ret (ib_ret (at_ret (at_ret (ib_ret (at_ret (at_ret ?_)))))))))))))
    have hQ := Zu ag
    subst b8
    have eN := cy _ (c0 (by intro _ h; cases h))
    have hR := Zu eN
    subst r
    refine ⟨_, ret1 rfl, ?_⟩
    exact ⟨d4, (Zt (Zt (Zt (Zt (Zt (Zt (Zt (Zt (Zt (Zt a g) i) d) b) y) af) aq) a1) bu) cA), (cr).drop, rfl⟩
   refine W_cond_f da bh ?_
   replace bh := Zk bh
   refine W_skip (ib_normal (Ze (Zd (Za rfl rfl (Exec.add rfl ga rfl (Za rfl rfl (Zm (v := Vi (IntKind.i64.wrap ((p : Int) + 1))) rfl rfl (Zb (Ze ?_)))))))))
   have hT := Zu ag
   subst b8
   refine ⟨_, rfl, ?_⟩; exact ⟨d4, (Zt (Zt a1 bu) cA), cr, fU, fV, fW, fX, fY, fZ, (Eq.trans rfl (wrap_up eC (SliceRep.le (ar.mono (Zt (Zt (Zt (Zt d b) y) af) aq)))))⟩
  intro iY io jW dQ eV
  obtain ⟨gP, fi, e3, gb, gc, gd, gf, gg, db, hb⟩ := dQ
  refine Zc (Zd (Za rfl rfl (Zq rfl hb db (Zb (Ze (Zc (W_false (Zx (decide_eq_false (by omega))) (W_exit (at_exit (at_exit (ib_here (Ze ?_))))))))))))
  refine ⟨_, .inl eV, ?_⟩; exact ⟨gP, fi, e3, gb, gc, gd, gf, gg, db⟩
 rintro ip jX ⟨iZ, cw, ea⟩
 have hm := cw.elim (eG _) (e8 _)
 clear cw
 obtain ⟨gQ, fj, e4, iA, iB, iC, iD, iE, iF⟩ := ea
 refine (Ze (Zc (Zd (Za rfl rfl (Zo (v := Value.bool (true)) rfl rfl (Zb (Ze (W_ret ?_))))))))
 have hU := Zu hm
 subst r
 refine ⟨_, ret1 rfl, ?_⟩
 exact ⟨gQ, (Zt (Zt (Zt (Zt (Zt (Zt (Zt (Zt a g) i) d) b) y) af) aq) fj), (e4).drop, rfl⟩
end Go.Pw
