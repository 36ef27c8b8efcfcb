/-
  The walks (printed by my generator).
-/
import Derived.Test.YtoofdhjblbnppaaGreatL29
import Derived.Test.YtoofdhjblbnppaaGreatL27
import Derived.Test.YtoofdhjblbnppaaGreatYz4
set_option maxRecDepth 100000
set_option maxHeartbeats 4000000
set_option linter.unusedVariables false
namespace Go.Pw
open Go.Proofs
theorem ref55_Makespan_sim {w0 w : World} {s : PHeap} {H : List Res} {g : Temporal} {p : (List Launch)} {h : Value} {i : Value} {j : Value} {l : Value} {m : Value} {r : Int} (hm : ref55_Makespan_p g p = some r) (hS : St w0 s (H) w) (ac : SliceRep (encInt .i64) s h g.Vars) (ad : SliceRep (encInt .i64) s i g.Init) (ae : SliceRep encFact s j g.Goal) (af : SliceRep encJob s l g.Jobs) (n : SliceRep encLaunch s m p) :
  Calls Tryz.prog 19 #[Value.agg #[h, i, j, l], m] w fun e w' => ∃ v, e = .returned v ∧ ((fun (a4 : Int) => ∃ (aa : PHeap) , PHeap.le s aa ∧ St w0 aa (H) w' ∧ v = Vi (a4)) r) := by
 unfold ref55_Makespan_p at hm
 refine calls_of_W Tryz.func19 rfl rfl (Zc (Zd (Za rfl rfl (Exec.box (cs := [h, i, j, l]) hS rfl rfl rfl ?_))))
 intro t aH ak
 refine Za rfl rfl (Zo (v := Vi (0)) rfl rfl (Zb (Ze (Zc (Zd (Za rfl rfl (Zo (v := Vi (0)) rfl rfl (Zb (Ze (Zc (Zc (Zd (Za rfl rfl (Zm (v := m) rfl rfl (Za rfl rfl (Zr S27 rfl rfl n (Za rfl rfl (Zm (v := Vi (0)) rfl rfl (Zb (Ze ?_))))))))))))))))))))
 obtain ⟨a, ah, hm⟩ := Zg hm
 refine W_block (W_forS (fun k' s' f' w' => (fun (a : Int) => ∃ (ab : PHeap) , PHeap.le s ab ∧ St w0 ab (Res.box t 26 [h, i, j, l] :: H) w' ∧ f' 2 = Value.pointer (some ⟨t, 0, none⟩) ∧ f' 5 = Vi (a) ∧ f' 8 = m ∧ f' 9 = Vi ((p.length : Int)) ∧ f' 10 = Vi (k' : Int)) s') ah ?_ ?_ ?_)
 ·exact ⟨s, (Zv _), ak, rfl, rfl, rfl, rfl, rfl⟩
 ·intro ap a a0 aA aI ao ai d
  obtain ⟨aF, b, u, x, au, y, z, q⟩ := ai
  refine Zc (Zd (Za rfl rfl (Zq rfl q z (Zb (Ze (Zc (W_true (Zx (decide_eq_true (by omega))) (W_skip (Ze (Zc (W_block (Zc (Zd ?_)))))))))))))
  obtain ⟨c, ax, d⟩ := Zg d
  refine Za rfl rfl (Exec.index_rep S27 rfl y q (n.mono b) ax ?_)
  intro a6 aC ag
  refine Za rfl rfl (Zw (E := encLaunch) u A56 rfl rfl rfl ag ?_)
  intro aG ay
  obtain rfl := encLaunch_val.1 ay
  refine Za rfl rfl (Exec.alloc (cs := [Vi (0), Vi (0)]) u Z56 rfl rfl ?_)
  intro a7 aJ al
  refine Za rfl rfl (Exec.store_box (ds := [Vi (c.At), Vi (c.Job)]) (es := [Vi (c.At), Vi (c.Job)]) al A56 rfl rfl rfl rfl (Zj rfl (Zj rfl one_nil)) (Nat.le_of_ble_eq_true rfl) rfl ?_)
  intro aK o
  refine Zb (Ze (Zd (Za rfl rfl (Zm (v := Vi (a)) rfl au (Za rfl rfl (Exec.load_box_agg (ds := [h, i, j, l]) ((o).f1) A26 rfl x rfl (Za rfl rfl (Exec.load_box_agg (ds := [Vi (c.At), Vi (c.Job)]) (o) A56 rfl rfl rfl ?_))))))))
  obtain ⟨a5, az, d⟩ := Zg d
  refine Za rfl rfl (Tc rfl rfl rfl (Zi rfl (Zi rfl args_nil)) (ref55_End_sim az o (ac.mono b) (ad.mono b) (ae.mono b) (af.mono b)).r ?_)
  rintro _ aL ⟨a1, aq, am, rfl⟩
  refine Za rfl rfl (Exec.max2 rfl rfl rfl (Za rfl rfl (Zo (v := Vi (max a a5)) rfl rfl (Zb (ib_normal (Ze (Zd (Za rfl rfl (Exec.add rfl q rfl (Za rfl rfl (Zm (v := Vi (IntKind.i64.wrap ((ap : Int) + 1))) rfl rfl (Zb (Ze ?_)))))))))))))
  have a8 := Zu d
  subst a0
  exact ⟨a1, (Zt b aq), (am).drop, x, rfl, y, z, (Eq.trans rfl (wrap_up ao (SliceRep.le n)))⟩
 intro aB aM aj
 obtain ⟨a2, ar, an, aD, av, aE, aw, a3⟩ := aj
 refine Zc (Zd (Za rfl rfl (Zq rfl a3 aw (Zb (Ze (Zc (W_false (Zx (decide_eq_false (by omega))) (W_exit (at_exit (at_exit (ib_here (Ze (Zc (Zd (Za rfl rfl (Zm (v := Vi (a)) rfl av (Za rfl rfl (Zo (v := Vi (a)) rfl rfl (Zb (Ze (W_ret ?_)))))))))))))))))))))
 have a9 := Zu hm
 subst r
 refine ⟨_, ret1 rfl, ?_⟩
 exact ⟨a2, ar, (an).drop, rfl⟩
theorem ref57_Slack_sim {w0 w : World} {s : PHeap} {H : List Res} {aa : Temporal} {a6 : (List Launch)} {m : Value} {n : Value} {o : Value} {p : Value} {ag : Value} {r : (List Int)} (hm : ref57_Slack_p aa a6 = some r) (hS : St w0 s (H) w) (ak : SliceRep (encInt .i64) s m aa.Vars) (al : SliceRep (encInt .i64) s n aa.Init) (am : SliceRep encFact s o aa.Goal) (an : SliceRep encJob s p aa.Jobs) (a1 : SliceRep encLaunch s ag a6) :
  Calls Tryz.prog 14 #[Value.agg #[m, n, o, p], ag] w fun e w' => ∃ v, e = .returned v ∧ ((fun (bO : (List Int)) => ∃ (ay : PHeap) (aF : Value), PHeap.le s ay ∧ St w0 ay (H) w' ∧ v = aF ∧ SliceRep (encInt .i64) ay aF bO) r) := by
 unfold ref57_Slack_p at hm
 refine calls_of_W Tryz.func14 rfl rfl (Zc (Zd (Za rfl rfl (Exec.box (cs := [m, n, o, p]) hS rfl rfl rfl ?_))))
 intro bP cx a2
 refine Za rfl rfl (Zo (v := Value.slice none 0 0) rfl rfl (Zb (Ze (Zc (Zd (Za rfl rfl (Exec.load_box_agg (ds := [m, n, o, p]) (a2) A26 rfl rfl rfl (Za rfl rfl (Zm (v := ag) rfl rfl ?_)))))))))
 obtain ⟨bK, bz, hm⟩ := Zg hm
 obtain ⟨cF, ab⟩ := bK
 replace hm := un2_eq hm
 refine Za rfl rfl (Tc rfl rfl rfl (Zi rfl (Zi rfl args_nil)) (ref57_Network_sim bz a2 ak al am an a1).r ?_)
 rintro _ cy ⟨cm, ah, d, a3, rfl⟩
 refine Za rfl rfl (Zm (v := Value.tuple #[ah, Vi (ab)]) rfl rfl (Za rfl rfl (Exec.extract (v := ah) rfl rfl rfl (Za rfl rfl (Exec.extract (v := Vi (ab)) rfl rfl rfl (Za rfl rfl (Zo (v := ah) rfl rfl (Za rfl rfl (Zo (v := Vi (ab)) rfl rfl (Zb (Ze (Zc (Zd (Za rfl rfl (Exec.load_box_agg (ds := [m, n, o, p]) ((a3).f1) A26 rfl rfl rfl (Za rfl rfl (Zm (v := ag) rfl rfl ?_)))))))))))))))))
 obtain ⟨aI, b0, hm⟩ := Zg hm
 refine Za rfl rfl (Tc rfl rfl rfl (Zi rfl (Zi rfl args_nil)) (ref57_Shift_sim b0 a3 (ak.mono d) (al.mono d) (am.mono d) (an.mono d) (a1.mono d)).r ?_)
 rintro t cz ⟨cn, _, z, a4, rfl, l⟩
 refine Za rfl rfl (Zo (v := t) rfl rfl (Zb (Ze (Zc (Zd (Za rfl rfl (Exec.load_box_agg (ds := [m, n, o, p]) ((a4).f1) A26 rfl rfl rfl (Za rfl rfl (Zm (v := t) rfl rfl ?_)))))))))
 obtain ⟨b, b1, hm⟩ := Zg hm
 refine Za rfl rfl (Tc rfl rfl rfl (Zi rfl (Zi rfl args_nil)) (ref55_Makespan_sim b1 a4 (ak.mono (Zt d z)) (al.mono (Zt d z)) (am.mono (Zt d z)) (an.mono (Zt d z)) l).r ?_)
 rintro _ c0 ⟨aB, j, aU, rfl⟩
 refine Za rfl rfl (Zo (v := Vi (b)) rfl rfl (Zb (Ze (Zc (Zc (Zd (Za rfl rfl (Zm (v := t) rfl rfl (Za rfl rfl (Zr S27 rfl rfl (l.mono j) (Za rfl rfl (Zm (v := Vi (0)) rfl rfl (Zb (Ze ?_))))))))))))))
 obtain ⟨aq, aO, hm⟩ := Zg hm
 refine W_block (W_forS (fun k' s' f' w' => (fun (aq : (List Bound)) => ∃ (aC : PHeap) (u : Value), PHeap.le aB aC ∧ St w0 aC (Res.arr encBound 49 u aq :: H) w' ∧ f' 5 = u ∧ f' 6 = Vi (ab) ∧ f' 7 = t ∧ f' 8 = Vi (b) ∧ f' 28 = Vi ((aI.length : Int)) ∧ f' 29 = Vi (k' : Int)) s') aO ?_ ?_ ?_)
 ·have aV := ((aU).f1).drop
  exact ⟨aB, ah, (Zv _), aV, rfl, rfl, rfl, rfl, rfl, rfl⟩
 ·intro a aq bF ca c1 bj aQ ap
  obtain ⟨co, u, bl, aW, bp, bq, br, a7, a8, az⟩ := aQ
  refine Zc (Zd (Za rfl rfl (Zq rfl az a8 (Zb (Ze (Zc (W_true (Zx (decide_eq_true (by omega))) (W_skip (Ze (Zc (W_block (Zc (Zd (Za rfl rfl (Zm (v := Vi ((a : Int))) rfl az (Za rfl rfl (Zo (v := Vi ((a : Int))) rfl rfl (Zb (Ze (Zd (Za rfl rfl (Zm (v := u) rfl bp (Za rfl rfl (Zm (v := Vi ((a : Int))) rfl rfl (Za rfl rfl (Tc rfl rfl rfl (Zi rfl (Zi rfl args_nil)) (ref57_point_sim (ref57_point_tot (a : Int) true) aW ).r ?_))))))))))))))))))))))))))
  rintro _ c2 ⟨bG, bm, aX, rfl⟩
  refine Za rfl rfl (Zm (v := Vi (b)) rfl a7 (Za rfl rfl (Exec.build rfl (parts_cons (c := [Vi (0)]) (cells_of rfl rfl) (parts_cons (c := [Vi ((ref57_point_t (a : Int) true))]) (cells_of rfl rfl) (parts_cons (c := [Vi (b)]) (cells_of rfl rfl) parts_nil))) (v := Value.agg #[Vi (0), Vi ((ref57_point_t (a : Int) true)), Vi (b)]) (fun _ => by kernel_rfl) (Za rfl rfl (Exec.buildSlice (Te := 49) (cs := [Vi (0), Vi ((ref57_point_t (a : Int) true)), Vi (b)]) aX rfl (parts_cons (c := [Vi (0), Vi ((ref57_point_t (a : Int) true)), Vi (b)]) (cells_of rfl rfl) parts_nil) (fun _ => by kernel_rfl) ?_)))))
  intro bQ c3 aY
  obtain ⟨ce, b2, ap⟩ := Zg ap
  refine Za rfl rfl (Exec.append_box (E := encBound) (ys := [(⟨0, (ref57_point_t (a : Int) true), b⟩ : Bound)]) (aY).f1 S42 Z49 rfl (by decide) rfl rfl rfl rfl ⟨[Vi (0), Vi ((ref57_point_t (a : Int) true)), Vi (b)], [], rfl, ⟨[Vi (0)], [Vi ((ref57_point_t (a : Int) true)), Vi (b)], rfl, rfl, ⟨[Vi ((ref57_point_t (a : Int) true))], [Vi (b)], rfl, rfl, rfl⟩⟩, rfl⟩ rfl b2 ?_)
  intro aG c4 aZ
  refine Za rfl rfl (Zo (v := aG) rfl rfl (Zb (ib_normal (Ze (Zd (Za rfl rfl (Exec.add rfl az rfl (Za rfl rfl (Zm (v := Vi (IntKind.i64.wrap ((a : Int) + 1))) rfl rfl (Zb (Ze ?_)))))))))))
  have bW := Zu ap
  subst bF
  exact ⟨bG, aG, (Zt bl bm), aZ, rfl, bq, br, a7, a8, (Eq.trans rfl (wrap_up bj (SliceRep.le (l.mono j))))⟩
 intro cb c5 aR
 obtain ⟨cp, u, ad, ba, bs, bt, bu, cj, bv, bM⟩ := aR
 refine Zc (Zd (Za rfl rfl (Zq rfl bM bv (Zb (Ze (Zc (W_false (Zx (decide_eq_false (by omega))) (W_exit (at_exit (at_exit (ib_here (Ze (Zc (Zd (Za rfl rfl (Zm (v := Vi (ab)) rfl bt (Za rfl rfl (Zm (v := u) rfl bs ?_))))))))))))))))))
 obtain ⟨cq, ae, bb, bB⟩ := ba.freezeArr
 obtain ⟨bL, b3, hm⟩ := Zg hm
 obtain ⟨cG, a0⟩ := bL
 replace hm := un2_eq hm
 refine Za rfl rfl (Tc rfl rfl rfl (Zi rfl (Zi rfl args_nil)) (ref54_Distances_sim b3 bb bB).r ?_)
 rintro _ c6 ⟨aD, x, af, bc, rfl, bC⟩
 refine Za rfl rfl (Zm (v := Value.tuple #[x, Value.bool (a0)]) rfl rfl (Za rfl rfl (Exec.extract (v := x) rfl rfl rfl (Za rfl rfl (Exec.extract (v := Value.bool (a0)) rfl rfl rfl (Za rfl rfl (Zo (v := x) rfl rfl (Za rfl rfl (Zo (v := Value.bool (a0)) rfl rfl (Zb (Ze (Zc (Zd (Za rfl rfl (Zo (v := Value.slice none 0 0) rfl rfl (Zb (Ze (Zc (Zc (Zd (Za rfl rfl (Zm (v := t) rfl bu (Za rfl rfl (Zr S27 rfl rfl (l.mono (Zt (Zt (Zt j ad) ae) af)) (Za rfl rfl (Zm (v := Vi (0)) rfl rfl (Zb (Ze ?_))))))))))))))))))))))))))))
 obtain ⟨av, aP, hm⟩ := Zg hm
 refine W_block (W_forS (fun k' s' f' w' => (fun (av : (List Int)) => ∃ (aE : PHeap) (g : Value), PHeap.le aD aE ∧ St w0 aE (Res.arr (encInt .i64) 3 g av :: H) w' ∧ f' 10 = x ∧ f' 12 = g ∧ f' 46 = t ∧ f' 47 = Vi ((aI.length : Int)) ∧ f' 48 = Vi (k' : Int)) s') aP ?_ ?_ ?_)
 ·have bd := bc.nilArr (encInt .i64) 3
  exact ⟨aD, (Value.slice none 0 0), (Zv _), bd, rfl, rfl, rfl, rfl, rfl⟩
 ·intro y av bH cc c7 bk aS h
  obtain ⟨cr, g, ar, a5, aw, ax, a9, aA, ai⟩ := aS
  refine Zc (Zd (Za rfl rfl (Zq rfl ai aA (Zb (Ze (Zc (W_true (Zx (decide_eq_true (by omega))) (W_skip (Ze (Zc (W_block (Zc (Zd (Za rfl rfl (Zm (v := Vi ((y : Int))) rfl ai ?_)))))))))))))))
  obtain ⟨i, b4, h⟩ := Zg h
  refine Za rfl rfl (Exec.index_rep S27 rfl a9 ai (l.mono (Zt (Zt (Zt (Zt j ad) ae) af) ar)) b4 ?_)
  intro bR cg aJ
  refine Za rfl rfl (Zw (E := encLaunch) a5 A56 rfl rfl rfl aJ ?_)
  intro cu b5
  obtain rfl := encLaunch_val.1 b5
  refine Za rfl rfl (Exec.alloc (cs := [Vi (0), Vi (0)]) a5 Z56 rfl rfl ?_)
  intro bS c8 be
  refine Za rfl rfl (Zo (v := Vi ((y : Int))) rfl rfl (Za rfl rfl (Exec.store_box (ds := [Vi (i.At), Vi (i.Job)]) (es := [Vi (i.At), Vi (i.Job)]) be A56 rfl rfl rfl rfl (Zj rfl (Zj rfl one_nil)) (Nat.le_of_ble_eq_true rfl) rfl ?_)))
  intro c9 ao
  refine Zb (Ze (W_dl (n0 := 13) (qs 0 5 (.q 8 (.q 9 (.e 5 [0, 1, 2, 3, 8, 9] (.q 6 (.q 7 (.q 10 (.e 11 [0] (.e 12 [] .done))))))))) hmix (by kernel_rfl) (by kernel_rfl) (DL_q rfl rfl (Zm (v := g) rfl ax ⟨rfl, ?_⟩))))
  refine DL_q rfl rfl (Zm (v := x) rfl aw ⟨rfl, ?_⟩)
  obtain ⟨cE, b6, h⟩ := Zg h
  refine DL_q rfl rfl (Exec.index_repE S79 rfl rfl rfl (bC.mono ar) b6 ?_)
  intro bT ch aK aM
  refine ⟨rfl, ?_⟩
  refine DL_q rfl rfl (Exec.load_atR (E := (encSlice (encInt .i64))) ao.drew A22 rfl rfl rfl aK ?_)
  intro cv b7 aN
  have bD := encSlice_val.1 b7
  refine ⟨rfl, ?_⟩
  refine DL_q rfl rfl (Zm (v := Vi ((y : Int))) rfl rfl ⟨rfl, ?_⟩)
  refine DL_q rfl rfl (Zp F56_0 rfl rfl rfl ⟨rfl, ?_⟩)
  refine DL_q rfl rfl (Zn (ao.drew) A3 rfl rfl rfl ⟨rfl, ?_⟩)
  refine DL_e rfl rfl (Tc rfl rfl rfl (Zi rfl (Zi rfl args_nil)) (ref57_point_sim (ref57_point_tot (y : Int) false) ao.drew ).r ?_)
  rintro _ cA ⟨bI, au, ac, rfl⟩
  refine ⟨(ag_cons (ag_r rfl rfl (Zm (v := g) rfl ax ⟨rfl, rfl⟩)) (ag_cons (ag_r rfl rfl (Zm (v := x) rfl aw ⟨rfl, rfl⟩)) (ag_cons (ag_r rfl rfl (Exec.index_run rfl rfl rfl aM ⟨rfl, rfl⟩)) (ag_cons (ag_r rfl rfl (Exec.load_run rfl rfl (aN au ac) ⟨rfl, rfl⟩)) (ag_cons (ag_r rfl rfl (Zp F56_0 rfl rfl rfl ⟨rfl, rfl⟩)) (ag_cons (ag_r rfl rfl (Zn (ac) A3 rfl rfl rfl ⟨rfl, rfl⟩)) ag_nil)))))), ?_⟩
  obtain ⟨aj, b8, h⟩ := Zg h
  refine DL_q rfl rfl (Exec.index_repE S22 rfl rfl rfl (bD.mono au) b8 ?_)
  intro bU ci aL bX
  refine ⟨rfl, ?_⟩
  refine DL_q rfl rfl (Zw (E := (encInt .i64)) ac A3 rfl rfl rfl aL ?_)
  intro cw b9
  obtain rfl := encInt_val.1 b9
  refine ⟨rfl, ?_⟩
  refine DL_q rfl rfl (Exec.sub rfl rfl rfl ⟨rfl, ?_⟩)
  refine DL_e rfl rfl (Exec.buildSlice (Te := 3) (cs := [Vi (IntKind.i64.wrap (aj - i.At))]) ac rfl (parts_cons (c := [Vi (IntKind.i64.wrap (aj - i.At))]) (cells_of rfl rfl) parts_nil) (fun _ => by kernel_rfl) ?_)
  intro bV cB bf
  refine ⟨(ag_cons (ag_r rfl rfl (Zm (v := g) rfl ax ⟨rfl, rfl⟩)) ag_nil), ?_⟩
  obtain ⟨cf, bA, h⟩ := Zg h
  refine DL_e rfl rfl (Exec.append_box (E := (encInt .i64)) (ys := [IntKind.i64.wrap (aj - i.At)]) (bf).f2 S22 Z3 rfl (by decide) rfl rfl rfl rfl ⟨[Vi (IntKind.i64.wrap (aj - i.At))], [], rfl, rfl, rfl⟩ rfl bA ?_)
  intro aH cC bg
  refine ⟨ag_nil, ?_⟩
  refine DL_done (Za rfl rfl (Zo (v := aH) rfl rfl (Zb (ib_normal (Ze (Zd (Za rfl rfl (Exec.add rfl ai rfl (Za rfl rfl (Zm (v := Vi (IntKind.i64.wrap ((y : Int) + 1))) rfl rfl (Zb (Ze ?_))))))))))))
  have bY := Zu h
  subst bH
  exact ⟨bI, aH, (Zt ar au), ((bg).f1).drop, aw, rfl, a9, aA, (Eq.trans rfl (wrap_up bk (SliceRep.le (l.mono (Zt (Zt (Zt j ad) ae) af)))))⟩
 intro cd cD aT
 obtain ⟨ct, g, bn, bh, ck, bw, cl, bx, bN⟩ := aT
 refine Zc (Zd (Za rfl rfl (Zq rfl bN bx (Zb (Ze (Zc (W_false (Zx (decide_eq_false (by omega))) (W_exit (at_exit (at_exit (ib_here (Ze (Zc (Zd (Za rfl rfl (Zm (v := g) rfl bw (Za rfl rfl (Zo (v := g) rfl rfl (Zb (Ze (W_ret ?_)))))))))))))))))))))
 have bZ := Zu hm
 subst r
 refine ⟨_, ret1 rfl, ?_⟩
 obtain ⟨bJ, bo, bi, bE⟩ := bh.freezeArr
 exact ⟨bJ, g, (Zt (Zt (Zt (Zt (Zt (Zt (Zt d z) j) ad) ae) af) bn) bo), bi, rfl, bE⟩
theorem law57_ScheduleShifts_sim {w0 w : World} {s : PHeap} {H : List Res} {t1 : Temporal} {l10 : (List Launch)} {v2 : Value} {v4 : Value} {v6 : Value} {v8 : Value} {v11 : Value} {r : Bool} (hm : law57_ScheduleShifts_p t1 l10 = some r) (hS : St w0 s (H) w) (a3 : SliceRep (encInt .i64) s v2 t1.Vars) (a5 : SliceRep (encInt .i64) s v4 t1.Init) (a7 : SliceRep encFact s v6 t1.Goal) (a9 : SliceRep encJob s v8 t1.Jobs) (a12 : SliceRep encLaunch s v11 l10) :
  Calls Tryz.prog 3 #[Value.agg #[v2, v4, v6, v8], v11] w fun e w' => ∃ v, e = .returned v ∧ ((fun (y14 : Bool) => ∃ (ap : PHeap) , PHeap.le s ap ∧ St w0 ap (H) w' ∧ v = Value.bool (y14)) r) := by
 unfold law57_ScheduleShifts_p at hm
 refine calls_of_W Tryz.func3 rfl rfl (Zc (Zd (Za rfl rfl (Exec.box (cs := [v2, v4, v6, v8]) hS rfl rfl rfl ?_))))
 intro al bu aw
 refine Za rfl rfl (Zo (v := Value.bool (false)) rfl rfl (Zb (Ze (Zc (Zc ?_)))))
 obtain ⟨z, k, hm⟩ := Zg hm
 refine W_mid (M := fun f' w' => (fun (z : Bool) => ∃ (aq : PHeap) , PHeap.le s aq ∧ St w0 aq (Res.box al 26 [v2, v4, v6, v8] :: H) w' ∧ f' 1 = v11 ∧ f' 2 = Value.pointer (some ⟨al, 0, none⟩) ∧ f' 18 = Value.bool (z)) z) ?_ ?_
 ·refine Zd ?_
  obtain ⟨ba, aC, k⟩ := Zg k
  refine Za rfl rfl (Tc rfl rfl rfl args_nil (law57_awake_sim aC aw ).r ?_)
  rintro _ bv ⟨aQ, o, af, rfl⟩
  refine Za rfl rfl (Exec.not rfl rfl (Za rfl rfl (Zm (v := Value.bool (!ba)) rfl rfl ?_)))
  rcases ite_some k with ⟨j, k⟩ | ⟨j, k⟩
  ·refine WL_passes 5 (by rw [j]; rfl) ?_
   refine Zb (Ze ?_)
   have bd := Zu k
   subst z
   exact ⟨aQ, o, af, rfl, rfl, rfl⟩
  replace j := Zk j
  refine WL_run rfl (Zf rfl (Zx j)) rfl (Exec.load_box_agg (ds := [v2, v4, v6, v8]) (af) A26 rfl rfl rfl (WL_run rfl (Zf rfl (Zx j)) rfl (Zm (v := v11) rfl rfl ?_)))
  obtain ⟨bb, aD, k⟩ := Zg k
  refine WL_run rfl (Zf rfl (Zx j)) rfl (Tc rfl rfl rfl (Zi rfl (Zi rfl args_nil)) (law57_few_sim aD af (a3.mono o) (a5.mono o) (a7.mono o) (a9.mono o) (a12.mono o)).r ?_)
  rintro _ bw ⟨aR, a4, ax, rfl⟩
  refine WL_run rfl (Zf rfl (Zx j)) rfl (Exec.not rfl rfl (Za rfl rfl (Exec.pick_f (v := Value.bool (!bb)) rfl (Zx j) rfl (Zb (Ze ?_)))))
  have be := Zu k
  subst z
  exact ⟨aR, (Zt o a4), ax, rfl, rfl, rfl⟩
 intro bm bx au
 obtain ⟨bo, a, ag, u, x, ao⟩ := au
 refine (Ze ?_)
 rcases ite_some hm with ⟨q, hm⟩ | ⟨q, hm⟩
 ·refine W_cond_t ao q (Zc (Zd ?_))
  obtain ⟨bc, aE, hm⟩ := Zg hm
  refine Za rfl rfl (Tc rfl rfl rfl args_nil (law57_awake_sim aE ag ).r ?_)
  rintro _ bz ⟨aS, a6, ay, rfl⟩
  refine Za rfl rfl (Zo (v := Value.bool (bc)) rfl rfl (Zb (Ze (W_ret (at_ret ?_)))))
  have bf := Zu hm
  subst r
  refine ⟨_, ret1 rfl, ?_⟩
  exact ⟨aS, (Zt a a6), (ay).drop, rfl⟩
 refine W_cond_f ao q ?_
 replace q := Zk q
 refine W_skip (Ze (Zc (Zc (Zd (Za rfl rfl (Exec.load_box_agg (ds := [v2, v4, v6, v8]) (ag) A26 rfl x rfl (Za rfl rfl (Zm (v := v11) rfl u ?_))))))))
 obtain ⟨aX, aF, hm⟩ := Zg hm
 obtain ⟨ak, ad⟩ := aX
 replace hm := un2_eq hm
 refine Za rfl rfl (Tc rfl rfl rfl (Zi rfl (Zi rfl args_nil)) (temporal_Validate_sim aF ag (a3.mono a) (a5.mono a) (a7.mono a) (a9.mono a) (a12.mono a)).r ?_)
 rintro _ b0 ⟨aT, b, ah, rfl⟩
 refine Za rfl rfl (Zm (v := Value.tuple #[Vi (ak), errV 60 (ad)]) rfl rfl (Za rfl rfl (Exec.extract (v := Vi (ak)) rfl rfl rfl (Za rfl rfl (Exec.extract (v := errV 60 (ad)) rfl rfl rfl (Za rfl rfl (Zo (v := Vi (ak)) rfl rfl (Za rfl rfl (Zo (v := errV 60 (ad)) rfl rfl (Zb (Ze (Zc (Zd (Za rfl rfl (Zm (v := errV 60 (ad)) rfl rfl (Za rfl rfl (Exec.err_neq_nil (T := 60) Tryz.underlying31 rfl rfl rfl (Zb (Ze ?_)))))))))))))))))))
 rcases ite_some hm with ⟨t, hm⟩ | ⟨t, hm⟩
 ·refine W_cond_t rfl t (Zc (Zd (Za rfl rfl (Zo (v := Value.bool (true)) rfl rfl (Zb (Ze (W_ret (at_ret ?_))))))))
  have bg := Zu hm
  subst r
  refine ⟨_, ret1 rfl, ?_⟩
  exact ⟨aT, (Zt a b), (ah).drop, rfl⟩
 refine W_cond_f rfl t ?_
 replace t := Zk t
 refine W_skip (Ze (Zc (Zd (Za rfl rfl (Exec.load_box_agg (ds := [v2, v4, v6, v8]) (ah) A26 rfl x rfl (Za rfl rfl (Zm (v := v11) rfl u ?_)))))))
 obtain ⟨aY, aG, hm⟩ := Zg hm
 obtain ⟨b8, y⟩ := aY
 replace hm := un2_eq hm
 refine Za rfl rfl (Tc rfl rfl rfl (Zi rfl (Zi rfl args_nil)) (schedule_Shift_sim aG ah (a3.mono (Zt a b)) (a5.mono (Zt a b)) (a7.mono (Zt a b)) (a9.mono (Zt a b)) (a12.mono (Zt a b))).r ?_)
 rintro _ b1 ⟨bp, ab, d, am, rfl, aM⟩
 refine Za rfl rfl (Zm (v := Value.tuple #[ab, errV 60 (y)]) rfl rfl (Za rfl rfl (Exec.extract (v := ab) rfl rfl rfl (Za rfl rfl (Exec.extract (v := errV 60 (y)) rfl rfl rfl (Za rfl rfl (Zo (v := ab) rfl rfl (Za rfl rfl (Zo (v := errV 60 (y)) rfl rfl (Zb (Ze (Zc (Zd (Za rfl rfl (Exec.load_box_agg (ds := [v2, v4, v6, v8]) (am) A26 rfl x rfl (Za rfl rfl (Zm (v := v11) rfl u ?_)))))))))))))))))
 obtain ⟨aZ, aH, hm⟩ := Zg hm
 obtain ⟨b9, ae⟩ := aZ
 replace hm := un2_eq hm
 refine Za rfl rfl (Tc rfl rfl rfl (Zi rfl (Zi rfl args_nil)) (schedule_Slack_sim aH am (a3.mono (Zt (Zt a b) d)) (a5.mono (Zt (Zt a b) d)) (a7.mono (Zt (Zt a b) d)) (a9.mono (Zt (Zt a b) d)) (a12.mono (Zt (Zt a b) d))).r ?_)
 rintro _ b2 ⟨aj, ac, g, aa, rfl, aN⟩
 refine Za rfl rfl (Zm (v := Value.tuple #[ac, errV 60 (ae)]) rfl rfl (Za rfl rfl (Exec.extract (v := ac) rfl rfl rfl (Za rfl rfl (Exec.extract (v := errV 60 (ae)) rfl rfl rfl (Za rfl rfl (Zo (v := ac) rfl rfl (Za rfl rfl (Zo (v := errV 60 (ae)) rfl rfl (Zb (Ze (Zc ?_))))))))))))
 obtain ⟨p, c, hm⟩ := Zg hm
 refine W_mid (M := fun f' w' => (fun (p : Bool) => ∃ (ar : PHeap) , PHeap.le aj ar ∧ St w0 ar (H) w' ∧ f' 4 = Value.bool (p)) p) ?_ ?_
 ·refine Zd (Za rfl rfl (Zm (v := errV 60 (y)) rfl rfl (Za rfl rfl (Exec.err_eql_nil (T := 60) Tryz.underlying31 rfl rfl rfl (Za rfl rfl (Zm (v := Value.bool (y.isNone)) rfl rfl ?_))))))
  rcases ite_some c with ⟨n, c⟩ | ⟨n, c⟩
  ·refine WL_run rfl (Zf rfl (Zx n)) rfl (Zm (v := errV 60 (ae)) rfl rfl (WL_run rfl (Zf rfl (Zx n)) rfl (Exec.err_eql_nil (T := 60) Tryz.underlying31 rfl rfl rfl ?_)))
   refine WL_passes 2 (by rw [n]; rfl) ?_
   rcases ite_some c with ⟨h, c⟩ | ⟨h, c⟩
   ·refine WL_run rfl (Zf rfl (Zx h)) rfl (Zm (v := ab) rfl rfl (WL_run rfl (Zf rfl (Zx h)) rfl (Exec.load_box_agg (ds := [v2, v4, v6, v8]) (aa) A26 rfl x rfl (WL_run rfl (Zf rfl (Zx h)) rfl (Zm (v := v11) rfl u ?_)))))
    obtain ⟨bA, aI, c⟩ := Zg c
    refine WL_run rfl (Zf rfl (Zx h)) rfl (Tc rfl rfl rfl (Zi rfl (Zi rfl args_nil)) (ref57_Shift_sim aI aa (a3.mono (Zt (Zt (Zt a b) d) g)) (a5.mono (Zt (Zt (Zt a b) d) g)) (a7.mono (Zt (Zt (Zt a b) d) g)) (a9.mono (Zt (Zt (Zt a b) d) g)) (a12.mono (Zt (Zt (Zt a b) d) g))).r ?_)
    rintro bs b3 ⟨bq, _, l, az, rfl, aO⟩
    obtain ⟨bB, aJ, c⟩ := Zg c
    refine WL_run rfl (Zf rfl (Zx h)) rfl (Tc rfl rfl rfl (Zi rfl (Zi rfl args_nil)) (law57_equal_sim aJ az (aM.mono (Zt g l)) aO).r ?_)
    rintro _ b4 ⟨aU, m, ai, rfl⟩
    refine WL_passes 2 (by rw [h]; rfl) ?_
    rcases ite_some c with ⟨i, c⟩ | ⟨i, c⟩
    ·refine WL_run rfl (Zf rfl (Zx i)) rfl (Zm (v := ac) rfl rfl (WL_run rfl (Zf rfl (Zx i)) rfl (Exec.load_box_agg (ds := [v2, v4, v6, v8]) (ai) A26 rfl x rfl (WL_run rfl (Zf rfl (Zx i)) rfl (Zm (v := v11) rfl u ?_)))))
     obtain ⟨bC, aK, c⟩ := Zg c
     refine WL_run rfl (Zf rfl (Zx i)) rfl (Tc rfl rfl rfl (Zi rfl (Zi rfl args_nil)) (ref57_Slack_sim aK ai (a3.mono (Zt (Zt (Zt (Zt (Zt a b) d) g) l) m)) (a5.mono (Zt (Zt (Zt (Zt (Zt a b) d) g) l) m)) (a7.mono (Zt (Zt (Zt (Zt (Zt a b) d) g) l) m)) (a9.mono (Zt (Zt (Zt (Zt (Zt a b) d) g) l) m)) (a12.mono (Zt (Zt (Zt (Zt (Zt a b) d) g) l) m))).r ?_)
     rintro bt b5 ⟨br, _, an, a0, rfl, aP⟩
     obtain ⟨bD, aL, c⟩ := Zg c
     refine WL_run rfl (Zf rfl (Zx i)) rfl (Tc rfl rfl rfl (Zi rfl (Zi rfl args_nil)) (base_Ints_sim aL a0 (aN.mono (Zt (Zt l m) an)) aP).r ?_)
     rintro _ b6 ⟨aV, a8, a1, rfl⟩
     refine WL_passes 2 (by rw [i]; rfl) ?_
     refine Zb (Ze ?_)
     have bh := Zu c
     subst p
     exact ⟨aV, (Zt (Zt (Zt l m) an) a8), (a1).drop, rfl⟩
    replace i := Zk i
    refine WL_passes 7 (by rw [i]; rfl) ?_
    refine Zb (Ze ?_)
    have bi := Zu c
    subst p
    exact ⟨aU, (Zt l m), (ai).drop, rfl⟩
   replace h := Zk h
   refine WL_passes 14 (by rw [h]; rfl) ?_
   refine Zb (Ze ?_)
   have bj := Zu c
   subst p
   exact ⟨aj, (Zv _), (aa).drop, rfl⟩
  replace n := Zk n
  refine WL_passes 18 (by rw [n]; rfl) ?_
  refine Zb (Ze ?_)
  have bk := Zu c
  subst p
  exact ⟨aj, (Zv _), (aa).drop, rfl⟩
 intro bn b7 av
 obtain ⟨aW, aA, a2, aB⟩ := av
 refine (Ze (W_ret ?_))
 have bl := Zu hm
 subst r
 refine ⟨_, ret1 rfl, ?_⟩
 exact ⟨aW, (Zt (Zt (Zt (Zt a b) d) g) aA), a2, aB⟩
end Go.Pw
