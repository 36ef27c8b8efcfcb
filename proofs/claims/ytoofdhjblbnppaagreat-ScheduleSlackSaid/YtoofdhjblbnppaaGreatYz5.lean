/-
  The walks (printed by my generator).
-/
import Derived.Test.YtoofdhjblbnppaaGreatL29
import Derived.Test.YtoofdhjblbnppaaGreatL27
import Derived.Test.YtoofdhjblbnppaaGreatYz4
set_option maxRecDepth 100000
set_option maxHeartbeats 4000000
set_option linter.unusedVariables false
namespace Go.Pw
open Go.Proofs
theorem ref55_Makespan_sim {w0 w : World} {s : PHeap} {H : List Res} {g : Temporal} {p : (List Launch)} {h : Value} {i : Value} {j : Value} {l : Value} {m : Value} {r : Int} (hm : ref55_Makespan_p g p = some r) (hS : St w0 s (H) w) (ac : SliceRep (encInt .i64) s h g.Vars) (ad : SliceRep (encInt .i64) s i g.Init) (ae : SliceRep encFact s j g.Goal) (af : SliceRep encJob s l g.Jobs) (n : SliceRep encLaunch s m p) :
  Calls Tryz.prog 19 #[Value.agg #[h, i, j, l], m] w fun e w' => ∃ v, e = .returned v ∧ ((fun (a4 : Int) => ∃ (aa : PHeap) , PHeap.le s aa ∧ St w0 aa (H) w' ∧ v = Vi (a4)) r) := by
 unfold ref55_Makespan_p at hm
 refine calls_of_W Tryz.func19 rfl rfl (Zc (Zd (Za rfl rfl (Exec.box (cs := [h, i, j, l]) hS rfl rfl rfl ?_))))
 intro t aH ak
 refine Za rfl rfl (Zo (v := Vi (0)) rfl rfl (Zb (Ze (Zc (Zd (Za rfl rfl (Zo (v := Vi (0)) rfl rfl (Zb (Ze (Zc (Zc (Zd (Za rfl rfl (Zm (v := m) rfl rfl (Za rfl rfl (Zr S27 rfl rfl n (Za rfl rfl (Zm (v := Vi (0)) rfl rfl (Zb (Ze ?_))))))))))))))))))))
 obtain ⟨a, ah, hm⟩ := Zg hm
 refine W_block (W_forS (fun k' s' f' w' => (fun (a : Int) => ∃ (ab : PHeap) , PHeap.le s ab ∧ St w0 ab (Res.box t 26 [h, i, j, l] :: H) w' ∧ f' 2 = Value.pointer (some ⟨t, 0, none⟩) ∧ f' 5 = Vi (a) ∧ f' 8 = m ∧ f' 9 = Vi ((p.length : Int)) ∧ f' 10 = Vi (k' : Int)) s') ah ?_ ?_ ?_)
 ·exact ⟨s, (Zv _), ak, rfl, rfl, rfl, rfl, rfl⟩
 ·intro ap a a0 aA aI ao ai d
  obtain ⟨aF, b, u, x, au, y, z, q⟩ := ai
  refine Zc (Zd (Za rfl rfl (Zq rfl q z (Zb (Ze (Zc (W_true (Zx (decide_eq_true (by omega))) (W_skip (Ze (Zc (W_block (Zc (Zd ?_)))))))))))))
  obtain ⟨c, ax, d⟩ := Zg d
  refine Za rfl rfl (Exec.index_rep S27 rfl y q (n.mono b) ax ?_)
  intro a6 aC ag
  refine Za rfl rfl (Zw (E := encLaunch) u A56 rfl rfl rfl ag ?_)
  intro aG ay
  obtain rfl := encLaunch_val.1 ay
  refine Za rfl rfl (Exec.alloc (cs := [Vi (0), Vi (0)]) u Z56 rfl rfl ?_)
  intro a7 aJ al
  refine Za rfl rfl (Exec.store_box (ds := [Vi (c.At), Vi (c.Job)]) (es := [Vi (c.At), Vi (c.Job)]) al A56 rfl rfl rfl rfl (Zj rfl (Zj rfl one_nil)) (Nat.le_of_ble_eq_true rfl) rfl ?_)
  intro aK o
  refine Zb (Ze (Zd (Za rfl rfl (Zm (v := Vi (a)) rfl au (Za rfl rfl (Exec.load_box_agg (ds := [h, i, j, l]) ((o).f1) A26 rfl x rfl (Za rfl rfl (Exec.load_box_agg (ds := [Vi (c.At), Vi (c.Job)]) (o) A56 rfl rfl rfl ?_))))))))
  obtain ⟨a5, az, d⟩ := Zg d
  refine Za rfl rfl (Tc rfl rfl rfl (Zi rfl (Zi rfl args_nil)) (ref55_End_sim az o (ac.mono b) (ad.mono b) (ae.mono b) (af.mono b)).r ?_)
  rintro _ aL ⟨a1, aq, am, rfl⟩
  refine Za rfl rfl (Exec.max2 rfl rfl rfl (Za rfl rfl (Zo (v := Vi (max a a5)) rfl rfl (Zb (ib_normal (Ze (Zd (Za rfl rfl (Exec.add rfl q rfl (Za rfl rfl (Zm (v := Vi (IntKind.i64.wrap ((ap : Int) + 1))) rfl rfl (Zb (Ze ?_)))))))))))))
  have a8 := Zu d
  subst a0
  exact ⟨a1, (Zt b aq), (am).drop, x, rfl, y, z, (Eq.trans rfl (wrap_up ao (SliceRep.le n)))⟩
 intro aB aM aj
 obtain ⟨a2, ar, an, aD, av, aE, aw, a3⟩ := aj
 refine Zc (Zd (Za rfl rfl (Zq rfl a3 aw (Zb (Ze (Zc (W_false (Zx (decide_eq_false (by omega))) (W_exit (at_exit (at_exit (ib_here (Ze (Zc (Zd (Za rfl rfl (Zm (v := Vi (a)) rfl av (Za rfl rfl (Zo (v := Vi (a)) rfl rfl (Zb (Ze (W_ret ?_)))))))))))))))))))))
 have a9 := Zu hm
 subst r
 refine ⟨_, ret1 rfl, ?_⟩
 exact ⟨a2, ar, (an).drop, rfl⟩
theorem schedule_Network_sim {w0 w : World} {s : PHeap} {H : List Res} {h : Temporal} {y : (List Launch)} {k : Value} {l : Value} {m : Value} {n : Value} {q : Value} {r : (List Bound) × Int × (Option Int)} (hm : schedule_Network_p h y = some r) (hS : St w0 s (H) w) (ab : SliceRep (encInt .i64) s k h.Vars) (ac : SliceRep (encInt .i64) s l h.Init) (ad : SliceRep encFact s m h.Goal) (ae : SliceRep encJob s n h.Jobs) (af : SliceRep encLaunch s q y) :
  Calls Tryz.prog 15 #[Value.agg #[k, l, m, n], q] w fun e w' => ∃ v, e = .returned v ∧ ((un3 fun (ax : (List Bound)) (ay : Int) (az : (Option Int)) => ∃ (p : PHeap) (aa : Value), PHeap.le s p ∧ St w0 p (H) w' ∧ v = Value.tuple #[aa, Vi (ay), errV 60 (az)] ∧ SliceRep encBound p aa ax) r) := by
 unfold schedule_Network_p at hm
 refine calls_of_W Tryz.func15 rfl rfl (Zc (Zd (Za rfl rfl (Exec.box (cs := [k, l, m, n]) hS rfl rfl rfl ?_))))
 intro a0 aD t
 refine Za rfl rfl (Zo (v := Value.slice none 0 0) rfl rfl (Za rfl rfl (Zo (v := Vi (0)) rfl rfl (Za rfl rfl (Zo (v := errV 60 (none)) rfl rfl (Zb (Ze (Zc (Zd (Za rfl rfl (Exec.load_box_agg (ds := [k, l, m, n]) (t) A26 rfl rfl rfl (Za rfl rfl (Zm (v := q) rfl rfl ?_)))))))))))))
 obtain ⟨av, ak, hm⟩ := Zg hm
 obtain ⟨a5, a⟩ := av
 replace hm := un2_eq hm
 refine Za rfl rfl (Tc rfl rfl rfl (Zi rfl (Zi rfl args_nil)) (schedule_read_sim ak t ab ac ad ae af).r ?_)
 rintro _ aE ai
 rcases ai with ⟨ag, rfl, ar, a6, a7, a8, a9, i, aA, aB, aC, o, u, rfl, am, an, ao, ap⟩ | ⟨rfl, au, aj, ah, rfl⟩
 ·replace hm := optC_some hm
  refine Za rfl rfl (Zm (v := Value.tuple #[Value.pointer (some ⟨i, 0, none⟩), errV 60 (a)]) rfl rfl (Za rfl rfl (Exec.extract (v := Value.pointer (some ⟨i, 0, none⟩)) rfl rfl rfl (Za rfl rfl (Exec.extract (v := errV 60 (a)) rfl rfl rfl (Za rfl rfl (Zo (v := Value.pointer (some ⟨i, 0, none⟩)) rfl rfl (Za rfl rfl (Zo (v := errV 60 (a)) rfl rfl (Zb (Ze (Zc (Zc (Zd (Za rfl rfl (Zm (v := errV 60 (a)) rfl rfl (Za rfl rfl (Exec.err_neq_nil (T := 60) Tryz.underlying31 rfl rfl rfl (Zb (Ze ?_))))))))))))))))))))
  rcases ite_some hm with ⟨d, hm⟩ | ⟨d, hm⟩
  ·refine W_cond_t rfl d (Zc (Zd (Za rfl rfl (Zm (v := errV 60 (a)) rfl rfl (Za rfl rfl (Zo (v := Value.slice none 0 0) rfl rfl (Za rfl rfl (Zo (v := Vi (0)) rfl rfl (Za rfl rfl (Zo (v := errV 60 (a)) rfl rfl (Zb (Ze (W_ret (at_ret ?_))))))))))))))
   have a1 := Zu hm
   subst r
   refine ⟨_, ret3 rfl, ?_⟩
   exact ⟨ar, (Value.slice none 0 0), o, (((((u).drop).drop).drop).drop).drop, (tup3 rfl rfl rfl), (SliceRep.nil _ _)⟩
  refine W_cond_f rfl d ?_
  replace d := Zk d
  refine W_skip (Ze (Zc (Zd (Za rfl rfl (Zm (v := Value.pointer (some ⟨i, 0, none⟩)) rfl rfl ?_)))))
  obtain ⟨aw, al, hm⟩ := Zg hm
  obtain ⟨aG, c⟩ := aw
  replace hm := un2_eq hm
  refine Za rfl rfl (Tc rfl rfl rfl (Zi rfl args_nil) (schedule_plan_bounds_sim al ((((u).f3).f3).f3).f3 am an ao ap).r ?_)
  rintro _ aF ⟨z, b, x, j, rfl, aq⟩
  refine Za rfl rfl (Zm (v := Value.tuple #[b, errV 60 (c)]) rfl rfl (Za rfl rfl (Exec.extract (v := b) rfl rfl rfl (Za rfl rfl (Exec.extract (v := errV 60 (c)) rfl rfl rfl (Za rfl rfl (Zo (v := b) rfl rfl (Za rfl rfl (Zo (v := errV 60 (c)) rfl rfl (Zb (Ze (Zc (Zc (Zd (Za rfl rfl (Zm (v := errV 60 (c)) rfl rfl (Za rfl rfl (Exec.err_neq_nil (T := 60) Tryz.underlying31 rfl rfl rfl (Zb (Ze ?_))))))))))))))))))))
  rcases ite_some hm with ⟨f, hm⟩ | ⟨f, hm⟩
  ·refine W_cond_t rfl f (Zc (Zd (Za rfl rfl (Zm (v := errV 60 (c)) rfl rfl (Za rfl rfl (Zo (v := Value.slice none 0 0) rfl rfl (Za rfl rfl (Zo (v := Vi (0)) rfl rfl (Za rfl rfl (Zo (v := errV 60 (c)) rfl rfl (Zb (Ze (W_ret (at_ret ?_))))))))))))))
   have a2 := Zu hm
   subst r
   refine ⟨_, ret3 rfl, ?_⟩
   exact ⟨z, (Value.slice none 0 0), (Zt o x), (((((j).drop).drop).drop).drop).drop, (tup3 rfl rfl rfl), (SliceRep.nil _ _)⟩
  refine W_cond_f rfl f ?_
  replace f := Zk f
  refine W_skip (Ze (Zc (W_dl (n0 := 9) (qs 0 9 .done) hmix (by kernel_rfl) (by kernel_rfl) (DL_q rfl rfl (Zm (v := b) rfl rfl ⟨rfl, ?_⟩)))))
  refine DL_q rfl rfl (Zm (v := Value.pointer (some ⟨i, 0, none⟩)) rfl rfl ⟨rfl, ?_⟩)
  refine DL_q rfl rfl (Exec.nilCheck_ptr rfl rfl ⟨rfl, ?_⟩)
  refine DL_q rfl rfl (Zp F88_1 rfl rfl rfl ⟨rfl, ?_⟩)
  refine DL_q rfl rfl (Zn (j.drew) A27 rfl rfl rfl ⟨rfl, ?_⟩)
  refine DL_q rfl rfl (Exec.len_arr ((j.drew).f1) S27 rfl rfl ⟨rfl, ?_⟩)
  refine DL_q rfl rfl (Exec.mul rfl rfl rfl ⟨rfl, ?_⟩)
  refine DL_q rfl rfl (Exec.add rfl rfl rfl ⟨rfl, ?_⟩)
  refine DL_q rfl rfl (Zo (v := b) rfl rfl ⟨rfl, ?_⟩)
  refine DL_done (Za rfl rfl (Zo (v := Vi (IntKind.i64.wrap ((IntKind.i64.wrap (2 * (ag.launches.length : Int))) + 1))) rfl rfl (Za rfl rfl (Zo (v := errV 60 (none)) rfl rfl (Zb (Ze (W_ret ?_)))))))
  have a3 := Zu hm
  subst r
  refine ⟨_, ret3 rfl, ?_⟩
  exact ⟨z, b, (Zt o x), (((((j.drew).drop).drop).drop).drop).drop, (tup3 rfl rfl rfl), aq⟩
 replace hm := optC_none hm
 refine Za rfl rfl (Zm (v := Value.tuple #[Value.pointer none, errV 60 (a)]) rfl rfl (Za rfl rfl (Exec.extract (v := Value.pointer none) rfl rfl rfl (Za rfl rfl (Exec.extract (v := errV 60 (a)) rfl rfl rfl (Za rfl rfl (Zo (v := Value.pointer none) rfl rfl (Za rfl rfl (Zo (v := errV 60 (a)) rfl rfl (Zb (Ze (Zc (Zc (Zd (Za rfl rfl (Zm (v := errV 60 (a)) rfl rfl (Za rfl rfl (Exec.err_neq_nil (T := 60) Tryz.underlying31 rfl rfl rfl (Zb (Ze ?_))))))))))))))))))))
 rcases ite_some hm with ⟨g, hm⟩ | ⟨g, hm⟩
 ·refine W_cond_t rfl g (Zc (Zd (Za rfl rfl (Zm (v := errV 60 (a)) rfl rfl (Za rfl rfl (Zo (v := Value.slice none 0 0) rfl rfl (Za rfl rfl (Zo (v := Vi (0)) rfl rfl (Za rfl rfl (Zo (v := errV 60 (a)) rfl rfl (Zb (Ze (W_ret (at_ret ?_))))))))))))))
  have a4 := Zu hm
  subst r
  refine ⟨_, ret3 rfl, ?_⟩
  exact ⟨au, (Value.slice none 0 0), aj, (ah).drop, (tup3 rfl rfl rfl), (SliceRep.nil _ _)⟩
 refine W_cond_f rfl g ?_
 replace g := Zk g
 refine W_skip (Ze (Zc ?_))
 cases hm
theorem ZZ60 : (Tryz.prog.info? 60).map (·.zero) = some (some (.int .i64 0)) := by kernel_rfl
theorem base_Num_sim {w0 w : World} {s : PHeap} {H : List Res} {a : (Option Int)}  {r : Int} (hm : base_Num_p a = some r) (hS : St w0 s (H) w)  :
  Calls Tryz.prog 16 #[errV 60 (a)] w fun e w' => ∃ v, e = .returned v ∧ ((fun (f : Int) => ∃ (d : PHeap) , PHeap.le s d ∧ St w0 d (H) w' ∧ v = Vi (f)) r) := by
 unfold base_Num_p at hm
 refine calls_of_W Tryz.func16 rfl rfl (Zc (Zd (Za rfl rfl (Zo (v := Vi (0)) rfl rfl (Zb (Ze (Zc (Zc (Zd (Za rfl rfl (Zm (v := errV 60 (a)) rfl rfl (Za rfl rfl (Exec.err_eql_nil (T := 60) Tryz.underlying31 rfl rfl rfl (Zb (Ze ?_)))))))))))))))
 rcases ite_some hm with ⟨b, hm⟩ | ⟨b, hm⟩
 ·refine W_cond_t rfl b (Zc (Zd (Za rfl rfl (Zo (v := Vi (0)) rfl rfl (Zb (Ze (W_ret (at_ret ?_))))))))
  have g := Zu hm
  subst r
  refine ⟨_, ret1 rfl, ?_⟩
  exact ⟨s, (Zv _), hS, rfl⟩
 refine W_cond_f rfl b ?_
 replace b := Zk b
 refine W_skip (Ze (Zc (Zc (Zd (Za rfl rfl (Zm (v := errV 60 (a)) rfl rfl (Za rfl rfl (Exec.err_assert Tryz.underlying60 ZZ60 rfl rfl (Za rfl rfl (Zm (v := Value.tuple #[Vi (a.getD 0), Value.bool (a.isSome)]) rfl rfl (Za rfl rfl (Exec.extract (v := Vi (a.getD 0)) rfl rfl rfl (Za rfl rfl (Exec.extract (v := Value.bool (a.isSome)) rfl rfl rfl (Za rfl rfl (Zo (v := Vi (a.getD 0)) rfl rfl (Za rfl rfl (Zo (v := Value.bool (a.isSome)) rfl rfl (Zb (Ze (Zc (Zd (Za rfl rfl (Zm (v := Value.bool (a.isSome)) rfl rfl (Zb (Ze ?_))))))))))))))))))))))))))
 rcases ite_some hm with ⟨c, hm⟩ | ⟨c, hm⟩
 ·refine W_cond_t rfl c (Zc (Zd (Za rfl rfl (Zm (v := Vi (a.getD 0)) rfl rfl (Za rfl rfl (Zo (v := Vi (a.getD 0)) rfl rfl (Zb (Ze (W_ret (at_ret ?_))))))))))
  have h := Zu hm
  subst r
  refine ⟨_, ret1 rfl, ?_⟩
  exact ⟨s, (Zv _), hS, rfl⟩
 refine W_cond_f rfl c ?_
 replace c := Zk c
 refine W_skip (Ze (Zc (Zd (Za rfl rfl (Zo (v := Vi ((-1))) rfl rfl (Zb (Ze (W_ret ?_))))))))
 have i := Zu hm
 subst r
 refine ⟨_, ret1 rfl, ?_⟩
 exact ⟨s, (Zv _), hS, rfl⟩
theorem law57_network_sim {w0 w : World} {s : PHeap} {H : List Res} {ad : Temporal} {bM : (List Launch)} {l : Value} {m : Value} {n : Value} {o : Value} {ae : Value} {r : (Option stn_Network) × (List Int) × Bool} (hm : law57_network_p ad bM = some r) (hS : St w0 s (H) w) (cA : SliceRep (encInt .i64) s l ad.Vars) (cB : SliceRep (encInt .i64) s m ad.Init) (cC : SliceRep encFact s n ad.Goal) (aw : SliceRep encJob s o ad.Jobs) (aQ : SliceRep encLaunch s ae bM) :
  Calls Tryz.prog 18 #[Value.agg #[l, m, n, o], ae] w fun e w' => ∃ v, e = .returned v ∧ ((un3 fun (cj : (Option stn_Network)) (c8 : (List Int)) (c9 : Bool) => (∃ b2 : stn_Network, cj = some b2 ∧ ∃ (ck : PHeap) (bo : Nat) (c3 : Value) (bJ : List Value) (c4 : Value), PHeap.le s ck ∧ St w0 ck (Res.box bo 101 [c3] :: Res.arr encRaw 22 c3 bJ :: Res.rows (encInt .i64) 3 bJ b2.d :: Res.arr (encInt .i64) 3 c4 c8 :: H) w' ∧ v = Value.tuple #[Value.pointer (some ⟨bo, 0, none⟩), c4, Value.bool (c9)]) ∨ (cj = none ∧ ∃ (cl : PHeap) (c5 : Value), PHeap.le s cl ∧ St w0 cl (Res.arr (encInt .i64) 3 c5 c8 :: H) w' ∧ v = Value.tuple #[Value.pointer none, c5, Value.bool (c9)])) r) := by
 unfold law57_network_p at hm
 refine calls_of_W Tryz.func18 rfl rfl (Zc (Zd (Za rfl rfl (Exec.box (cs := [l, m, n, o]) hS rfl rfl rfl ?_))))
 intro a gC b5
 refine Za rfl rfl (Zo (v := Value.pointer none) rfl rfl (Za rfl rfl (Zo (v := Value.slice none 0 0) rfl rfl (Za rfl rfl (Zo (v := Value.bool (false)) rfl rfl (Zb (Ze (Zc (Zd (Za rfl rfl (Exec.load_box_agg (ds := [l, m, n, o]) (b5) A26 rfl rfl rfl (Za rfl rfl (Zm (v := ae) rfl rfl ?_)))))))))))))
 obtain ⟨fi, eK, hm⟩ := Zg hm
 obtain ⟨aN, aO, aP⟩ := fi
 replace hm := un3_eq hm
 refine Za rfl rfl (Tc rfl rfl rfl (Zi rfl (Zi rfl args_nil)) (schedule_Network_sim eK b5 cA cB cC aw aQ).r ?_)
 rintro _ gD ⟨fb, af, j, b6, rfl, an⟩
 refine Za rfl rfl (Zm (v := Value.tuple #[af, Vi (aO), errV 60 (aP)]) rfl rfl (Za rfl rfl (Exec.extract (v := af) rfl rfl rfl (Za rfl rfl (Exec.extract (v := Vi (aO)) rfl rfl rfl (Za rfl rfl (Exec.extract (v := errV 60 (aP)) rfl rfl rfl (Za rfl rfl (Zo (v := af) rfl rfl (Za rfl rfl (Zo (v := Vi (aO)) rfl rfl (Za rfl rfl (Zo (v := errV 60 (aP)) rfl rfl (Zb (Ze (Zc (Zc (Zd (Za rfl rfl (Zm (v := errV 60 (aP)) rfl rfl (Za rfl rfl (Exec.err_neq_nil (T := 60) Tryz.underlying31 rfl rfl rfl (Zb (Ze ?_))))))))))))))))))))))))
 rcases ite_some hm with ⟨az, hm⟩ | ⟨az, hm⟩
 ·refine W_cond_t rfl az (Zc (Zd (Za rfl rfl (Zo (v := Value.pointer none) rfl rfl (Za rfl rfl (Zo (v := Value.slice none 0 0) rfl rfl (Za rfl rfl (Zo (v := Value.bool (false)) rfl rfl (Zb (Ze (W_ret (at_ret ?_))))))))))))
  have f0 := Zu hm
  subst r
  refine ⟨_, ret3 rfl, ?_⟩
  have cZ := b6.nilArr (encInt .i64) 3
  refine (Or.inr ⟨rfl, ?_⟩); exact ⟨fb, (Value.slice none 0 0), j, ((cZ).f1).drop, (tup3 rfl rfl rfl)⟩
 refine W_cond_f rfl az ?_
 replace az := Zk az
 refine W_skip (Ze (Zc (Zd (Za rfl rfl (Zm (v := Vi (aO)) rfl rfl ?_)))))
 obtain ⟨fj, eL, hm⟩ := Zg hm
 obtain ⟨gy, aj⟩ := fj
 replace hm := un2_eq hm
 refine Za rfl rfl (Tc rfl rfl rfl (Zi rfl args_nil) (stn_New_sim eL b6 ).r ?_)
 rintro _ gE dH
 rcases dH with ⟨fz, rfl, aH, i, y, z, aa, b7, rfl⟩ | ⟨rfl, aI, ab, b8, rfl⟩
 ·replace hm := optC_some hm
  refine Za rfl rfl (Zm (v := Value.tuple #[Value.pointer (some ⟨i, 0, none⟩), errV 60 (aj)]) rfl rfl (Za rfl rfl (Exec.extract (v := Value.pointer (some ⟨i, 0, none⟩)) rfl rfl rfl (Za rfl rfl (Exec.extract (v := errV 60 (aj)) rfl rfl rfl (Za rfl rfl (Zo (v := Value.pointer (some ⟨i, 0, none⟩)) rfl rfl (Za rfl rfl (Zo (v := errV 60 (aj)) rfl rfl (Zb (Ze (Zc (Zc (Zd (Za rfl rfl (Zm (v := errV 60 (aj)) rfl rfl (Za rfl rfl (Exec.err_neq_nil (T := 60) Tryz.underlying31 rfl rfl rfl (Zb (Ze ?_))))))))))))))))))))
  rcases ite_some hm with ⟨a0, hm⟩ | ⟨a0, hm⟩
  ·refine W_cond_t rfl a0 (Zc (Zd (Za rfl rfl (Zo (v := Value.pointer none) rfl rfl (Za rfl rfl (Zo (v := Value.slice none 0 0) rfl rfl (Za rfl rfl (Zo (v := Value.bool (false)) rfl rfl (Zb (Ze (W_ret (at_ret ?_))))))))))))
   have f7 := Zu hm
   subst r
   refine ⟨_, ret3 rfl, ?_⟩
   have da := b7.nilArr (encInt .i64) 3
   refine (Or.inr ⟨rfl, ?_⟩); exact ⟨aH, (Value.slice none 0 0), (Zt j aa), ((((((((da).f1).drop).f2).f2).drop).drop).f1).drop, (tup3 rfl rfl rfl)⟩
  refine W_cond_f rfl a0 ?_
  replace a0 := Zk a0
  refine W_skip (Ze (Zc (Zc (Zd (Za rfl rfl (Zm (v := af) rfl rfl (Za rfl rfl (Zr S42 rfl rfl (an.mono aa) (Za rfl rfl (Zm (v := Vi (0)) rfl rfl (Zb (Ze ?_))))))))))))
  obtain ⟨bt, cH, dM, dD, d5⟩ := ctl_some hm
  refine W_mid (M := fun f' w' => ∃ s', (bt = .next s' ∨ bt = .brk s') ∧ (fun (a6 : (List (List Int))) => ∃ (cm : PHeap) , PHeap.le aH cm ∧ St w0 cm (Res.box a 26 [l, m, n, o] :: Res.box i 101 [y] :: Res.arr encRaw 22 y z :: Res.rows (encInt .i64) 3 z a6 :: H) w' ∧ f' 1 = ae ∧ f' 2 = Value.pointer (some ⟨a, 0, none⟩) ∧ f' 10 = Value.pointer (some ⟨i, 0, none⟩) ∧ f' 32 = af ∧ f' 33 = Vi ((aN.length : Int))) s') ?_ ?_
  ·refine W_block (W_forC (fun k' s' f' w' => (fun (aV : (List (List Int))) => ∃ (cn : PHeap) , PHeap.le aH cn ∧ St w0 cn (Res.box a 26 [l, m, n, o] :: Res.box i 101 [y] :: Res.arr encRaw 22 y z :: Res.rows (encInt .i64) 3 z aV :: H) w' ∧ f' 1 = ae ∧ f' 2 = Value.pointer (some ⟨a, 0, none⟩) ∧ f' 10 = Value.pointer (some ⟨i, 0, none⟩) ∧ f' 32 = af ∧ f' 33 = Vi ((aN.length : Int)) ∧ f' 34 = Vi (k' : Int)) s') cH ?_ ?_ ?_)
   ·have db := ((b7).f2).f2
    exact ⟨aH, (Zv _), ((db).f2).f3, rfl, rfl, rfl, rfl, rfl, rfl⟩
   ·intro dY aV bu fP gF d9 cL t dQ
    obtain ⟨gz, aW, b9, eg, eh, bP, bQ, bR, bm⟩ := cL
    refine Zc (Zd (Za rfl rfl (Zq rfl bm bR (Zb (Ze (Zc (W_true (Zx (decide_eq_true (by omega))) (W_skip (Ze (Zc (W_block (Zc (Zd ?_)))))))))))))
    obtain ⟨ai, eM, t⟩ := Zg t
    refine Za rfl rfl (Exec.index_rep S42 rfl bQ bm (an.mono (Zt aa aW)) eM ?_)
    intro fp gj cD
    refine Za rfl rfl (Zw (E := encBound) b9 A49 rfl rfl rfl cD ?_)
    intro g6 eN
    obtain rfl := encBound_val.1 eN
    refine Za rfl rfl (Exec.alloc (cs := [Vi (0), Vi (0), Vi (0)]) b9 Z49 rfl rfl ?_)
    intro fq gG dc
    refine Za rfl rfl (Exec.store_box (ds := [Vi (ai.A), Vi (ai.B), Vi (ai.Most)]) (es := [Vi (ai.A), Vi (ai.B), Vi (ai.Most)]) dc A49 rfl rfl rfl rfl (Zj rfl (Zj rfl (Zj rfl one_nil))) (Nat.le_of_ble_eq_true rfl) rfl ?_)
    intro gH bA
    refine Zb (Ze (Zc (Zd (Za rfl rfl (Zm (v := Value.pointer (some ⟨i, 0, none⟩)) rfl bP (Za rfl rfl (Exec.load_box_agg (ds := [Vi (ai.A), Vi (ai.B), Vi (ai.Most)]) (bA) A49 rfl rfl rfl ?_)))))))
    obtain ⟨fk, eO, t⟩ := Zg t
    obtain ⟨hl, gg⟩ := fk
    replace t := un2_eq t
    refine Za rfl rfl (Tc rfl rfl rfl (Zi rfl (Zi rfl args_nil)) (stn_Network_Add_sim eO (((bA).f4).f4).f4 ).r ?_)
    rintro _ gI ⟨co, bN, bB, rfl⟩
    refine Za rfl rfl (Exec.err_neq_nil (T := 60) Tryz.underlying31 rfl rfl rfl (Zb (Ze ?_)))
    rcases ite_some t with ⟨a1, t⟩ | ⟨a1, t⟩
    ·refine W_cond_t rfl a1 (Zc (Zd (Za rfl rfl (Zo (v := Value.pointer none) rfl rfl (Za rfl rfl (Zo (v := Value.slice none 0 0) rfl rfl (Za rfl rfl (Zo (v := Value.bool (false)) rfl rfl (Zb (Ze (W_ret (ib_ret (at_ret (at_ret (ib_ret (at_ret (at_ret ?_)))))))))))))))))
     have f8 := Zu t
     subst bu
     have dI := dM _ (dQ (by intro _ h; cases h))
     have f9 := Zu dI
     subst r
     refine ⟨_, ret3 rfl, ?_⟩
     have dd := bB.nilArr (encInt .i64) 3
     refine (Or.inr ⟨rfl, ?_⟩); exact ⟨co, (Value.slice none 0 0), (Zt (Zt (Zt j aa) aW) bN), ((((((((((dd).f1).drop).f2).f2).drop).drop).f1).drop).f1).drop, (tup3 rfl rfl rfl)⟩
    refine W_cond_f rfl a1 ?_
    replace a1 := Zk a1
    refine W_skip (ib_normal (Ze (Zd (Za rfl rfl (Exec.add rfl bm rfl (Za rfl rfl (Zm (v := Vi (IntKind.i64.wrap ((dY : Int) + 1))) rfl rfl (Zb (Ze ?_)))))))))
    have fA := Zu t
    subst bu
    refine ⟨_, rfl, ?_⟩; exact ⟨co, (Zt aW bN), ((((((bB).f3).drop).f2).f2).f2).f3, eg, eh, bP, bQ, bR, (Eq.trans rfl (wrap_up d9 (SliceRep.le (an.mono aa))))⟩
   intro aV fQ gJ cM dR
   obtain ⟨fc, ea, de, ei, ej, ek, el, bS, fl⟩ := cM
   refine Zc (Zd (Za rfl rfl (Zq rfl fl bS (Zb (Ze (Zc (W_false (Zx (decide_eq_false (by omega))) (W_exit (at_exit (at_exit (ib_here (Ze ?_))))))))))))
   refine ⟨_, .inl dR, ?_⟩; exact ⟨fc, ea, ((((de).f3).f3).f3).f3, ei, ej, ek, el, bS⟩
  rintro fR gK ⟨a6, bF, cT⟩
  have hm := bF.elim (dD _) (d5 _)
  clear bF
  obtain ⟨g0, a7, df, em, en, eo, gn, go⟩ := cT
  refine (Ze (Zc (Zd (Za rfl rfl (Exec.buildSlice (Te := 3) (cs := [Vi (0)]) df rfl (parts_cons (c := [Vi (0)]) (cells_of rfl rfl) parts_nil) (fun _ => by kernel_rfl) ?_)))))
  intro bp gL dg
  refine Za rfl rfl (Zo (v := Value.slice (some ⟨bp, 0, none⟩) 1 1) rfl rfl (Zb (Ze (Zc (Zc (Zd (Za rfl rfl (Zm (v := ae) rfl em ?_))))))))
  obtain ⟨au, eP, hm⟩ := Zg hm
  refine Za rfl rfl (Tc rfl rfl rfl (Zi rfl args_nil) (ref56_Sorted_sim eP dg (aQ.mono (Zt (Zt j aa) a7))).r ?_)
  rintro ao gM ⟨bi, _, aB, aR, rfl⟩
  refine Za rfl rfl (Exec.len_arr (aR) S27 rfl rfl (Za rfl rfl (Zm (v := Vi (0)) rfl rfl (Zb (Ze ?_)))))
  obtain ⟨bv, cI, dN, dE, d6⟩ := ctl_some hm
  refine W_mid (M := fun f' w' => ∃ s', (bv = .next s' ∨ bv = .brk s') ∧ (fun (c1 : (List Int)) => ∃ (cp : PHeap) (ap : Value), PHeap.le bi cp ∧ St w0 cp (Res.box a 26 [l, m, n, o] :: Res.box i 101 [y] :: Res.arr (encInt .i64) 3 ap c1 :: Res.arr encLaunch 56 ao au :: Res.arr encRaw 22 y z :: Res.rows (encInt .i64) 3 z a6 :: H) w' ∧ f' 2 = Value.pointer (some ⟨a, 0, none⟩) ∧ f' 10 = Value.pointer (some ⟨i, 0, none⟩) ∧ f' 13 = ap ∧ f' 45 = ao ∧ f' 46 = Vi ((au.length : Int))) s') ?_ ?_
  ·refine W_block (W_forC (fun k' s' f' w' => (fun (aJ : (List Int)) => ∃ (cq : PHeap) (ag : Value), PHeap.le bi cq ∧ St w0 cq (Res.box a 26 [l, m, n, o] :: Res.box i 101 [y] :: Res.arr (encInt .i64) 3 ag aJ :: Res.arr encLaunch 56 ao au :: Res.arr encRaw 22 y z :: Res.rows (encInt .i64) 3 z a6 :: H) w' ∧ f' 2 = Value.pointer (some ⟨a, 0, none⟩) ∧ f' 10 = Value.pointer (some ⟨i, 0, none⟩) ∧ f' 13 = ag ∧ f' 45 = ao ∧ f' 46 = Vi ((au.length : Int)) ∧ f' 47 = Vi (k' : Int)) s') cI ?_ ?_ ?_)
   ·have dh := (aR).f1
    have di := St.boxArr (E := (encInt .i64)) (xs := [0]) dh ⟨[Vi (0)], [], rfl, rfl, rfl⟩ (by simp [maxLen])
    exact ⟨bi, (Value.slice (some ⟨bp, 0, none⟩) 1 1), (Zv _), ((((((di).f5).f5).f3).f3).f5).f5, en, eo, rfl, rfl, rfl, rfl⟩
   ·intro bK aJ bw fS gN dA cN u dS
    obtain ⟨bj, ag, aC, aS, ba, bT, bU, bb, bc, aL⟩ := cN
    refine Zc (Zd (Za rfl rfl (Zq rfl aL bc (Zb (Ze (Zc (W_true (Zx (decide_eq_true (by omega))) (W_skip (Ze (Zc (W_block (Zc (Zd ?_)))))))))))))
    obtain ⟨b, aF, u⟩ := Zg u
    obtain ⟨gd, fx, b3⟩ := ((aS).f3).arr_at aF
    refine Za rfl rfl (Exec.index_slice S27 rfl (Eq.trans bb b3) aL (idx_some aF).1 (idx_some aF).2.1 (Za rfl rfl (Exec.load_arr (F := encLaunch) ((aS).f3) b3 A56 rfl rfl rfl aF (Sub.refl _) ?_)))
    intro g7 eQ
    obtain rfl := encLaunch_val.1 eQ
    refine Za rfl rfl (Exec.alloc (cs := [Vi (0), Vi (0)]) aS Z56 rfl rfl ?_)
    intro bq gO dj
    refine Za rfl rfl (Exec.store_box (ds := [Vi (b.At), Vi (b.Job)]) (es := [Vi (b.At), Vi (b.Job)]) dj A56 rfl rfl rfl rfl (Zj rfl (Zj rfl one_nil)) (Nat.le_of_ble_eq_true rfl) rfl ?_)
    intro gP ax
    refine Zb (Ze (Zc (Zc (W_mid (M := fun f' w' => ∃ (cr : PHeap) , PHeap.le bj cr ∧ St w0 cr (Res.box a 26 [l, m, n, o] :: Res.box i 101 [y] :: Res.arr (encInt .i64) 3 ag aJ :: Res.box bq 56 [Vi (b.At), Vi (b.Job)] :: Res.arr encLaunch 56 ao au :: Res.arr encRaw 22 y z :: Res.rows (encInt .i64) 3 z a6 :: H) w' ∧ f' 2 = Value.pointer (some ⟨a, 0, none⟩) ∧ f' 10 = Value.pointer (some ⟨i, 0, none⟩) ∧ f' 13 = ag ∧ f' 15 = Value.pointer (some ⟨bq, 0, none⟩) ∧ f' 45 = ao ∧ f' 46 = Vi ((au.length : Int)) ∧ f' 47 = Vi ((bK : Int)) ∧ f' 61 = Value.bool (((decide (b.Job < 0)) || decide ((ad.Jobs.length : Int) ≤ b.Job)))) ?_ ?_))))
    ·refine Zd (Za rfl rfl (Zp F56_1 rfl rfl rfl (Za rfl rfl (Zn (ax) A3 rfl rfl rfl (Za rfl rfl (Zq rfl rfl rfl (Za rfl rfl (Zm (v := Value.bool (decide (b.Job < 0))) rfl rfl ?_))))))))
     by_cases p : (decide (b.Job < 0)) = true
     ·refine WL_passes 7 (by rw [p]; rfl) ?_
      refine Zb (Ze ?_)
      exact ⟨bj, (Zv _), (((((((ax).f6).f6).f6).f3).f6).f6).f6, ba, bT, bU, rfl, bb, bc, aL, (Zx (or_t p)).symm⟩
     replace p := Zk p
     refine WL_run rfl (Zf rfl (Zx p)) rfl (Zp F56_1 rfl rfl rfl (WL_run rfl (Zf rfl (Zx p)) rfl (Zn (ax) A3 rfl rfl rfl (WL_run rfl (Zf rfl (Zx p)) rfl (Zp F26_3 rfl ba rfl (WL_run rfl (Zf rfl (Zx p)) rfl (Zn ((ax).f1) A24 rfl rfl rfl (WL_run rfl (Zf rfl (Zx p)) rfl (Zr S24 rfl rfl (aw.mono (Zt (Zt (Zt (Zt j aa) a7) aB) aC)) (WL_run rfl (Zf rfl (Zx p)) rfl (Exec.geq rfl rfl rfl (Za rfl rfl (Exec.pick_f (v := Value.bool (decide ((ad.Jobs.length : Int) ≤ b.Job))) rfl (Zx p) rfl (Zb (Ze ?_)))))))))))))))
     exact ⟨bj, (Zv _), (((((((ax).f6).f6).f6).f3).f6).f6).f6, ba, bT, bU, rfl, bb, bc, aL, (Zx (or_f p)).symm⟩
    intro fT gQ cU
    obtain ⟨ct, aX, ak, bV, ep, bW, bd, er, et, eu, bX⟩ := cU
    refine (Ze ?_)
    rcases ite_some u with ⟨a2, u⟩ | ⟨a2, u⟩
    ·refine W_cond_t bX a2 (Zc (Zd (Za rfl rfl (Zo (v := Value.pointer none) rfl rfl (Za rfl rfl (Zo (v := Value.slice none 0 0) rfl rfl (Za rfl rfl (Zo (v := Value.bool (false)) rfl rfl (Zb (Ze (W_ret (at_ret (ib_ret (at_ret (at_ret (ib_ret (at_ret (at_ret ?_))))))))))))))))))
     have fB := Zu u
     subst bw
     have dJ := dN _ (dS (by intro _ h; cases h))
     have fC := Zu dJ
     subst r
     refine ⟨_, ret3 rfl, ?_⟩
     have dk := ak.nilArr (encInt .i64) 3
     refine (Or.inr ⟨rfl, ?_⟩); exact ⟨ct, (Value.slice none 0 0), (Zt (Zt (Zt (Zt (Zt j aa) a7) aB) aC) aX), ((((((((((((((dk).f1).drop).f1).drop).f1).drop).f1).drop).f1).drop).f2).f2).drop).drop, (tup3 rfl rfl rfl)⟩
    refine W_cond_f bX a2 ?_
    replace a2 := Zk a2
    refine W_skip (Ze (W_dl (n0 := 15) (qs 0 13 (.e 13 [0] (.e 14 [] .done))) hmix (by kernel_rfl) (by kernel_rfl) (DL_q rfl rfl (Zm (v := ag) rfl bW ⟨rfl, ?_⟩))))
    refine DL_q rfl rfl (Zp F56_0 rfl bd rfl ⟨rfl, ?_⟩)
    refine DL_q rfl rfl (Zn ((ak.drew).f3) A3 rfl rfl rfl ⟨rfl, ?_⟩)
    refine DL_q rfl rfl (Zp F56_0 rfl bd rfl ⟨rfl, ?_⟩)
    refine DL_q rfl rfl (Zn ((ak.drew).f3) A3 rfl rfl rfl ⟨rfl, ?_⟩)
    refine DL_q rfl rfl (Zp F26_3 rfl bV rfl ⟨rfl, ?_⟩)
    refine DL_q rfl rfl (Zn (ak.drew) A24 rfl rfl rfl ⟨rfl, ?_⟩)
    refine DL_q rfl rfl (Zp F56_1 rfl bd rfl ⟨rfl, ?_⟩)
    refine DL_q rfl rfl (Zn ((ak.drew).f3) A3 rfl rfl rfl ⟨rfl, ?_⟩)
    obtain ⟨a9, eR, u⟩ := Zg u
    refine DL_q rfl rfl (Exec.index_repE S24 rfl rfl rfl (aw.mono (Zt (Zt (Zt (Zt (Zt j aa) a7) aB) aC) aX)) eR ?_)
    intro fr gk cE fD
    refine ⟨rfl, ?_⟩
    refine DL_q rfl rfl (Zp F63_1 rfl rfl rfl ⟨rfl, ?_⟩)
    refine DL_q rfl rfl (Zw (E := (encInt .i64)) ak.drew A3 rfl rfl rfl (cE.sub (Sub.iso (Sub.snd (Sub.fst (Sub.refl _)) rfl)) rfl) ?_)
    intro g8 eS
    obtain rfl := encInt_val.1 eS
    refine ⟨rfl, ?_⟩
    refine DL_q rfl rfl (Exec.add rfl rfl rfl ⟨rfl, ?_⟩)
    refine DL_e rfl rfl (Exec.buildSlice (Te := 3) (cs := [Vi (b.At), Vi (IntKind.i64.wrap (b.At + a9.Duration))]) ak.drew rfl (parts_cons (c := [Vi (b.At)]) (cells_of rfl rfl) (parts_cons (c := [Vi (IntKind.i64.wrap (b.At + a9.Duration))]) (cells_of rfl rfl) parts_nil)) (fun _ => by kernel_rfl) ?_)
    intro fs gR dl
    refine ⟨(ag_cons (ag_r rfl rfl (Zm (v := ag) rfl bW ⟨rfl, rfl⟩)) ag_nil), ?_⟩
    obtain ⟨gh, eT, u⟩ := Zg u
    refine DL_e rfl rfl (Exec.append_box (E := (encInt .i64)) (ys := [b.At, IntKind.i64.wrap (b.At + a9.Duration)]) (dl).f3 S22 Z3 rfl (by decide) rfl rfl rfl rfl ⟨[Vi (b.At)], [Vi (IntKind.i64.wrap (b.At + a9.Duration))], rfl, rfl, ⟨[Vi (IntKind.i64.wrap (b.At + a9.Duration))], [], rfl, rfl, rfl⟩⟩ rfl eT ?_)
    intro c6 gS dm
    refine ⟨ag_nil, ?_⟩
    refine DL_done (Za rfl rfl (Zo (v := c6) rfl rfl (Zb (ib_normal (Ze (Zd (Za rfl rfl (Exec.add rfl eu rfl (Za rfl rfl (Zm (v := Vi (IntKind.i64.wrap ((bK : Int) + 1))) rfl rfl (Zb (Ze ?_))))))))))))
    have fE := Zu u
    subst bw
    refine ⟨_, rfl, ?_⟩; exact ⟨ct, c6, (Zt aC aX), ((((((((dm).f3).drop).f5).f5).f5).f3).f5).f5, bV, ep, rfl, er, et, (Eq.trans rfl (wrap_up dA (aR).arr_le))⟩
   intro aJ fU gT cO dT
   obtain ⟨fd, ag, eb, dn, ev, ew, ex, ey, bY, fm⟩ := cO
   refine Zc (Zd (Za rfl rfl (Zq rfl fm bY (Zb (Ze (Zc (W_false (Zx (decide_eq_false (by omega))) (W_exit (at_exit (at_exit (ib_here (Ze ?_))))))))))))
   refine ⟨_, .inl dT, ?_⟩; exact ⟨fd, ag, eb, ((((((dn).f5).f5).f5).f5).f5).f5, ev, ew, ex, ey, bY⟩
  rintro fV gU ⟨c1, bG, cV⟩
  have hm := bG.elim (dE _) (d6 _)
  clear bG
  obtain ⟨fe, ap, ec, dp, gp, ez, e0, gq, gr⟩ := cV
  refine (Ze (Zc (Zd (Za rfl rfl (Zm (v := Value.pointer (some ⟨i, 0, none⟩)) rfl ez (Za rfl rfl (Zm (v := ap) rfl e0 (Za rfl rfl (Zo (v := Value.pointer (some ⟨i, 0, none⟩)) rfl rfl (Za rfl rfl (Zo (v := ap) rfl rfl (Za rfl rfl (Zo (v := Value.bool (true)) rfl rfl (Zb (Ze (W_ret ?_))))))))))))))))
  have fF := Zu hm
  subst r
  refine ⟨_, ret3 rfl, ?_⟩
  refine (Or.inl ⟨_, rfl, ?_⟩); exact ⟨fe, i, y, z, ap, (Zt (Zt (Zt (Zt j aa) a7) aB) ec), (((((((dp).drop).f2).drop).f1).f3).f3).f3, (tup3 rfl rfl rfl)⟩
 replace hm := optC_none hm
 refine Za rfl rfl (Zm (v := Value.tuple #[Value.pointer none, errV 60 (aj)]) rfl rfl (Za rfl rfl (Exec.extract (v := Value.pointer none) rfl rfl rfl (Za rfl rfl (Exec.extract (v := errV 60 (aj)) rfl rfl rfl (Za rfl rfl (Zo (v := Value.pointer none) rfl rfl (Za rfl rfl (Zo (v := errV 60 (aj)) rfl rfl (Zb (Ze (Zc (Zc (Zd (Za rfl rfl (Zm (v := errV 60 (aj)) rfl rfl (Za rfl rfl (Exec.err_neq_nil (T := 60) Tryz.underlying31 rfl rfl rfl (Zb (Ze ?_))))))))))))))))))))
 rcases ite_some hm with ⟨a3, hm⟩ | ⟨a3, hm⟩
 ·refine W_cond_t rfl a3 (Zc (Zd (Za rfl rfl (Zo (v := Value.pointer none) rfl rfl (Za rfl rfl (Zo (v := Value.slice none 0 0) rfl rfl (Za rfl rfl (Zo (v := Value.bool (false)) rfl rfl (Zb (Ze (W_ret (at_ret ?_))))))))))))
  have fG := Zu hm
  subst r
  refine ⟨_, ret3 rfl, ?_⟩
  have dq := b8.nilArr (encInt .i64) 3
  refine (Or.inr ⟨rfl, ?_⟩); exact ⟨aI, (Value.slice none 0 0), (Zt j ab), ((dq).f1).drop, (tup3 rfl rfl rfl)⟩
 refine W_cond_f rfl a3 ?_
 replace a3 := Zk a3
 refine W_skip (Ze (Zc (Zc (Zd (Za rfl rfl (Zm (v := af) rfl rfl (Za rfl rfl (Zr S42 rfl rfl (an.mono ab) (Za rfl rfl (Zm (v := Vi (0)) rfl rfl (Zb (Ze ?_))))))))))))
 obtain ⟨bx, cJ, dO, dF, d7⟩ := ctl_some hm
 refine W_mid (M := fun f' w' => ∃ s', (bx = .next s' ∨ bx = .brk s') ∧ (fun (_ : Unit) => ∃ (cu : PHeap) , PHeap.le aI cu ∧ St w0 cu (Res.box a 26 [l, m, n, o] :: H) w' ∧ f' 1 = ae ∧ f' 2 = Value.pointer (some ⟨a, 0, none⟩) ∧ f' 10 = Value.pointer none ∧ f' 32 = af ∧ f' 33 = Vi ((aN.length : Int))) s') ?_ ?_
 ·refine W_block (W_forC (fun k' s' f' w' => (fun (_ : Unit) => ∃ (cv : PHeap) , PHeap.le aI cv ∧ St w0 cv (Res.box a 26 [l, m, n, o] :: H) w' ∧ f' 1 = ae ∧ f' 2 = Value.pointer (some ⟨a, 0, none⟩) ∧ f' 10 = Value.pointer none ∧ f' 32 = af ∧ f' 33 = Vi ((aN.length : Int)) ∧ f' 34 = Vi (k' : Int)) s') cJ ?_ ?_ ?_)
  ·exact ⟨aI, (Zv _), b8, rfl, rfl, rfl, rfl, rfl, rfl⟩
  ·intro dZ g3 bz fW gV dB cP am dU
   obtain ⟨g1, aY, bC, e1, e2, bZ, ca, cb, bn⟩ := cP
   refine Zc (Zd (Za rfl rfl (Zq rfl bn cb (Zb (Ze (Zc (W_true (Zx (decide_eq_true (by omega))) (W_skip (Ze (Zc (W_block (Zc (Zd ?_)))))))))))))
   obtain ⟨ac, eU, am⟩ := Zg am
   refine Za rfl rfl (Exec.index_rep S42 rfl ca bn (an.mono (Zt ab aY)) eU ?_)
   intro ft gl cF
   refine Za rfl rfl (Zw (E := encBound) bC A49 rfl rfl rfl cF ?_)
   intro g9 eV
   obtain rfl := encBound_val.1 eV
   refine Za rfl rfl (Exec.alloc (cs := [Vi (0), Vi (0), Vi (0)]) bC Z49 rfl rfl ?_)
   intro fu gW dr
   refine Za rfl rfl (Exec.store_box (ds := [Vi (ac.A), Vi (ac.B), Vi (ac.Most)]) (es := [Vi (ac.A), Vi (ac.B), Vi (ac.Most)]) dr A49 rfl rfl rfl rfl (Zj rfl (Zj rfl (Zj rfl one_nil))) (Nat.le_of_ble_eq_true rfl) rfl ?_)
   intro gX bD
   refine Zb (Ze (Zc (Zd (Za rfl rfl (Zm (v := Value.pointer none) rfl bZ (Za rfl rfl (Exec.load_box_agg (ds := [Vi (ac.A), Vi (ac.B), Vi (ac.Most)]) (bD) A49 rfl rfl rfl (Za rfl rfl (Tc rfl rfl rfl (Zi rfl (Zi rfl args_nil)) (stn_Network_Add_nil_sim (stn_Network_Add_nil_tot ac) bD ).r ?_)))))))))
   rintro _ gY ⟨cw, bO, bE, rfl⟩
   refine Za rfl rfl (Exec.err_neq_nil (T := 60) Tryz.underlying31 rfl rfl rfl (Zb (Ze ?_)))
   rcases ite_some am with ⟨a4, am⟩ | ⟨a4, am⟩
   ·refine W_cond_t rfl a4 (Zc (Zd (Za rfl rfl (Zo (v := Value.pointer none) rfl rfl (Za rfl rfl (Zo (v := Value.slice none 0 0) rfl rfl (Za rfl rfl (Zo (v := Value.bool (false)) rfl rfl (Zb (Ze (W_ret (ib_ret (at_ret (at_ret (ib_ret (at_ret (at_ret ?_)))))))))))))))))
    have fH := Zu am
    subst bz
    have dK := dO _ (dU (by intro _ h; cases h))
    have fI := Zu dK
    subst r
    refine ⟨_, ret3 rfl, ?_⟩
    have dt := bE.nilArr (encInt .i64) 3
    refine (Or.inr ⟨rfl, ?_⟩); exact ⟨cw, (Value.slice none 0 0), (Zt (Zt (Zt j ab) aY) bO), ((((dt).f1).drop).f1).drop, (tup3 rfl rfl rfl)⟩
   refine W_cond_f rfl a4 ?_
   replace a4 := Zk a4
   refine W_skip (ib_normal (Ze (Zd (Za rfl rfl (Exec.add rfl bn rfl (Za rfl rfl (Zm (v := Vi (IntKind.i64.wrap ((dZ : Int) + 1))) rfl rfl (Zb (Ze ?_)))))))))
   have fJ := Zu am
   subst bz
   refine ⟨_, rfl, ?_⟩; exact ⟨cw, (Zt aY bO), (bE).drop, e1, e2, bZ, ca, cb, (Eq.trans rfl (wrap_up dB (SliceRep.le (an.mono ab))))⟩
  intro g4 fX gZ cQ dV
  obtain ⟨ff, ed, du, e3, e4, e5, e6, cc, fn⟩ := cQ
  refine Zc (Zd (Za rfl rfl (Zq rfl fn cc (Zb (Ze (Zc (W_false (Zx (decide_eq_false (by omega))) (W_exit (at_exit (at_exit (ib_here (Ze ?_))))))))))))
  refine ⟨_, .inl dV, ?_⟩; exact ⟨ff, ed, du, e3, e4, e5, e6, cc⟩
 rintro fY ha ⟨g5, bH, cW⟩
 have hm := bH.elim (dF _) (d7 _)
 clear bH
 obtain ⟨g2, a8, dv, e7, e8, e9, gs, gu⟩ := cW
 refine (Ze (Zc (Zd (Za rfl rfl (Exec.buildSlice (Te := 3) (cs := [Vi (0)]) dv rfl (parts_cons (c := [Vi (0)]) (cells_of rfl rfl) parts_nil) (fun _ => by kernel_rfl) ?_)))))
 intro br hb dw
 refine Za rfl rfl (Zo (v := Value.slice (some ⟨br, 0, none⟩) 1 1) rfl rfl (Zb (Ze (Zc (Zc (Zd (Za rfl rfl (Zm (v := ae) rfl e7 ?_))))))))
 obtain ⟨av, eW, hm⟩ := Zg hm
 refine Za rfl rfl (Tc rfl rfl rfl (Zi rfl args_nil) (ref56_Sorted_sim eW dw (aQ.mono (Zt (Zt j ab) a8))).r ?_)
 rintro aq hc ⟨bk, _, aD, aT, rfl⟩
 refine Za rfl rfl (Exec.len_arr (aT) S27 rfl rfl (Za rfl rfl (Zm (v := Vi (0)) rfl rfl (Zb (Ze ?_)))))
 obtain ⟨b0, cK, dP, dG, d8⟩ := ctl_some hm
 refine W_mid (M := fun f' w' => ∃ s', (b0 = .next s' ∨ b0 = .brk s') ∧ (fun (c2 : (List Int)) => ∃ (cx : PHeap) (ar : Value), PHeap.le bk cx ∧ St w0 cx (Res.box a 26 [l, m, n, o] :: Res.arr (encInt .i64) 3 ar c2 :: Res.arr encLaunch 56 aq av :: H) w' ∧ f' 2 = Value.pointer (some ⟨a, 0, none⟩) ∧ f' 10 = Value.pointer none ∧ f' 13 = ar ∧ f' 45 = aq ∧ f' 46 = Vi ((av.length : Int))) s') ?_ ?_
 ·refine W_block (W_forC (fun k' s' f' w' => (fun (aK : (List Int)) => ∃ (cy : PHeap) (ah : Value), PHeap.le bk cy ∧ St w0 cy (Res.box a 26 [l, m, n, o] :: Res.arr (encInt .i64) 3 ah aK :: Res.arr encLaunch 56 aq av :: H) w' ∧ f' 2 = Value.pointer (some ⟨a, 0, none⟩) ∧ f' 10 = Value.pointer none ∧ f' 13 = ah ∧ f' 45 = aq ∧ f' 46 = Vi ((av.length : Int)) ∧ f' 47 = Vi (k' : Int)) s') cK ?_ ?_ ?_)
  ·have dx := (aT).f1
   have dy := St.boxArr (E := (encInt .i64)) (xs := [0]) dx ⟨[Vi (0)], [], rfl, rfl, rfl⟩ (by simp [maxLen])
   exact ⟨bk, (Value.slice (some ⟨br, 0, none⟩) 1 1), (Zv _), (((dy).f1).f1).f2, e8, e9, rfl, rfl, rfl, rfl⟩
  ·intro bL aK b1 fZ hd dC cR x dW
   obtain ⟨bl, ah, aE, aU, be, cd, ce, bf, bg, aM⟩ := cR
   refine Zc (Zd (Za rfl rfl (Zq rfl aM bg (Zb (Ze (Zc (W_true (Zx (decide_eq_true (by omega))) (W_skip (Ze (Zc (W_block (Zc (Zd ?_)))))))))))))
   obtain ⟨g, aG, x⟩ := Zg x
   obtain ⟨gf, fy, b4⟩ := ((aU).f2).arr_at aG
   refine Za rfl rfl (Exec.index_slice S27 rfl (Eq.trans bf b4) aM (idx_some aG).1 (idx_some aG).2.1 (Za rfl rfl (Exec.load_arr (F := encLaunch) ((aU).f2) b4 A56 rfl rfl rfl aG (Sub.refl _) ?_)))
   intro gA eX
   obtain rfl := encLaunch_val.1 eX
   refine Za rfl rfl (Exec.alloc (cs := [Vi (0), Vi (0)]) aU Z56 rfl rfl ?_)
   intro bs he dz
   refine Za rfl rfl (Exec.store_box (ds := [Vi (g.At), Vi (g.Job)]) (es := [Vi (g.At), Vi (g.Job)]) dz A56 rfl rfl rfl rfl (Zj rfl (Zj rfl one_nil)) (Nat.le_of_ble_eq_true rfl) rfl ?_)
   intro hf ay
   refine Zb (Ze (Zc (Zc (W_mid (M := fun f' w' => ∃ (cz : PHeap) , PHeap.le bl cz ∧ St w0 cz (Res.box a 26 [l, m, n, o] :: Res.arr (encInt .i64) 3 ah aK :: Res.box bs 56 [Vi (g.At), Vi (g.Job)] :: Res.arr encLaunch 56 aq av :: H) w' ∧ f' 2 = Value.pointer (some ⟨a, 0, none⟩) ∧ f' 10 = Value.pointer none ∧ f' 13 = ah ∧ f' 15 = Value.pointer (some ⟨bs, 0, none⟩) ∧ f' 45 = aq ∧ f' 46 = Vi ((av.length : Int)) ∧ f' 47 = Vi ((bL : Int)) ∧ f' 61 = Value.bool (((decide (g.Job < 0)) || decide ((ad.Jobs.length : Int) ≤ g.Job)))) ?_ ?_))))
   ·refine Zd (Za rfl rfl (Zp F56_1 rfl rfl rfl (Za rfl rfl (Zn (ay) A3 rfl rfl rfl (Za rfl rfl (Zq rfl rfl rfl (Za rfl rfl (Zm (v := Value.bool (decide (g.Job < 0))) rfl rfl ?_))))))))
    by_cases q : (decide (g.Job < 0)) = true
    ·refine WL_passes 7 (by rw [q]; rfl) ?_
     refine Zb (Ze ?_)
     exact ⟨bl, (Zv _), ((((ay).f3).f1).f3).f3, be, cd, ce, rfl, bf, bg, aM, (Zx (or_t q)).symm⟩
    replace q := Zk q
    refine WL_run rfl (Zf rfl (Zx q)) rfl (Zp F56_1 rfl rfl rfl (WL_run rfl (Zf rfl (Zx q)) rfl (Zn (ay) A3 rfl rfl rfl (WL_run rfl (Zf rfl (Zx q)) rfl (Zp F26_3 rfl be rfl (WL_run rfl (Zf rfl (Zx q)) rfl (Zn ((ay).f1) A24 rfl rfl rfl (WL_run rfl (Zf rfl (Zx q)) rfl (Zr S24 rfl rfl (aw.mono (Zt (Zt (Zt (Zt j ab) a8) aD) aE)) (WL_run rfl (Zf rfl (Zx q)) rfl (Exec.geq rfl rfl rfl (Za rfl rfl (Exec.pick_f (v := Value.bool (decide ((ad.Jobs.length : Int) ≤ g.Job))) rfl (Zx q) rfl (Zb (Ze ?_)))))))))))))))
    exact ⟨bl, (Zv _), ((((ay).f3).f1).f3).f3, be, cd, ce, rfl, bf, bg, aM, (Zx (or_f q)).symm⟩
   intro ga hg cX
   obtain ⟨c0, aZ, al, cf, eA, cg, bh, eB, eC, eD, ch⟩ := cX
   refine (Ze ?_)
   rcases ite_some x with ⟨a5, x⟩ | ⟨a5, x⟩
   ·refine W_cond_t ch a5 (Zc (Zd (Za rfl rfl (Zo (v := Value.pointer none) rfl rfl (Za rfl rfl (Zo (v := Value.slice none 0 0) rfl rfl (Za rfl rfl (Zo (v := Value.bool (false)) rfl rfl (Zb (Ze (W_ret (at_ret (ib_ret (at_ret (at_ret (ib_ret (at_ret (at_ret ?_))))))))))))))))))
    have fK := Zu x
    subst b1
    have dL := dP _ (dW (by intro _ h; cases h))
    have fL := Zu dL
    subst r
    refine ⟨_, ret3 rfl, ?_⟩
    have d0 := al.nilArr (encInt .i64) 3
    refine (Or.inr ⟨rfl, ?_⟩); exact ⟨c0, (Value.slice none 0 0), (Zt (Zt (Zt (Zt (Zt j ab) a8) aD) aE) aZ), ((((((((d0).f1).drop).f1).drop).f1).drop).f1).drop, (tup3 rfl rfl rfl)⟩
   refine W_cond_f ch a5 ?_
   replace a5 := Zk a5
   refine W_skip (Ze (W_dl (n0 := 15) (qs 0 13 (.e 13 [0] (.e 14 [] .done))) hmix (by kernel_rfl) (by kernel_rfl) (DL_q rfl rfl (Zm (v := ah) rfl cg ⟨rfl, ?_⟩))))
   refine DL_q rfl rfl (Zp F56_0 rfl bh rfl ⟨rfl, ?_⟩)
   refine DL_q rfl rfl (Zn ((al.drew).f2) A3 rfl rfl rfl ⟨rfl, ?_⟩)
   refine DL_q rfl rfl (Zp F56_0 rfl bh rfl ⟨rfl, ?_⟩)
   refine DL_q rfl rfl (Zn ((al.drew).f2) A3 rfl rfl rfl ⟨rfl, ?_⟩)
   refine DL_q rfl rfl (Zp F26_3 rfl cf rfl ⟨rfl, ?_⟩)
   refine DL_q rfl rfl (Zn (al.drew) A24 rfl rfl rfl ⟨rfl, ?_⟩)
   refine DL_q rfl rfl (Zp F56_1 rfl bh rfl ⟨rfl, ?_⟩)
   refine DL_q rfl rfl (Zn ((al.drew).f2) A3 rfl rfl rfl ⟨rfl, ?_⟩)
   obtain ⟨aA, eY, x⟩ := Zg x
   refine DL_q rfl rfl (Exec.index_repE S24 rfl rfl rfl (aw.mono (Zt (Zt (Zt (Zt (Zt j ab) a8) aD) aE) aZ)) eY ?_)
   intro fv gm cG fM
   refine ⟨rfl, ?_⟩
   refine DL_q rfl rfl (Zp F63_1 rfl rfl rfl ⟨rfl, ?_⟩)
   refine DL_q rfl rfl (Zw (E := (encInt .i64)) al.drew A3 rfl rfl rfl (cG.sub (Sub.iso (Sub.snd (Sub.fst (Sub.refl _)) rfl)) rfl) ?_)
   intro gB eZ
   obtain rfl := encInt_val.1 eZ
   refine ⟨rfl, ?_⟩
   refine DL_q rfl rfl (Exec.add rfl rfl rfl ⟨rfl, ?_⟩)
   refine DL_e rfl rfl (Exec.buildSlice (Te := 3) (cs := [Vi (g.At), Vi (IntKind.i64.wrap (g.At + aA.Duration))]) al.drew rfl (parts_cons (c := [Vi (g.At)]) (cells_of rfl rfl) (parts_cons (c := [Vi (IntKind.i64.wrap (g.At + aA.Duration))]) (cells_of rfl rfl) parts_nil)) (fun _ => by kernel_rfl) ?_)
   intro fw hh d1
   refine ⟨(ag_cons (ag_r rfl rfl (Zm (v := ah) rfl cg ⟨rfl, rfl⟩)) ag_nil), ?_⟩
   obtain ⟨gi, fa, x⟩ := Zg x
   refine DL_e rfl rfl (Exec.append_box (E := (encInt .i64)) (ys := [g.At, IntKind.i64.wrap (g.At + aA.Duration)]) (d1).f2 S22 Z3 rfl (by decide) rfl rfl rfl rfl ⟨[Vi (g.At)], [Vi (IntKind.i64.wrap (g.At + aA.Duration))], rfl, rfl, ⟨[Vi (IntKind.i64.wrap (g.At + aA.Duration))], [], rfl, rfl, rfl⟩⟩ rfl fa ?_)
   intro c7 hi d2
   refine ⟨ag_nil, ?_⟩
   refine DL_done (Za rfl rfl (Zo (v := c7) rfl rfl (Zb (ib_normal (Ze (Zd (Za rfl rfl (Exec.add rfl eD rfl (Za rfl rfl (Zm (v := Vi (IntKind.i64.wrap ((bL : Int) + 1))) rfl rfl (Zb (Ze ?_))))))))))))
   have fN := Zu x
   subst b1
   refine ⟨_, rfl, ?_⟩; exact ⟨c0, c7, (Zt aE aZ), (((((d2).f2).drop).f2).f1).f2, cf, eA, rfl, eB, eC, (Eq.trans rfl (wrap_up dC (aT).arr_le))⟩
  intro aK gb hj cS dX
  obtain ⟨fg, ah, ee, d3, eE, eF, eG, eH, ci, fo⟩ := cS
  refine Zc (Zd (Za rfl rfl (Zq rfl fo ci (Zb (Ze (Zc (W_false (Zx (decide_eq_false (by omega))) (W_exit (at_exit (at_exit (ib_here (Ze ?_))))))))))))
  refine ⟨_, .inl dX, ?_⟩; exact ⟨fg, ah, ee, (((d3).f2).f2).f2, eE, eF, eG, eH, ci⟩
 rintro gc hk ⟨c2, bI, cY⟩
 have hm := bI.elim (dG _) (d8 _)
 clear bI
 obtain ⟨fh, ar, ef, d4, gv, eI, eJ, gw, gx⟩ := cY
 refine (Ze (Zc (Zd (Za rfl rfl (Zm (v := Value.pointer none) rfl eI (Za rfl rfl (Zm (v := ar) rfl eJ (Za rfl rfl (Zo (v := Value.pointer none) rfl rfl (Za rfl rfl (Zo (v := ar) rfl rfl (Za rfl rfl (Zo (v := Value.bool (true)) rfl rfl (Zb (Ze (W_ret ?_))))))))))))))))
 have fO := Zu hm
 subst r
 refine ⟨_, ret3 rfl, ?_⟩
 refine (Or.inr ⟨rfl, ?_⟩); exact ⟨fh, ar, (Zt (Zt (Zt (Zt j ab) a8) aD) ef), (((d4).drop).f1).drop, (tup3 rfl rfl rfl)⟩
theorem slices_Clone_int_o_sim {w0 w : World} {s : PHeap} {H : List Res} {c : (List Int)} {b : Value} {r : (List Int)} (hm : slices_Clone_int_o_p c = some r) (hS : St w0 s (Res.arr (encInt .i64) 3 b c :: H) w)  :
  Calls Tryz.prog 47 #[b] w fun e w' => ∃ v, e = .returned v ∧ ((fun (t : (List Int)) => ∃ (f : PHeap) (g : Value), PHeap.le s f ∧ St w0 f (Res.arr (encInt .i64) 3 b c :: Res.arr (encInt .i64) 3 g t :: H) w' ∧ v = g) r) := by
 unfold slices_Clone_int_o_p at hm
 refine calls_of_W Tryz.func47 rfl rfl (Zc (Zd (Za rfl rfl (Zo (v := Value.slice none 0 0) rfl rfl (Zb (Ze (Zc (Zc (Zd (Za rfl rfl (Zm (v := b) rfl rfl ?_)))))))))))
 obtain ⟨i, aa, x, j, o⟩ := (hS).nilShape
 refine Za rfl rfl (Exec.slice_eql_nil Tryz.underlying22 rfl j rfl (Zb (Ze ?_)))
 by_cases a : i.isNone = true
 ·have p := o a
  replace hm := (show (some []) = ((app 8 [] c).bind fun d => some d) from by simp [p, app]).trans hm
  refine W_true ((Zx a)) (Zc (Zd (Za rfl rfl (Zo (v := Value.slice none 0 0) rfl rfl (Zb (Ze (W_ret (at_ret ?_))))))))
  have y := Zu hm
  subst r
  refine ⟨_, ret1 rfl, ?_⟩
  have k := hS.nilArr (encInt .i64) 3
  exact ⟨s, (Value.slice none 0 0), (Zv _), (k).f1, rfl⟩
 replace a := Zk a
 refine W_false ((Zx a)) (W_skip (Ze (Zc (Zd (Za rfl rfl (Exec.buildSlice (Te := 3) (cs := []) hS rfl parts_nil (fun _ => by kernel_rfl) ?_))))))
 intro u ab l
 refine Za rfl rfl (Zm (v := b) rfl rfl ?_)
 have m := St.boxArr (E := (encInt .i64)) (xs := []) l rfl (by simp [maxLen])
 obtain ⟨d, q, hm⟩ := Zg hm
 refine Za rfl rfl (Exec.append_arr (E := (encInt .i64)) ((m).f1).f1 S22 Z3 rfl (by decide) rfl rfl rfl q ?_)
 intro h ac n
 refine Za rfl rfl (Zo (v := h) rfl rfl (Zb (Ze (W_ret ?_))))
 have z := Zu hm
 subst r
 refine ⟨_, ret1 rfl, ?_⟩
 exact ⟨s, h, (Zv _), (n).f1, rfl⟩
theorem stn_Network_Copy_sim {w0 w : World} {s : PHeap} {H : List Res} {p : stn_Network} {j : Nat} {i : Value} {m : List Value} {r : stn_Network} (hm : stn_Network_Copy_p p = some r) (hS : St w0 s (Res.box j 101 [i] :: Res.arr encRaw 22 i m :: Res.rows (encInt .i64) 3 m p.d :: H) w)  :
  Calls Tryz.prog 22 #[Value.pointer (some ⟨j, 0, none⟩)] w fun e w' => ∃ v, e = .returned v ∧ ((fun (ar : stn_Network) => ∃ (ao : PHeap) (ae : Nat) (aq : Value) (aj : List Value), PHeap.le s ao ∧ St w0 ao (Res.box j 101 [i] :: Res.arr encRaw 22 i m :: Res.rows (encInt .i64) 3 m p.d :: Res.box ae 101 [aq] :: Res.arr encRaw 22 aq aj :: Res.rows (encInt .i64) 3 aj ar.d :: H) w' ∧ v = Value.pointer (some ⟨ae, 0, none⟩)) r) := by
 unfold stn_Network_Copy_p at hm
 refine calls_of_W Tryz.func22 rfl rfl (Zc (Zd (Za rfl rfl (Zo (v := Value.pointer none) rfl rfl (Zb (Ze (Zc (Zc (Zd (Za rfl rfl (Zm (v := Value.pointer (some ⟨j, 0, none⟩)) rfl rfl (Za rfl rfl (Exec.ptr_eql_nil Tryz.underlying50 rfl rfl rfl (Zb (Ze (W_false rfl (W_skip (Ze (Zc (Zd (Za rfl rfl (Exec.build rfl parts_nil (v := Value.agg #[Value.slice none 0 0]) (fun _ => by kernel_rfl) (Za rfl rfl (Exec.box (cs := [Value.slice none 0 0]) hS rfl rfl rfl ?_))))))))))))))))))))))))
 intro a aR l
 refine Za rfl rfl (Zo (v := Value.pointer (some ⟨a, 0, none⟩)) rfl rfl (Zb (Ze (Zc (Zc (Zd (Za rfl rfl (Zm (v := Value.pointer (some ⟨j, 0, none⟩)) rfl rfl (Za rfl rfl (Exec.nilCheck_ptr rfl rfl (Za rfl rfl (Zp F101_0 rfl rfl rfl (Za rfl rfl (Zn ((l).f1) A79 rfl rfl rfl (Za rfl rfl (Exec.len_grid (((l).f3).f3) (((l).f3).f3).f1.rows_len S79 rfl rfl (Za rfl rfl (Zm (v := Vi (0)) rfl rfl (Zb (Ze ?_))))))))))))))))))))
 obtain ⟨ad, au, hm⟩ := Zg hm
 refine W_block (W_forS (fun k' s' f' w' => (fun (ad : (List (List Int))) => ∃ (ap : PHeap) (q : Value) (n : List Value), PHeap.le s ap ∧ St w0 ap (Res.box j 101 [i] :: Res.arr encRaw 22 i m :: Res.rows (encInt .i64) 3 m p.d :: Res.box a 101 [q] :: Res.arr encRaw 22 q n :: Res.rows (encInt .i64) 3 n ad :: H) w' ∧ f' 3 = Value.pointer (some ⟨a, 0, none⟩) ∧ f' 13 = i ∧ f' 14 = Vi ((p.d.length : Int)) ∧ f' 15 = Vi (k' : Int)) s') au ?_ ?_ ?_)
 ·have ax := (l.rows_nil (encInt .i64) 3).nilArr encRaw 22
  exact ⟨s, (Value.slice none 0 0), [], (Zv _), ((((ax).f2).f5).f5).f5, rfl, rfl, rfl, rfl⟩
 ·intro a4 ad aB aK aS a3 av g
  obtain ⟨aQ, q, n, a5, o, b, ak, al, ac⟩ := av
  refine Zc (Zd (Za rfl rfl (Zq rfl ac al (Zb (Ze (Zc (W_true (Zx (decide_eq_true (by omega))) (W_skip (Ze (Zc (W_block (Zc (Zd ?_)))))))))))))
  obtain ⟨aP, aa, g⟩ := Zg g
  obtain ⟨ah, t, af, _⟩ := ((((o).f2).f2).f1).rows_at aa
  obtain ⟨aM, aH, ag⟩ := (((o).f2).f2).arr_at t
  refine Za rfl rfl (Exec.index_slice S79 rfl (Eq.trans ak ag) ac (idx_some t).1 (idx_some t).2.1 (Za rfl rfl (Exec.load_arr (F := encRaw) (((o).f2).f2) ag A22 rfl rfl rfl t (Sub.refl _) ?_)))
  intro aE am
  replace am := (encRaw_val.1 am).1
  subst aE
  refine Za rfl rfl (Zo (v := ah) rfl rfl (Zb (Ze (W_dl (n0 := 9) (qs 0 6 (.e 6 [0, 1, 2, 3, 4] (.e 7 [0, 1, 2, 3, 4] (.e 8 [0] .done)))) hmix (by kernel_rfl) (by kernel_rfl) (DL_q rfl rfl (Zm (v := Value.pointer (some ⟨a, 0, none⟩)) rfl b ⟨rfl, ?_⟩))))))
  refine DL_q rfl rfl (Zm (v := Value.pointer (some ⟨a, 0, none⟩)) rfl b ⟨rfl, ?_⟩)
  refine DL_q rfl rfl (Exec.nilCheck_ptr rfl rfl ⟨rfl, ?_⟩)
  refine DL_q rfl rfl (Zp F101_0 rfl rfl rfl ⟨rfl, ?_⟩)
  refine DL_q rfl rfl (Zn ((o.drew).f3) A79 rfl rfl rfl ⟨rfl, ?_⟩)
  refine DL_q rfl rfl (Zm (v := ah) rfl rfl ⟨rfl, ?_⟩)
  have ay := ((((o.drew).f2).f2).f1).rows_split af (idx_some aa).2.2
  obtain ⟨aY, aA, g⟩ := Zg g
  refine DL_e rfl rfl (Tc rfl rfl rfl (Zi rfl args_nil) (slices_Clone_int_o_sim aA ay ).r ?_)
  rintro x aT ⟨aC, _, a6, az, rfl⟩
  have y := (((((az).f3).f3).f2).rows_unsplit af (idx_some aa).2.2).f1
  refine ⟨(ag_cons (ag_r rfl rfl (Zm (v := Value.pointer (some ⟨a, 0, none⟩)) rfl b ⟨rfl, rfl⟩)) (ag_cons (ag_r rfl rfl (Zm (v := Value.pointer (some ⟨a, 0, none⟩)) rfl b ⟨rfl, rfl⟩)) (ag_cons (ag_r rfl rfl (Exec.nilCheck_ptr rfl rfl ⟨rfl, rfl⟩)) (ag_cons (ag_r rfl rfl (Zp F101_0 rfl rfl rfl ⟨rfl, rfl⟩)) (ag_cons (ag_r rfl rfl (Zn ((y).f4) A79 rfl rfl rfl ⟨rfl, rfl⟩)) ag_nil))))), ?_⟩
  refine DL_e rfl rfl (Exec.buildSlice (Te := 22) (cs := [x]) y rfl (parts_cons (c := [x]) (cells_of rfl (cells_one ((y).f2).arr_one)) parts_nil) (fun _ => by kernel_rfl) ?_)
  intro aG aU ai
  refine ⟨(ag_cons (ag_r rfl rfl (Zm (v := Value.pointer (some ⟨a, 0, none⟩)) rfl b ⟨rfl, rfl⟩)) (ag_cons (ag_r rfl rfl (Zm (v := Value.pointer (some ⟨a, 0, none⟩)) rfl b ⟨rfl, rfl⟩)) (ag_cons (ag_r rfl rfl (Exec.nilCheck_ptr rfl rfl ⟨rfl, rfl⟩)) (ag_cons (ag_r rfl rfl (Zp F101_0 rfl rfl rfl ⟨rfl, rfl⟩)) (ag_cons (ag_r rfl rfl (Zn ((ai).f5) A79 rfl rfl rfl ⟨rfl, rfl⟩)) ag_nil))))), ?_⟩
  obtain ⟨aN, an, g⟩ := Zg g
  have z := ((((((ai).f3).f1).f7).f7).f2).f1
  refine DL_e rfl rfl (Exec.append_grid (E := encRaw) (ys := [x]) z S79 Z22 rfl (by decide) rfl rfl rfl rfl (reps_one ⟨rfl, ((z).f3).arr_one⟩) rfl rfl ((z).f2).rows_len an ?_)
  intro ab aV a0
  have u := ((a0).f1.f2.rows_push).f1
  rw [← (app_some an).2] at u
  refine ⟨(ag_cons (ag_r rfl rfl (Zm (v := Value.pointer (some ⟨a, 0, none⟩)) rfl b ⟨rfl, rfl⟩)) ag_nil), ?_⟩
  refine DL_done (Za rfl rfl (Exec.nilCheck_ptr rfl rfl (Za rfl rfl (Zp F101_0 rfl rfl rfl (Za rfl rfl (Exec.store_box (ds := [ab]) (es := [ab]) (u).f5 A79 rfl rfl rfl (cells_one ((((u).f5).f2).f2).arr_one) (Zj ((((u).f5).f2).f2).arr_one one_nil) (Nat.le_of_ble_eq_true rfl) rfl ?_))))))
  intro aW a1
  refine Zb (ib_normal (Ze (Zd (Za rfl rfl (Exec.add rfl ac rfl (Za rfl rfl (Zm (v := Vi (IntKind.i64.wrap ((a4 : Int) + 1))) rfl rfl (Zb (Ze ?_)))))))))
  have aI := Zu g
  subst aB
  exact ⟨aC, ab, (n ++ [x]), (Zt a5 a6), ((((((a1).f2).f2).f2).f4).f4).f5, b, ak, al, (Eq.trans rfl (wrap_up a3 (by have h := (((l).f3).f3).f1.rows_len; have h2 := (((l).f3).f3).arr_le; omega)))⟩
 intro aL aX aw
 obtain ⟨aD, q, n, a7, a2, a8, aO, a9, aF⟩ := aw
 refine Zc (Zd (Za rfl rfl (Zq rfl aF a9 (Zb (Ze (Zc (W_false (Zx (decide_eq_false (by omega))) (W_exit (at_exit (at_exit (ib_here (Ze (Zc (Zd (Za rfl rfl (Zm (v := Value.pointer (some ⟨a, 0, none⟩)) rfl a8 (Za rfl rfl (Zo (v := Value.pointer (some ⟨a, 0, none⟩)) rfl rfl (Zb (Ze (W_ret ?_)))))))))))))))))))))
 have aJ := Zu hm
 subst r
 refine ⟨_, ret1 rfl, ?_⟩
 exact ⟨aD, a, q, n, a7, ((((((a2).f5).f5).f5).f5).f5).f5, rfl⟩
theorem base_Is_sim {w0 w : World} {s : PHeap} {H : List Res} {b : (Option Int)} {c : Int}  {r : Bool} (hm : base_Is_p b c = some r) (hS : St w0 s (H) w)  :
  Calls Tryz.prog 23 #[errV 60 (b), Vi (c)] w fun e w' => ∃ v, e = .returned v ∧ ((fun (p : Bool) => ∃ (d : PHeap) , PHeap.le s d ∧ St w0 d (H) w' ∧ v = Value.bool (p)) r) := by
 unfold base_Is_p at hm
 refine calls_of_W Tryz.func23 rfl rfl (Zc (Zd (Za rfl rfl (Zo (v := Value.bool (false)) rfl rfl (Zb (Ze (Zc (W_mid (M := fun f' w' => ∃ (g : PHeap) , PHeap.le s g ∧ St w0 g (H) w' ∧ f' 4 = Value.bool ((b.isSome && decide ((base_Num_t b) = c)))) ?_ ?_))))))))
 ·refine Zd (Za rfl rfl (Zm (v := errV 60 (b)) rfl rfl (Za rfl rfl (Exec.err_neq_nil (T := 60) Tryz.underlying31 rfl rfl rfl (Za rfl rfl (Zm (v := Value.bool (b.isSome)) rfl rfl ?_))))))
  by_cases a : b.isSome = true
  ·refine WL_run rfl (Zf rfl (Zx a)) rfl (Zm (v := errV 60 (b)) rfl rfl (WL_run rfl (Zf rfl (Zx a)) rfl (Tc rfl rfl rfl (Zi rfl args_nil) (base_Num_sim (base_Num_tot b) hS ).r ?_)))
   rintro _ u ⟨n, k, i, rfl⟩
   refine WL_run rfl (Zf rfl (Zx a)) rfl (Zm (v := Vi (c)) rfl rfl (WL_run rfl (Zf rfl (Zx a)) rfl (Exec.eql rfl rfl rfl ?_)))
   refine WL_passes 2 (by rw [a]; rfl) ?_
   refine Zb (Ze ?_)
   exact ⟨n, k, i, (Zx (and_t a)).symm⟩
  replace a := Zk a
  refine WL_passes 6 (by rw [a]; rfl) ?_
  refine Zb (Ze ?_)
  exact ⟨s, (Zv _), hS, (Zx (and_f a)).symm⟩
 intro t x h
 obtain ⟨o, l, j, m⟩ := h
 refine (Ze (W_ret ?_))
 have q := Zu hm
 subst r
 refine ⟨_, ret1 rfl, ?_⟩
 exact ⟨o, l, j, m⟩
theorem stn_Network_Copy_nil_sim {w0 w : World} {s : PHeap} {H : List Res}   {r : Unit} (hm : stn_Network_Copy_nil_p  = some r) (hS : St w0 s (H) w)  :
  Calls Tryz.prog 22 #[Value.pointer none] w fun e w' => ∃ v, e = .returned v ∧ ((fun (_ : Unit) => ∃ (a : PHeap) , PHeap.le s a ∧ St w0 a (H) w' ∧ v = Value.pointer none) r) := by
 unfold stn_Network_Copy_nil_p at hm
 refine calls_of_W Tryz.func22 rfl rfl (Zc (Zd (Za rfl rfl (Zo (v := Value.pointer none) rfl rfl (Zb (Ze (Zc (Zc (Zd (Za rfl rfl (Zm (v := Value.pointer none) rfl rfl (Za rfl rfl (Exec.ptr_eql_nil Tryz.underlying50 rfl rfl rfl (Zb (Ze (W_true rfl (Zc (Zd (Za rfl rfl (Zo (v := Value.pointer none) rfl rfl (Zb (Ze (W_ret (at_ret ?_))))))))))))))))))))))))
 have b := Zu hm
 subst r
 refine ⟨_, ret1 rfl, ?_⟩
 exact ⟨s, (Zv _), hS, rfl⟩
end Go.Pw
