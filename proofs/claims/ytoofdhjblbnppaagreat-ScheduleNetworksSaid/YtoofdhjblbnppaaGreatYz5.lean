/-
  The walks (printed by my generator).
-/
import Derived.Test.YtoofdhjblbnppaaGreatL29
import Derived.Test.YtoofdhjblbnppaaGreatL27
import Derived.Test.YtoofdhjblbnppaaGreatYz4
set_option maxRecDepth 100000
set_option maxHeartbeats 4000000
set_option linter.unusedVariables false
namespace Go.Pw
open Go.Proofs
theorem schedule_Network_sim {w0 w : World} {s : PHeap} {H : List Res} {h : Temporal} {y : (List Launch)} {k : Value} {l : Value} {m : Value} {n : Value} {q : Value} {r : (List Bound) × Int × (Option Int)} (hm : schedule_Network_p h y = some r) (hS : St w0 s (H) w) (ab : SliceRep (encInt .i64) s k h.Vars) (ac : SliceRep (encInt .i64) s l h.Init) (ad : SliceRep encFact s m h.Goal) (ae : SliceRep encJob s n h.Jobs) (af : SliceRep encLaunch s q y) :
  Calls Tryz.prog 15 #[Value.agg #[k, l, m, n], q] w fun e w' => ∃ v, e = .returned v ∧ ((un3 fun (ax : (List Bound)) (ay : Int) (az : (Option Int)) => ∃ (p : PHeap) (aa : Value), PHeap.le s p ∧ St w0 p (H) w' ∧ v = Value.tuple #[aa, Vi (ay), errV 60 (az)] ∧ SliceRep encBound p aa ax) r) := by
 unfold schedule_Network_p at hm
 refine calls_of_W Tryz.func15 rfl rfl (Zc (Zd (Za rfl rfl (Exec.box (cs := [k, l, m, n]) hS rfl rfl rfl ?_))))
 intro a0 aD t
 refine Za rfl rfl (Zo (v := Value.slice none 0 0) rfl rfl (Za rfl rfl (Zo (v := Vi (0)) rfl rfl (Za rfl rfl (Zo (v := errV 60 (none)) rfl rfl (Zb (Ze (Zc (Zd (Za rfl rfl (Exec.load_box_agg (ds := [k, l, m, n]) (t) A26 rfl rfl rfl (Za rfl rfl (Zm (v := q) rfl rfl ?_)))))))))))))
 obtain ⟨av, ak, hm⟩ := Zg hm
 obtain ⟨a5, a⟩ := av
 replace hm := un2_eq hm
 refine Za rfl rfl (Tc rfl rfl rfl (Zi rfl (Zi rfl args_nil)) (schedule_read_sim ak t ab ac ad ae af).r ?_)
 rintro _ aE ai
 rcases ai with ⟨ag, rfl, ar, a6, a7, a8, a9, i, aA, aB, aC, o, u, rfl, am, an, ao, ap⟩ | ⟨rfl, au, aj, ah, rfl⟩
 ·replace hm := optC_some hm
  refine Za rfl rfl (Zm (v := Value.tuple #[Value.pointer (some ⟨i, 0, none⟩), errV 60 (a)]) rfl rfl (Za rfl rfl (Exec.extract (v := Value.pointer (some ⟨i, 0, none⟩)) rfl rfl rfl (Za rfl rfl (Exec.extract (v := errV 60 (a)) rfl rfl rfl (Za rfl rfl (Zo (v := Value.pointer (some ⟨i, 0, none⟩)) rfl rfl (Za rfl rfl (Zo (v := errV 60 (a)) rfl rfl (Zb (Ze (Zc (Zc (Zd (Za rfl rfl (Zm (v := errV 60 (a)) rfl rfl (Za rfl rfl (Exec.err_neq_nil (T := 60) Tryz.underlying31 rfl rfl rfl (Zb (Ze ?_))))))))))))))))))))
  rcases ite_some hm with ⟨d, hm⟩ | ⟨d, hm⟩
  ·refine W_cond_t rfl d (Zc (Zd (Za rfl rfl (Zm (v := errV 60 (a)) rfl rfl (Za rfl rfl (Zo (v := Value.slice none 0 0) rfl rfl (Za rfl rfl (Zo (v := Vi (0)) rfl rfl (Za rfl rfl (Zo (v := errV 60 (a)) rfl rfl (Zb (Ze (W_ret (at_ret ?_))))))))))))))
   have a1 := Zu hm
   subst r
   refine ⟨_, ret3 rfl, ?_⟩
   exact ⟨ar, (Value.slice none 0 0), o, (((((u).drop).drop).drop).drop).drop, (tup3 rfl rfl rfl), (SliceRep.nil _ _)⟩
  refine W_cond_f rfl d ?_
  replace d := Zk d
  refine W_skip (Ze (Zc (Zd (Za rfl rfl (Zm (v := Value.pointer (some ⟨i, 0, none⟩)) rfl rfl ?_)))))
  obtain ⟨aw, al, hm⟩ := Zg hm
  obtain ⟨aG, c⟩ := aw
  replace hm := un2_eq hm
  refine Za rfl rfl (Tc rfl rfl rfl (Zi rfl args_nil) (schedule_plan_bounds_sim al ((((u).f3).f3).f3).f3 am an ao ap).r ?_)
  rintro _ aF ⟨z, b, x, j, rfl, aq⟩
  refine Za rfl rfl (Zm (v := Value.tuple #[b, errV 60 (c)]) rfl rfl (Za rfl rfl (Exec.extract (v := b) rfl rfl rfl (Za rfl rfl (Exec.extract (v := errV 60 (c)) rfl rfl rfl (Za rfl rfl (Zo (v := b) rfl rfl (Za rfl rfl (Zo (v := errV 60 (c)) rfl rfl (Zb (Ze (Zc (Zc (Zd (Za rfl rfl (Zm (v := errV 60 (c)) rfl rfl (Za rfl rfl (Exec.err_neq_nil (T := 60) Tryz.underlying31 rfl rfl rfl (Zb (Ze ?_))))))))))))))))))))
  rcases ite_some hm with ⟨f, hm⟩ | ⟨f, hm⟩
  ·refine W_cond_t rfl f (Zc (Zd (Za rfl rfl (Zm (v := errV 60 (c)) rfl rfl (Za rfl rfl (Zo (v := Value.slice none 0 0) rfl rfl (Za rfl rfl (Zo (v := Vi (0)) rfl rfl (Za rfl rfl (Zo (v := errV 60 (c)) rfl rfl (Zb (Ze (W_ret (at_ret ?_))))))))))))))
   have a2 := Zu hm
   subst r
   refine ⟨_, ret3 rfl, ?_⟩
   exact ⟨z, (Value.slice none 0 0), (Zt o x), (((((j).drop).drop).drop).drop).drop, (tup3 rfl rfl rfl), (SliceRep.nil _ _)⟩
  refine W_cond_f rfl f ?_
  replace f := Zk f
  refine W_skip (Ze (Zc (W_dl (n0 := 9) (qs 0 9 .done) hmix (by kernel_rfl) (by kernel_rfl) (DL_q rfl rfl (Zm (v := b) rfl rfl ⟨rfl, ?_⟩)))))
  refine DL_q rfl rfl (Zm (v := Value.pointer (some ⟨i, 0, none⟩)) rfl rfl ⟨rfl, ?_⟩)
  refine DL_q rfl rfl (Exec.nilCheck_ptr rfl rfl ⟨rfl, ?_⟩)
  refine DL_q rfl rfl (Zp F88_1 rfl rfl rfl ⟨rfl, ?_⟩)
  refine DL_q rfl rfl (Zn (j.drew) A27 rfl rfl rfl ⟨rfl, ?_⟩)
  refine DL_q rfl rfl (Exec.len_arr ((j.drew).f1) S27 rfl rfl ⟨rfl, ?_⟩)
  refine DL_q rfl rfl (Exec.mul rfl rfl rfl ⟨rfl, ?_⟩)
  refine DL_q rfl rfl (Exec.add rfl rfl rfl ⟨rfl, ?_⟩)
  refine DL_q rfl rfl (Zo (v := b) rfl rfl ⟨rfl, ?_⟩)
  refine DL_done (Za rfl rfl (Zo (v := Vi (IntKind.i64.wrap ((IntKind.i64.wrap (2 * (ag.launches.length : Int))) + 1))) rfl rfl (Za rfl rfl (Zo (v := errV 60 (none)) rfl rfl (Zb (Ze (W_ret ?_)))))))
  have a3 := Zu hm
  subst r
  refine ⟨_, ret3 rfl, ?_⟩
  exact ⟨z, b, (Zt o x), (((((j.drew).drop).drop).drop).drop).drop, (tup3 rfl rfl rfl), aq⟩
 replace hm := optC_none hm
 refine Za rfl rfl (Zm (v := Value.tuple #[Value.pointer none, errV 60 (a)]) rfl rfl (Za rfl rfl (Exec.extract (v := Value.pointer none) rfl rfl rfl (Za rfl rfl (Exec.extract (v := errV 60 (a)) rfl rfl rfl (Za rfl rfl (Zo (v := Value.pointer none) rfl rfl (Za rfl rfl (Zo (v := errV 60 (a)) rfl rfl (Zb (Ze (Zc (Zc (Zd (Za rfl rfl (Zm (v := errV 60 (a)) rfl rfl (Za rfl rfl (Exec.err_neq_nil (T := 60) Tryz.underlying31 rfl rfl rfl (Zb (Ze ?_))))))))))))))))))))
 rcases ite_some hm with ⟨g, hm⟩ | ⟨g, hm⟩
 ·refine W_cond_t rfl g (Zc (Zd (Za rfl rfl (Zm (v := errV 60 (a)) rfl rfl (Za rfl rfl (Zo (v := Value.slice none 0 0) rfl rfl (Za rfl rfl (Zo (v := Vi (0)) rfl rfl (Za rfl rfl (Zo (v := errV 60 (a)) rfl rfl (Zb (Ze (W_ret (at_ret ?_))))))))))))))
  have a4 := Zu hm
  subst r
  refine ⟨_, ret3 rfl, ?_⟩
  exact ⟨au, (Value.slice none 0 0), aj, (ah).drop, (tup3 rfl rfl rfl), (SliceRep.nil _ _)⟩
 refine W_cond_f rfl g ?_
 replace g := Zk g
 refine W_skip (Ze (Zc ?_))
 cases hm
theorem ZZ60 : (Tryz.prog.info? 60).map (·.zero) = some (some (.int .i64 0)) := by kernel_rfl
theorem base_Num_sim {w0 w : World} {s : PHeap} {H : List Res} {a : (Option Int)}  {r : Int} (hm : base_Num_p a = some r) (hS : St w0 s (H) w)  :
  Calls Tryz.prog 16 #[errV 60 (a)] w fun e w' => ∃ v, e = .returned v ∧ ((fun (f : Int) => ∃ (d : PHeap) , PHeap.le s d ∧ St w0 d (H) w' ∧ v = Vi (f)) r) := by
 unfold base_Num_p at hm
 refine calls_of_W Tryz.func16 rfl rfl (Zc (Zd (Za rfl rfl (Zo (v := Vi (0)) rfl rfl (Zb (Ze (Zc (Zc (Zd (Za rfl rfl (Zm (v := errV 60 (a)) rfl rfl (Za rfl rfl (Exec.err_eql_nil (T := 60) Tryz.underlying31 rfl rfl rfl (Zb (Ze ?_)))))))))))))))
 rcases ite_some hm with ⟨b, hm⟩ | ⟨b, hm⟩
 ·refine W_cond_t rfl b (Zc (Zd (Za rfl rfl (Zo (v := Vi (0)) rfl rfl (Zb (Ze (W_ret (at_ret ?_))))))))
  have g := Zu hm
  subst r
  refine ⟨_, ret1 rfl, ?_⟩
  exact ⟨s, (Zv _), hS, rfl⟩
 refine W_cond_f rfl b ?_
 replace b := Zk b
 refine W_skip (Ze (Zc (Zc (Zd (Za rfl rfl (Zm (v := errV 60 (a)) rfl rfl (Za rfl rfl (Exec.err_assert Tryz.underlying60 ZZ60 rfl rfl (Za rfl rfl (Zm (v := Value.tuple #[Vi (a.getD 0), Value.bool (a.isSome)]) rfl rfl (Za rfl rfl (Exec.extract (v := Vi (a.getD 0)) rfl rfl rfl (Za rfl rfl (Exec.extract (v := Value.bool (a.isSome)) rfl rfl rfl (Za rfl rfl (Zo (v := Vi (a.getD 0)) rfl rfl (Za rfl rfl (Zo (v := Value.bool (a.isSome)) rfl rfl (Zb (Ze (Zc (Zd (Za rfl rfl (Zm (v := Value.bool (a.isSome)) rfl rfl (Zb (Ze ?_))))))))))))))))))))))))))
 rcases ite_some hm with ⟨c, hm⟩ | ⟨c, hm⟩
 ·refine W_cond_t rfl c (Zc (Zd (Za rfl rfl (Zm (v := Vi (a.getD 0)) rfl rfl (Za rfl rfl (Zo (v := Vi (a.getD 0)) rfl rfl (Zb (Ze (W_ret (at_ret ?_))))))))))
  have h := Zu hm
  subst r
  refine ⟨_, ret1 rfl, ?_⟩
  exact ⟨s, (Zv _), hS, rfl⟩
 refine W_cond_f rfl c ?_
 replace c := Zk c
 refine W_skip (Ze (Zc (Zd (Za rfl rfl (Zo (v := Vi ((-1))) rfl rfl (Zb (Ze (W_ret ?_))))))))
 have i := Zu hm
 subst r
 refine ⟨_, ret1 rfl, ?_⟩
 exact ⟨s, (Zv _), hS, rfl⟩
theorem IS49 : intStruct Tryz.prog 49 3 = true := by kernel_rfl
theorem law57_ScheduleNetworks_sim {w0 w : World} {s : PHeap} {H : List Res} {a6 : Temporal} {ba : (List Launch)} {u : Value} {x : Value} {y : Value} {z : Value} {ae : Value} {r : Bool} (hm : law57_ScheduleNetworks_p a6 ba = some r) (hS : St w0 s (H) w) (al : SliceRep (encInt .i64) s u a6.Vars) (am : SliceRep (encInt .i64) s x a6.Init) (an : SliceRep encFact s y a6.Goal) (ao : SliceRep encJob s z a6.Jobs) (ap : SliceRep encLaunch s ae ba) :
  Calls Tryz.prog 4 #[Value.agg #[u, x, y, z], ae] w fun e w' => ∃ v, e = .returned v ∧ ((fun (ct : Bool) => ∃ (bj : PHeap) , PHeap.le s bj ∧ St w0 bj (H) w' ∧ v = Value.bool (ct)) r) := by
 unfold law57_ScheduleNetworks_p at hm
 refine calls_of_W Tryz.func4 rfl rfl (Zc (Zd (Za rfl rfl (Exec.box (cs := [u, x, y, z]) hS rfl rfl rfl ?_))))
 intro aQ cU b1
 refine Za rfl rfl (Zo (v := Value.bool (false)) rfl rfl (Zb (Ze (Zc (Zc ?_)))))
 obtain ⟨a8, ad, hm⟩ := Zg hm
 refine W_mid (M := fun f' w' => (fun (a8 : Bool) => ∃ (bk : PHeap) , PHeap.le s bk ∧ St w0 bk (Res.box aQ 26 [u, x, y, z] :: H) w' ∧ f' 1 = ae ∧ f' 2 = Value.pointer (some ⟨aQ, 0, none⟩) ∧ f' 25 = Value.bool (a8)) a8) ?_ ?_
 ·refine Zd ?_
  obtain ⟨cu, bQ, ad⟩ := Zg ad
  refine Za rfl rfl (Tc rfl rfl rfl args_nil (law57_awake_sim bQ b1 ).r ?_)
  rintro _ cV ⟨cd, ag, aH, rfl⟩
  refine Za rfl rfl (Exec.not rfl rfl (Za rfl rfl (Zm (v := Value.bool (!cu)) rfl rfl ?_)))
  rcases ite_some ad with ⟨ab, ad⟩ | ⟨ab, ad⟩
  ·refine WL_passes 5 (by rw [ab]; rfl) ?_
   refine Zb (Ze ?_)
   have cz := Zu ad
   subst a8
   exact ⟨cd, ag, aH, rfl, rfl, rfl⟩
  replace ab := Zk ab
  refine WL_run rfl (Zf rfl (Zx ab)) rfl (Exec.load_box_agg (ds := [u, x, y, z]) (aH) A26 rfl rfl rfl (WL_run rfl (Zf rfl (Zx ab)) rfl (Zm (v := ae) rfl rfl ?_)))
  obtain ⟨cv, bR, ad⟩ := Zg ad
  refine WL_run rfl (Zf rfl (Zx ab)) rfl (Tc rfl rfl rfl (Zi rfl (Zi rfl args_nil)) (law57_few_sim bR aH (al.mono ag) (am.mono ag) (an.mono ag) (ao.mono ag) (ap.mono ag)).r ?_)
  rintro _ cW ⟨ce, bG, b2, rfl⟩
  refine WL_run rfl (Zf rfl (Zx ab)) rfl (Exec.not rfl rfl (Za rfl rfl (Exec.pick_f (v := Value.bool (!cv)) rfl (Zx ab) rfl (Zb (Ze ?_)))))
  have c0 := Zu ad
  subst a8
  exact ⟨ce, (Zt ag bG), b2, rfl, rfl, rfl⟩
 intro c9 cX bw
 obtain ⟨cK, a, aI, a2, a3, bc⟩ := bw
 refine (Ze ?_)
 rcases ite_some hm with ⟨ax, hm⟩ | ⟨ax, hm⟩
 ·refine W_cond_t bc ax (Zc (Zd ?_))
  obtain ⟨cw, bS, hm⟩ := Zg hm
  refine Za rfl rfl (Tc rfl rfl rfl args_nil (law57_awake_sim bS aI ).r ?_)
  rintro _ cY ⟨cf, bH, b3, rfl⟩
  refine Za rfl rfl (Zo (v := Value.bool (cw)) rfl rfl (Zb (Ze (W_ret (at_ret ?_)))))
  have c1 := Zu hm
  subst r
  refine ⟨_, ret1 rfl, ?_⟩
  exact ⟨cf, (Zt a bH), (b3).drop, rfl⟩
 refine W_cond_f bc ax ?_
 replace ax := Zk ax
 refine W_skip (Ze (Zc (Zd (Za rfl rfl (Exec.load_box_agg (ds := [u, x, y, z]) (aI) A26 rfl a3 rfl (Za rfl rfl (Zm (v := ae) rfl a2 ?_)))))))
 obtain ⟨cm, bT, hm⟩ := Zg hm
 obtain ⟨aj, af, p⟩ := cm
 replace hm := un3_eq hm
 refine Za rfl rfl (Tc rfl rfl rfl (Zi rfl (Zi rfl args_nil)) (schedule_Network_sim bT aI (al.mono a) (am.mono a) (an.mono a) (ao.mono a) (ap.mono a)).r ?_)
 rintro _ cZ ⟨cL, aa, b, aU, rfl, a4⟩
 refine Za rfl rfl (Zm (v := Value.tuple #[aa, Vi (af), errV 60 (p)]) rfl rfl (Za rfl rfl (Exec.extract (v := aa) rfl rfl rfl (Za rfl rfl (Exec.extract (v := Vi (af)) rfl rfl rfl (Za rfl rfl (Exec.extract (v := errV 60 (p)) rfl rfl rfl (Za rfl rfl (Zo (v := aa) rfl rfl (Za rfl rfl (Zo (v := Vi (af)) rfl rfl (Za rfl rfl (Zo (v := errV 60 (p)) rfl rfl (Zb (Ze (Zc (Zc (Zd (Za rfl rfl (Exec.load_box_agg (ds := [u, x, y, z]) (aU) A26 rfl a3 rfl (Za rfl rfl (Zm (v := ae) rfl a2 ?_))))))))))))))))))))))
 obtain ⟨cn, bU, hm⟩ := Zg hm
 obtain ⟨aP, d⟩ := cn
 replace hm := un2_eq hm
 refine Za rfl rfl (Tc rfl rfl rfl (Zi rfl (Zi rfl args_nil)) (temporal_Validate_sim bU aU (al.mono (Zt a b)) (am.mono (Zt a b)) (an.mono (Zt a b)) (ao.mono (Zt a b)) (ap.mono (Zt a b))).r ?_)
 rintro _ da ⟨cM, c, a9, rfl⟩
 refine Za rfl rfl (Zm (v := Value.tuple #[Vi (aP), errV 60 (d)]) rfl rfl (Za rfl rfl (Exec.extract (v := Vi (aP)) rfl rfl rfl (Za rfl rfl (Exec.extract (v := errV 60 (d)) rfl rfl rfl (Za rfl rfl (Zo (v := Vi (aP)) rfl rfl (Za rfl rfl (Zo (v := errV 60 (d)) rfl rfl (Zb (Ze (Zc (Zd (Za rfl rfl (Zm (v := errV 60 (d)) rfl rfl (Za rfl rfl (Exec.err_neq_nil (T := 60) Tryz.underlying31 rfl rfl rfl (Zb (Ze ?_)))))))))))))))))))
 rcases ite_some hm with ⟨ay, hm⟩ | ⟨ay, hm⟩
 ·refine W_cond_t rfl ay (Zc (Zd (Za rfl rfl (Exec.load_box_agg (ds := [u, x, y, z]) (a9) A26 rfl a3 rfl (Za rfl rfl (Zm (v := ae) rfl a2 ?_))))))
  obtain ⟨co, bV, hm⟩ := Zg hm
  obtain ⟨bq, ak⟩ := co
  replace hm := un2_eq hm
  refine Za rfl rfl (Tc rfl rfl rfl (Zi rfl (Zi rfl args_nil)) (schedule_Shift_sim bV a9 (al.mono (Zt (Zt a b) c)) (am.mono (Zt (Zt a b) c)) (an.mono (Zt (Zt a b) c)) (ao.mono (Zt (Zt a b) c)) (ap.mono (Zt (Zt a b) c))).r ?_)
  rintro _ db ⟨cN, aF, ah, aV, rfl, cb⟩
  refine Za rfl rfl (Zm (v := Value.tuple #[aF, errV 60 (ak)]) rfl rfl (Za rfl rfl (Exec.extract (v := aF) rfl rfl rfl (Za rfl rfl (Exec.extract (v := errV 60 (ak)) rfl rfl rfl (Za rfl rfl (Zo (v := aF) rfl rfl (Za rfl rfl (Zo (v := errV 60 (ak)) rfl rfl (Zb (Ze (Zc (Zd (Za rfl rfl (Exec.load_box_agg (ds := [u, x, y, z]) (aV) A26 rfl a3 rfl (Za rfl rfl (Zm (v := ae) rfl a2 ?_)))))))))))))))))
  obtain ⟨cp, bW, hm⟩ := Zg hm
  obtain ⟨br, ar⟩ := cp
  replace hm := un2_eq hm
  refine Za rfl rfl (Tc rfl rfl rfl (Zi rfl (Zi rfl args_nil)) (schedule_Slack_sim bW aV (al.mono (Zt (Zt (Zt a b) c) ah)) (am.mono (Zt (Zt (Zt a b) c) ah)) (an.mono (Zt (Zt (Zt a b) c) ah)) (ao.mono (Zt (Zt (Zt a b) c) ah)) (ap.mono (Zt (Zt (Zt a b) c) ah))).r ?_)
  rintro _ dc ⟨cO, aG, aJ, b4, rfl, cc⟩
  refine Za rfl rfl (Zm (v := Value.tuple #[aG, errV 60 (ar)]) rfl rfl (Za rfl rfl (Exec.extract (v := aG) rfl rfl rfl (Za rfl rfl (Exec.extract (v := errV 60 (ar)) rfl rfl rfl (Za rfl rfl (Zo (v := aG) rfl rfl (Za rfl rfl (Zo (v := errV 60 (ar)) rfl rfl (Zb (Ze (Zc (Zd (Za rfl rfl (Zm (v := errV 60 (d)) rfl rfl (Za rfl rfl (Tc rfl rfl rfl (Zi rfl args_nil) (base_Num_sim (base_Num_tot d) b4 ).r ?_)))))))))))))))))
  rintro _ dd ⟨a5, aB, av, rfl⟩
  refine Za rfl rfl (Zo (v := Vi ((base_Num_t d))) rfl rfl (Zb (Ze (Zc (W_mid (M := fun f' w' => ∃ (bl : PHeap) , PHeap.le a5 bl ∧ St w0 bl (H) w' ∧ f' 4 = Value.bool (((decide ((aj.length : Int) = 0)) && ((decide (af = 0)) && ((decide ((bq.length : Int) = 0)) && ((decide ((br.length : Int) = 0)) && ((decide ((base_Num_t p) = (base_Num_t d))) && ((decide ((base_Num_t ak) = (base_Num_t d))) && decide ((base_Num_t ar) = (base_Num_t d)))))))))) ?_ ?_)))))
  ·refine Zd (Za rfl rfl (Zm (v := aa) rfl rfl (Za rfl rfl (Zr S42 rfl rfl (a4.mono (Zt (Zt (Zt c ah) aJ) aB)) (Za rfl rfl (Exec.eql rfl rfl rfl (Za rfl rfl (Zm (v := Value.bool (decide ((aj.length : Int) = 0))) rfl rfl ?_))))))))
   by_cases g : (decide ((aj.length : Int) = 0)) = true
   ·refine WL_run rfl (Zf rfl (Zx g)) rfl (Zm (v := Vi (af)) rfl rfl (WL_run rfl (Zf rfl (Zx g)) rfl (Exec.eql rfl rfl rfl ?_)))
    refine WL_passes 2 (by rw [g]; rfl) ?_
    by_cases i : (decide (af = 0)) = true
    ·refine WL_run rfl (Zf rfl (Zx i)) rfl (Zm (v := aF) rfl rfl (WL_run rfl (Zf rfl (Zx i)) rfl (Zr S27 rfl rfl (cb.mono (Zt aJ aB)) (WL_run rfl (Zf rfl (Zx i)) rfl (Exec.eql rfl rfl rfl ?_)))))
     refine WL_passes 2 (by rw [i]; rfl) ?_
     by_cases j : (decide ((bq.length : Int) = 0)) = true
     ·refine WL_run rfl (Zf rfl (Zx j)) rfl (Zm (v := aG) rfl rfl (WL_run rfl (Zf rfl (Zx j)) rfl (Zr S22 rfl rfl (cc.mono aB) (WL_run rfl (Zf rfl (Zx j)) rfl (Exec.eql rfl rfl rfl ?_)))))
      refine WL_passes 2 (by rw [j]; rfl) ?_
      by_cases l : (decide ((br.length : Int) = 0)) = true
      ·refine WL_run rfl (Zf rfl (Zx l)) rfl (Zm (v := errV 60 (p)) rfl rfl (WL_run rfl (Zf rfl (Zx l)) rfl (Tc rfl rfl rfl (Zi rfl args_nil) (base_Num_sim (base_Num_tot p) av ).r ?_)))
       rintro _ de ⟨cg, aK, aW, rfl⟩
       refine WL_run rfl (Zf rfl (Zx l)) rfl (Zm (v := Vi ((base_Num_t d))) rfl rfl (WL_run rfl (Zf rfl (Zx l)) rfl (Exec.eql rfl rfl rfl ?_)))
       refine WL_passes 2 (by rw [l]; rfl) ?_
       by_cases m : (decide ((base_Num_t p) = (base_Num_t d))) = true
       ·refine WL_run rfl (Zf rfl (Zx m)) rfl (Zm (v := errV 60 (ak)) rfl rfl (WL_run rfl (Zf rfl (Zx m)) rfl (Tc rfl rfl rfl (Zi rfl args_nil) (base_Num_sim (base_Num_tot ak) aW ).r ?_)))
        rintro _ df ⟨ch, bb, aX, rfl⟩
        refine WL_run rfl (Zf rfl (Zx m)) rfl (Zm (v := Vi ((base_Num_t d))) rfl rfl (WL_run rfl (Zf rfl (Zx m)) rfl (Exec.eql rfl rfl rfl ?_)))
        refine WL_passes 2 (by rw [m]; rfl) ?_
        by_cases q : (decide ((base_Num_t ak) = (base_Num_t d))) = true
        ·refine WL_run rfl (Zf rfl (Zx q)) rfl (Zm (v := errV 60 (ar)) rfl rfl (WL_run rfl (Zf rfl (Zx q)) rfl (Tc rfl rfl rfl (Zi rfl args_nil) (base_Num_sim (base_Num_tot ar) aX ).r ?_)))
         rintro _ dg ⟨ci, bI, b5, rfl⟩
         refine WL_run rfl (Zf rfl (Zx q)) rfl (Zm (v := Vi ((base_Num_t d))) rfl rfl (WL_run rfl (Zf rfl (Zx q)) rfl (Exec.eql rfl rfl rfl ?_)))
         refine WL_passes 2 (by rw [q]; rfl) ?_
         refine Zb (Ze ?_)
         exact ⟨ci, (Zt (Zt aK bb) bI), (b5).drop, (Zx (Eq.trans (and_t g) (Eq.trans (and_t i) (Eq.trans (and_t j) (Eq.trans (and_t l) (Eq.trans (and_t m) (and_t q))))))).symm⟩
        replace q := Zk q
        refine WL_passes 6 (by rw [q]; rfl) ?_
        refine Zb (Ze ?_)
        exact ⟨ch, (Zt aK bb), (aX).drop, (Zx (Eq.trans (and_t g) (Eq.trans (and_t i) (Eq.trans (and_t j) (Eq.trans (and_t l) (Eq.trans (and_t m) (and_f q))))))).symm⟩
       replace m := Zk m
       refine WL_passes 12 (by rw [m]; rfl) ?_
       refine Zb (Ze ?_)
       exact ⟨cg, aK, (aW).drop, (Zx (Eq.trans (and_t g) (Eq.trans (and_t i) (Eq.trans (and_t j) (Eq.trans (and_t l) (and_f m)))))).symm⟩
      replace l := Zk l
      refine WL_passes 18 (by rw [l]; rfl) ?_
      refine Zb (Ze ?_)
      exact ⟨a5, (Zv _), (av).drop, (Zx (Eq.trans (and_t g) (Eq.trans (and_t i) (Eq.trans (and_t j) (and_f l))))).symm⟩
     replace j := Zk j
     refine WL_passes 23 (by rw [j]; rfl) ?_
     refine Zb (Ze ?_)
     exact ⟨a5, (Zv _), (av).drop, (Zx (Eq.trans (and_t g) (Eq.trans (and_t i) (and_f j)))).symm⟩
    replace i := Zk i
    refine WL_passes 28 (by rw [i]; rfl) ?_
    refine Zb (Ze ?_)
    exact ⟨a5, (Zv _), (av).drop, (Zx (Eq.trans (and_t g) (and_f i))).symm⟩
   replace g := Zk g
   refine WL_passes 32 (by rw [g]; rfl) ?_
   refine Zb (Ze ?_)
   exact ⟨a5, (Zv _), (av).drop, (Zx (and_f g)).symm⟩
  intro cA dh bx
  obtain ⟨cj, bJ, b6, bM⟩ := bx
  refine (Ze (W_ret (at_ret ?_)))
  have c2 := Zu hm
  subst r
  refine ⟨_, ret1 rfl, ?_⟩
  exact ⟨cj, (Zt (Zt (Zt (Zt (Zt (Zt a b) c) ah) aJ) aB) bJ), b6, bM⟩
 refine W_cond_f rfl ay ?_
 replace ay := Zk ay
 refine W_skip (Ze (Zc (Zd (Za rfl rfl (Exec.load_box_agg (ds := [u, x, y, z]) (a9) A26 rfl a3 rfl (Za rfl rfl (Zm (v := ae) rfl a2 ?_)))))))
 obtain ⟨cq, bX, hm⟩ := Zg hm
 obtain ⟨a7, au⟩ := cq
 replace hm := un2_eq hm
 refine Za rfl rfl (Tc rfl rfl rfl (Zi rfl (Zi rfl args_nil)) (ref57_Network_sim bX a9 (al.mono (Zt (Zt a b) c)) (am.mono (Zt (Zt a b) c)) (an.mono (Zt (Zt a b) c)) (ao.mono (Zt (Zt a b) c)) (ap.mono (Zt (Zt a b) c))).r ?_)
 rintro _ di ⟨aD, o, ai, aA, rfl⟩
 refine Za rfl rfl (Zm (v := Value.tuple #[o, Vi (au)]) rfl rfl (Za rfl rfl (Exec.extract (v := o) rfl rfl rfl (Za rfl rfl (Exec.extract (v := Vi (au)) rfl rfl rfl (Za rfl rfl (Zo (v := o) rfl rfl (Za rfl rfl (Zo (v := Vi (au)) rfl rfl (Zb (Ze (Zc (Zc (W_mid (M := fun f' w' => ∃ (bm : PHeap) , PHeap.le aD bm ∧ St w0 bm (Res.arr encBound 49 o a7 :: H) w' ∧ f' 5 = aa ∧ f' 15 = o ∧ f' 110 = Value.bool ((p.isSome || ((!decide (af = au)) || !decide ((aj.length : Int) = (a7.length : Int)))))) ?_ ?_))))))))))))))
 ·refine Zd (Za rfl rfl (Zm (v := errV 60 (p)) rfl rfl (Za rfl rfl (Exec.err_neq_nil (T := 60) Tryz.underlying31 rfl rfl rfl (Za rfl rfl (Zm (v := Value.bool (p.isSome)) rfl rfl ?_))))))
  by_cases t : p.isSome = true
  ·refine WL_passes 11 (by rw [t]; rfl) ?_
   refine Zb (Ze ?_)
   exact ⟨aD, (Zv _), ((aA).f1).drop, rfl, rfl, (Zx (or_t t)).symm⟩
  replace t := Zk t
  refine WL_run rfl (Zf rfl (Zx t)) rfl (Zm (v := Vi (af)) rfl rfl (WL_run rfl (Zf rfl (Zx t)) rfl (Zm (v := Vi (au)) rfl rfl (WL_run rfl (Zf rfl (Zx t)) rfl (Exec.neq rfl rfl rfl ?_)))))
  refine WL_passes 2 (by rw [t]; rfl) ?_
  by_cases n : (!decide (af = au)) = true
  ·refine WL_passes 6 (by rw [n]; rfl) ?_
   refine Zb (Ze ?_)
   exact ⟨aD, (Zv _), ((aA).f1).drop, rfl, rfl, (Zx (Eq.trans (or_f t) (or_t n))).symm⟩
  replace n := Zk n
  refine WL_run rfl (Zf rfl (Zx n)) rfl (Zm (v := aa) rfl rfl (WL_run rfl (Zf rfl (Zx n)) rfl (Zr S42 rfl rfl (a4.mono (Zt c ai)) (WL_run rfl (Zf rfl (Zx n)) rfl (Zm (v := o) rfl rfl (WL_run rfl (Zf rfl (Zx n)) rfl (Exec.len_arr (aA) S42 rfl rfl (WL_run rfl (Zf rfl (Zx n)) rfl (Exec.neq rfl rfl rfl (Za rfl rfl (Exec.pick_f (v := Value.bool (!decide ((aj.length : Int) = (a7.length : Int)))) rfl (Zx n) rfl (Zb (Ze ?_)))))))))))))
  exact ⟨aD, (Zv _), ((aA).f1).drop, rfl, rfl, (Zx (Eq.trans (or_f t) (or_f n))).symm⟩
 intro cB dj bz
 obtain ⟨aE, aq, aY, bd, bN, be⟩ := bz
 refine (Ze ?_)
 rcases ite_some hm with ⟨az, hm⟩ | ⟨az, hm⟩
 ·refine W_cond_t be az (Zc (Zd (Za rfl rfl (Zo (v := Value.bool (false)) rfl rfl (Zb (Ze (W_ret (at_ret ?_))))))))
  have c3 := Zu hm
  subst r
  refine ⟨_, ret1 rfl, ?_⟩
  exact ⟨aE, (Zt (Zt (Zt (Zt a b) c) ai) aq), (aY).drop, rfl⟩
 refine W_cond_f be az ?_
 replace az := Zk az
 refine W_skip (Ze (Zc (Zc (Zd (Za rfl rfl (Zm (v := aa) rfl bd (Za rfl rfl (Zr S42 rfl rfl (a4.mono (Zt (Zt c ai) aq)) (Za rfl rfl (Zm (v := Vi (0)) rfl rfl (Zb (Ze ?_))))))))))))
 obtain ⟨aR, bt, bD, bB, b9⟩ := ctl_some hm
 refine W_mid (M := fun f' w' => ∃ s', (aR = .next s' ∨ aR = .brk s') ∧ (fun (_ : Unit) => ∃ (bn : PHeap) , PHeap.le aE bn ∧ St w0 bn (Res.arr encBound 49 o a7 :: H) w' ∧ f' 5 = aa ∧ f' 15 = o ∧ f' 112 = Vi ((aj.length : Int))) s') ?_ ?_
 ·refine W_block (W_forC (fun k' s' f' w' => (fun (_ : Unit) => ∃ (bo : PHeap) , PHeap.le aE bo ∧ St w0 bo (Res.arr encBound 49 o a7 :: H) w' ∧ f' 5 = aa ∧ f' 15 = o ∧ f' 112 = Vi ((aj.length : Int)) ∧ f' 113 = Vi (k' : Int)) s') bt ?_ ?_ ?_)
  ·exact ⟨aE, (Zv _), aY, bd, bN, rfl, rfl⟩
  ·intro a1 cP aS cC dk bA bu ac bE
   obtain ⟨bp, aL, aw, bf, bg, bh, aM⟩ := bu
   refine Zc (Zd (Za rfl rfl (Zq rfl aM bh (Zb (Ze (Zc (W_true (Zx (decide_eq_true (by omega))) (W_skip (Ze (Zc (W_block (Zc (Zd (Za rfl rfl (Zm (v := Vi ((a1 : Int))) rfl aM (Za rfl rfl (Zo (v := Vi ((a1 : Int))) rfl rfl (Zb (Ze (Zc (W_dl (n0 := 9) (qs 0 9 .done) hmix (by kernel_rfl) (by kernel_rfl) (DL_q rfl rfl (Zm (v := aa) rfl bf ⟨rfl, ?_⟩)))))))))))))))))))))))
   refine DL_q rfl rfl (Zm (v := Vi ((a1 : Int))) rfl rfl ⟨rfl, ?_⟩)
   obtain ⟨aN, bY, ac⟩ := Zg ac
   refine DL_q rfl rfl (Exec.index_repE S42 rfl rfl rfl (a4.mono (Zt (Zt (Zt c ai) aq) aL)) bY ?_)
   intro cx cG bs c4
   refine ⟨rfl, ?_⟩
   refine DL_q rfl rfl (Zw (E := encBound) aw.drew A49 rfl rfl rfl bs ?_)
   intro cS bZ
   obtain rfl := encBound_val.1 bZ
   refine ⟨rfl, ?_⟩
   refine DL_q rfl rfl (Zm (v := o) rfl bg ⟨rfl, ?_⟩)
   refine DL_q rfl rfl (Zm (v := Vi ((a1 : Int))) rfl rfl ⟨rfl, ?_⟩)
   obtain ⟨aO, aC, ac⟩ := Zg ac
   obtain ⟨cF, cy, aT⟩ := (aw.drew).arr_at aC
   refine DL_q rfl rfl (Exec.index_slice S42 rfl aT rfl (idx_some aC).1 (idx_some aC).2.1 ⟨rfl, ?_⟩)
   refine DL_q rfl rfl (Exec.load_arr (F := encBound) (aw.drew) aT A49 rfl rfl rfl aC (Sub.refl _) ?_)
   intro cT ca
   obtain rfl := encBound_val.1 ca
   refine ⟨rfl, ?_⟩
   refine DL_q rfl rfl (Exec.ints_neq (xs := [aN.A, aN.B, aN.Most]) (ys := [aO.A, aO.B, aO.Most]) IS49 rfl rfl rfl rfl rfl rfl rfl ⟨rfl, ?_⟩)
   refine DL_done (Zb (Ze ?_))
   rcases ite_some ac with ⟨a0, ac⟩ | ⟨a0, ac⟩
   ·refine W_cond_t rfl a0 (Zc (Zd (Za rfl rfl (Zo (v := Value.bool (false)) rfl rfl (Zb (Ze (W_ret (ib_ret (at_ret (at_ret (ib_ret (at_ret (at_ret ?_)))))))))))))
    have c5 := Zu ac
    subst aS
    have bC := bD _ (bE (by intro _ h; cases h))
    have c6 := Zu bC
    subst r
    refine ⟨_, ret1 rfl, ?_⟩
    exact ⟨bp, (Zt (Zt (Zt (Zt (Zt a b) c) ai) aq) aL), (aw.drew).drop, rfl⟩
   refine W_cond_f rfl a0 ?_
   replace a0 := Zk a0
   refine W_skip (ib_normal (Ze (Zd (Za rfl rfl (Exec.add rfl aM rfl (Za rfl rfl (Zm (v := Vi (IntKind.i64.wrap ((a1 : Int) + 1))) rfl rfl (Zb (Ze ?_)))))))))
   have c7 := Zu ac
   subst aS
   refine ⟨_, rfl, ?_⟩; exact ⟨bp, aL, aw.drew, bf, bg, bh, (Eq.trans rfl (wrap_up bA (SliceRep.le (a4.mono (Zt (Zt c ai) aq)))))⟩
  intro cQ cD dl bv bF
  obtain ⟨ck, bK, b7, bO, bP, bi, cr⟩ := bv
  refine Zc (Zd (Za rfl rfl (Zq rfl cr bi (Zb (Ze (Zc (W_false (Zx (decide_eq_false (by omega))) (W_exit (at_exit (at_exit (ib_here (Ze ?_))))))))))))
  refine ⟨_, .inl bF, ?_⟩; exact ⟨ck, bK, b7, bO, bP, bi⟩
 rintro cE dm ⟨cR, aZ, b0⟩
 have hm := aZ.elim (bB _) (b9 _)
 clear aZ
 obtain ⟨cl, bL, b8, cH, cI, cJ⟩ := b0
 refine (Ze (Zc (Zd (Za rfl rfl (Zo (v := Value.bool (true)) rfl rfl (Zb (Ze (W_ret ?_))))))))
 have c8 := Zu hm
 subst r
 refine ⟨_, ret1 rfl, ?_⟩
 exact ⟨cl, (Zt (Zt (Zt (Zt (Zt a b) c) ai) aq) bL), (b8).drop, rfl⟩
end Go.Pw
