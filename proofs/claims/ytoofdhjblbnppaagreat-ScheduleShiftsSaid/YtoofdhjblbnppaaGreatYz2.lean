/-
  The walks (printed by my generator).
-/
import Derived.Test.YtoofdhjblbnppaaGreatL29
import Derived.Test.YtoofdhjblbnppaaGreatL27
import Derived.Test.YtoofdhjblbnppaaGreatYz1
import Derived.Test.YtoofdhjblbnppaaGreatYzX
set_option maxRecDepth 100000
set_option maxHeartbeats 4000000
set_option linter.unusedVariables false
namespace Go.Pw
open Go.Proofs
theorem F88_2 : tyField Tryz.prog 88 2 = some 5 := by kernel_rfl
theorem A86 : tyAgg Tryz.prog 86 = some (false, 1) := by kernel_rfl
theorem schedule_start_sim {w0 w : World} {s : PHeap} {H : List Res} {a : Int}  {r : Int} (hm : schedule_start_p a = some r) (hS : St w0 s (H) w)  :
  Calls Tryz.prog 35 #[Vi (a)] w fun e w' => ∃ v, e = .returned v ∧ ((fun (c : Int) => ∃ (b : PHeap) , PHeap.le s b ∧ St w0 b (H) w' ∧ v = Vi (c)) r) := by
 unfold schedule_start_p at hm
 refine calls_of_W Tryz.func35 rfl rfl (Zc (Zd (Za rfl rfl (Zo (v := Vi (0)) rfl rfl (Zb (Ze (Zc (Zd (Za rfl rfl (Zm (v := Vi (a)) rfl rfl (Za rfl rfl (Exec.mul rfl rfl rfl (Za rfl rfl (Exec.add rfl rfl rfl (Za rfl rfl (Zo (v := Vi (IntKind.i64.wrap ((IntKind.i64.wrap (2 * a)) + 1))) rfl rfl (Zb (Ze (W_ret ?_)))))))))))))))))))
 have d := Zu hm
 subst r
 refine ⟨_, ret1 rfl, ?_⟩
 exact ⟨s, (Zv _), hS, rfl⟩
theorem S86 : tySlice Tryz.prog 86 = some (118, 4, 32) := by kernel_rfl
theorem Z118 : tyZero Tryz.prog 118 = some (Value.agg #[Vi (0), Vi (0), Vi (0), Value.bool false]) := by kernel_rfl
theorem F88_3 : tyField Tryz.prog 88 3 = some 6 := by kernel_rfl
theorem schedule_end_sim {w0 w : World} {s : PHeap} {H : List Res} {a : Int}  {r : Int} (hm : schedule_end_p a = some r) (hS : St w0 s (H) w)  :
  Calls Tryz.prog 33 #[Vi (a)] w fun e w' => ∃ v, e = .returned v ∧ ((fun (c : Int) => ∃ (b : PHeap) , PHeap.le s b ∧ St w0 b (H) w' ∧ v = Vi (c)) r) := by
 unfold schedule_end_p at hm
 refine calls_of_W Tryz.func33 rfl rfl (Zc (Zd (Za rfl rfl (Zo (v := Vi (0)) rfl rfl (Zb (Ze (Zc (Zd (Za rfl rfl (Zm (v := Vi (a)) rfl rfl (Za rfl rfl (Exec.mul rfl rfl rfl (Za rfl rfl (Exec.add rfl rfl rfl (Za rfl rfl (Zo (v := Vi (IntKind.i64.wrap ((IntKind.i64.wrap (2 * a)) + 2))) rfl rfl (Zb (Ze (W_ret ?_)))))))))))))))))))
 have d := Zu hm
 subst r
 refine ⟨_, ret1 rfl, ?_⟩
 exact ⟨s, (Zv _), hS, rfl⟩
theorem schedule_read_sim {w0 w : World} {s : PHeap} {H : List Res} {ah : Temporal} {aJ : (List Launch)} {h : Value} {i : Value} {j : Value} {l : Value} {aj : Value} {r : (Option schedule_plan) × (Option Int)} (hm : schedule_read_p ah aJ = some r) (hS : St w0 s (H) w) (a5 : SliceRep (encInt .i64) s h ah.Vars) (a6 : SliceRep (encInt .i64) s i ah.Init) (a7 : SliceRep encFact s j ah.Goal) (ar : SliceRep encJob s l ah.Jobs) (au : SliceRep encLaunch s aj aJ) :
  Calls Tryz.prog 30 #[Value.agg #[h, i, j, l], aj] w fun e w' => ∃ v, e = .returned v ∧ ((un2 fun (aM : (Option schedule_plan)) (aY : (Option Int)) => (∃ p : schedule_plan, aM = some p ∧ ∃ (ab : PHeap) (aR : Value) (aS : Value) (aT : Value) (aU : Value) (a8 : Nat) (aV : Value) (aW : Value) (aX : Value), PHeap.le s ab ∧ St w0 ab (Res.box a8 88 [aR, aS, aT, aU, aV, aW, aX] :: Res.arr encLaunch 56 aV p.launches :: Res.arr encschedule_happening 118 aW p.starts :: Res.arr encschedule_happening 118 aX p.ends :: H) w' ∧ v = Value.tuple #[Value.pointer (some ⟨a8, 0, none⟩), errV 60 (aY)] ∧ SliceRep (encInt .i64) ab aR p.t.Vars ∧ SliceRep (encInt .i64) ab aS p.t.Init ∧ SliceRep encFact ab aT p.t.Goal ∧ SliceRep encJob ab aU p.t.Jobs) ∨ (aM = none ∧ ∃ (aN : PHeap) , PHeap.le s aN ∧ St w0 aN (H) w' ∧ v = Value.tuple #[Value.pointer none, errV 60 (aY)])) r) := by
 unfold schedule_read_p at hm
 refine calls_of_W Tryz.func30 rfl rfl (Zc (Zd (Za rfl rfl (Exec.box (cs := [h, i, j, l]) hS rfl rfl rfl ?_))))
 intro a9 bO aB
 refine Za rfl rfl (Zo (v := Value.pointer none) rfl rfl (Za rfl rfl (Zo (v := errV 60 (none)) rfl rfl (Zb (Ze (Zc (Zc (Zd (Za rfl rfl (Exec.load_box_agg (ds := [h, i, j, l]) (aB) A26 rfl rfl rfl (Za rfl rfl (Zm (v := aj) rfl rfl ?_))))))))))))
 obtain ⟨bx, bm, hm⟩ := Zg hm
 obtain ⟨a1, ad⟩ := bx
 replace hm := un2_eq hm
 refine Za rfl rfl (Tc rfl rfl rfl (Zi rfl (Zi rfl args_nil)) (temporal_Validate_sim bm aB a5 a6 a7 ar au).r ?_)
 rintro _ bP ⟨aO, n, ak, rfl⟩
 refine Za rfl rfl (Zm (v := Value.tuple #[Vi (a1), errV 60 (ad)]) rfl rfl (Za rfl rfl (Exec.extract (v := Vi (a1)) rfl rfl rfl (Za rfl rfl (Exec.extract (v := errV 60 (ad)) rfl rfl rfl (Za rfl rfl (Zo (v := Vi (a1)) rfl rfl (Za rfl rfl (Zo (v := errV 60 (ad)) rfl rfl (Zb (Ze (Zc (Zd (Za rfl rfl (Zm (v := errV 60 (ad)) rfl rfl (Za rfl rfl (Exec.err_neq_nil (T := 60) Tryz.underlying31 rfl rfl rfl (Zb (Ze ?_)))))))))))))))))))
 rcases ite_some hm with ⟨ae, hm⟩ | ⟨ae, hm⟩
 ·refine W_cond_t rfl ae (Zc (Zd (Za rfl rfl (Zm (v := errV 60 (ad)) rfl rfl (Za rfl rfl (Zo (v := Value.pointer none) rfl rfl (Za rfl rfl (Zo (v := errV 60 (ad)) rfl rfl (Zb (Ze (W_ret (at_ret ?_))))))))))))
  have b7 := Zu hm
  subst r
  refine ⟨_, ret2 rfl, ?_⟩
  refine (Or.inr ⟨rfl, ?_⟩); exact ⟨aO, n, (ak).drop, (tup2 rfl rfl)⟩
 refine W_cond_f rfl ae ?_
 replace ae := Zk ae
 refine W_skip (Ze (Zc (Zc (Zd (Za rfl rfl (Zm (v := aj) rfl rfl (Za rfl rfl (Zr S27 rfl rfl (au.mono n) (Za rfl rfl (Exec.gtr rfl rfl rfl (Zb (Ze ?_))))))))))))
 rcases ite_some hm with ⟨af, hm⟩ | ⟨af, hm⟩
 ·refine W_cond_t rfl af (Zc (Zd (Za rfl rfl (Exec.makeInterface C60 rfl rfl (Za rfl rfl (Zo (v := Value.pointer none) rfl rfl (Za rfl rfl (Zo (v := errV 60 (some 5)) rfl rfl (Zb (Ze (W_ret (at_ret ?_))))))))))))
  have b8 := Zu hm
  subst r
  refine ⟨_, ret2 rfl, ?_⟩
  refine (Or.inr ⟨rfl, ?_⟩); exact ⟨aO, n, (ak).drop, (tup2 rfl rfl)⟩
 refine W_cond_f rfl af ?_
 replace af := Zk af
 refine W_skip (Ze (Zc (W_dl (n0 := 5) (.q 0 (.q 1 (.e 2 [0] (.q 3 (.e 4 [] .done))))) hmix (by kernel_rfl) (by kernel_rfl) (DL_q rfl rfl (Exec.load_box_agg (ds := [h, i, j, l]) (ak.drew) A26 rfl rfl rfl ⟨rfl, ?_⟩)))))
 refine DL_q rfl rfl (Zm (v := aj) rfl rfl ⟨rfl, ?_⟩)
 obtain ⟨cf, bn, hm⟩ := Zg hm
 refine DL_e rfl rfl (Tc rfl rfl rfl (Zi rfl args_nil) (slices_Clone_apiLaunch_sim bn ak.drew (au.mono n)).r ?_)
 rintro o bQ ⟨bJ, _, z, av, rfl⟩
 refine ⟨(ag_cons (ag_r rfl rfl (Exec.load_box_agg (ds := [h, i, j, l]) ((av).f1) A26 rfl rfl rfl ⟨rfl, rfl⟩)) ag_nil), ?_⟩
 refine DL_q rfl rfl (Exec.build rfl (parts_cons (c := [h, i, j, l]) (cells_of rfl rfl) (parts_cons (c := [o]) (cells_of rfl (cells_one (av).arr_one)) parts_nil)) (v := Value.agg #[h, i, j, l, o, Value.slice none 0 0, Value.slice none 0 0]) (fun _ => by kernel_rfl) ⟨rfl, ?_⟩)
 refine DL_e rfl rfl (Exec.box (cs := [h, i, j, l, o, Value.slice none 0 0, Value.slice none 0 0]) av rfl rfl rfl ?_)
 intro b bR aC
 refine ⟨ag_nil, ?_⟩
 refine DL_done (Za rfl rfl (Zo (v := Value.pointer (some ⟨b, 0, none⟩)) rfl rfl (Zb (Ze (Zc (Zd (Za rfl rfl (Zm (v := Value.pointer (some ⟨b, 0, none⟩)) rfl rfl (Za rfl rfl (Exec.nilCheck_ptr rfl rfl (Za rfl rfl (Zp F88_1 rfl rfl rfl (Za rfl rfl (Zn (aC) A27 rfl rfl rfl ?_))))))))))))))
 obtain ⟨aF, bo, hm⟩ := Zg hm
 refine Za rfl rfl (Tc rfl rfl rfl (Zi rfl (Zi rfl args_nil)) (sortLaunch_sim bo (aC).f1 ).r ?_)
 rintro _ bS ⟨aP, aa, al, rfl⟩
 refine Zb (Ze (Zc (Zc (Zd (Za rfl rfl (Zm (v := Value.pointer (some ⟨b, 0, none⟩)) rfl rfl (Za rfl rfl (Exec.nilCheck_ptr rfl rfl (Za rfl rfl (Zp F88_1 rfl rfl rfl (Za rfl rfl (Zn ((al).f1) A27 rfl rfl rfl (Za rfl rfl (Exec.len_arr (al) S27 rfl rfl (Za rfl rfl (Zm (v := Vi (0)) rfl rfl (Zb (Ze ?_))))))))))))))))))
 obtain ⟨bz, ba, hm⟩ := Zg hm
 refine W_block (W_forS (fun k' s' f' w' => (un2 fun (a2 : (List schedule_happening)) (a3 : (List schedule_happening)) => ∃ (aQ : PHeap) (ai : Value) (ac : Value), PHeap.le aP aQ ∧ St w0 aQ (Res.box a9 26 [h, i, j, l] :: Res.box b 88 [h, i, j, l, o, ai, ac] :: Res.arr encLaunch 56 o aF :: Res.arr encschedule_happening 118 ai a2 :: Res.arr encschedule_happening 118 ac a3 :: H) w' ∧ f' 2 = Value.pointer (some ⟨a9, 0, none⟩) ∧ f' 8 = Value.pointer (some ⟨b, 0, none⟩) ∧ f' 37 = o ∧ f' 38 = Vi ((aF.length : Int)) ∧ f' 39 = Vi (k' : Int)) s') ba ?_ ?_ ?_)
 ·have bd := al.nilArr encschedule_happening 118
  have be := bd.nilArr encschedule_happening 118
  exact ⟨aP, (Value.slice none 0 0), (Value.slice none 0 0), (Zv _), ((((be).f1).f2).f3).f4, rfl, rfl, rfl, rfl, rfl⟩
 ·intro d b0 bu bB bT bj bb m
  obtain ⟨a2, a3⟩ := b0
  replace m := un2_eq m
  obtain ⟨bK, ai, ac, aG, aw, az, g, aK, aL, aq⟩ := bb
  refine Zc (Zd (Za rfl rfl (Zq rfl aq aL (Zb (Ze (Zc (W_true (Zx (decide_eq_true (by omega))) (W_skip (Ze (Zc (W_block (Zc (Zd (Za rfl rfl (Zm (v := Vi ((d : Int))) rfl aq ?_)))))))))))))))
  obtain ⟨a, ao, m⟩ := Zg m
  obtain ⟨bD, b6, aA⟩ := ((aw).f2).arr_at ao
  refine Za rfl rfl (Exec.index_slice S27 rfl (Eq.trans aK aA) aq (idx_some ao).1 (idx_some ao).2.1 (Za rfl rfl (Exec.load_arr (F := encLaunch) ((aw).f2) aA A56 rfl rfl rfl ao (Sub.refl _) ?_)))
  intro bM bp
  obtain rfl := encLaunch_val.1 bp
  refine Za rfl rfl (Exec.alloc (cs := [Vi (0), Vi (0)]) aw Z56 rfl rfl ?_)
  intro b2 bU bf
  refine Za rfl rfl (Zo (v := Vi ((d : Int))) rfl rfl (Za rfl rfl (Exec.store_box (ds := [Vi (a.At), Vi (a.Job)]) (es := [Vi (a.At), Vi (a.Job)]) bf A56 rfl rfl rfl rfl (Zj rfl (Zj rfl one_nil)) (Nat.le_of_ble_eq_true rfl) rfl ?_)))
  intro bV am
  refine Zb (Ze (Zc (W_dl (n0 := 14) (qs 0 6 (qs 7 4 (.e 6 [0, 1, 2, 3, 4, 7, 8, 9, 10] (.q 11 (.e 12 [0, 1, 2, 3, 4] (.e 13 [0] .done)))))) hmix (by kernel_rfl) (by kernel_rfl) (DL_q rfl rfl (Zm (v := Value.pointer (some ⟨b, 0, none⟩)) rfl g ⟨rfl, ?_⟩)))))
  refine DL_q rfl rfl (Zm (v := Value.pointer (some ⟨b, 0, none⟩)) rfl g ⟨rfl, ?_⟩)
  refine DL_q rfl rfl (Exec.nilCheck_ptr rfl rfl ⟨rfl, ?_⟩)
  refine DL_q rfl rfl (Zp F88_2 rfl rfl rfl ⟨rfl, ?_⟩)
  refine DL_q rfl rfl (Zn ((am.drew).f2) A86 rfl rfl rfl ⟨rfl, ?_⟩)
  refine DL_q rfl rfl (Zm (v := Vi ((d : Int))) rfl rfl ⟨rfl, ?_⟩)
  refine DL_q rfl rfl (Zp F56_0 rfl rfl rfl ⟨rfl, ?_⟩)
  refine DL_q rfl rfl (Zn (am.drew) A3 rfl rfl rfl ⟨rfl, ?_⟩)
  refine DL_q rfl rfl (Zp F56_1 rfl rfl rfl ⟨rfl, ?_⟩)
  refine DL_q rfl rfl (Zn (am.drew) A3 rfl rfl rfl ⟨rfl, ?_⟩)
  refine DL_e rfl rfl (Tc rfl rfl rfl (Zi rfl args_nil) (schedule_start_sim (schedule_start_tot (d : Int)) am.drew ).r ?_)
  rintro _ bW ⟨bL, aH, an, rfl⟩
  refine ⟨(ag_cons (ag_r rfl rfl (Zm (v := Value.pointer (some ⟨b, 0, none⟩)) rfl g ⟨rfl, rfl⟩)) (ag_cons (ag_r rfl rfl (Zm (v := Value.pointer (some ⟨b, 0, none⟩)) rfl g ⟨rfl, rfl⟩)) (ag_cons (ag_r rfl rfl (Exec.nilCheck_ptr rfl rfl ⟨rfl, rfl⟩)) (ag_cons (ag_r rfl rfl (Zp F88_2 rfl rfl rfl ⟨rfl, rfl⟩)) (ag_cons (ag_r rfl rfl (Zn ((an).f2) A86 rfl rfl rfl ⟨rfl, rfl⟩)) (ag_cons (ag_r rfl rfl (Zp F56_0 rfl rfl rfl ⟨rfl, rfl⟩)) (ag_cons (ag_r rfl rfl (Zn (an) A3 rfl rfl rfl ⟨rfl, rfl⟩)) (ag_cons (ag_r rfl rfl (Zp F56_1 rfl rfl rfl ⟨rfl, rfl⟩)) (ag_cons (ag_r rfl rfl (Zn (an) A3 rfl rfl rfl ⟨rfl, rfl⟩)) ag_nil))))))))), ?_⟩
  refine DL_q rfl rfl (Exec.build rfl (parts_cons (c := [Vi ((schedule_start_t (d : Int)))]) (cells_of rfl rfl) (parts_cons (c := [Vi (a.At)]) (cells_of rfl rfl) (parts_cons (c := [Vi (a.Job)]) (cells_of rfl rfl) (parts_cons (c := [Value.bool (false)]) (cells_of rfl rfl) parts_nil)))) (v := Value.agg #[Vi ((schedule_start_t (d : Int))), Vi (a.At), Vi (a.Job), Value.bool (false)]) (fun _ => by kernel_rfl) ⟨rfl, ?_⟩)
  refine DL_e rfl rfl (Exec.buildSlice (Te := 118) (cs := [Vi ((schedule_start_t (d : Int))), Vi (a.At), Vi (a.Job), Value.bool (false)]) an rfl (parts_cons (c := [Vi ((schedule_start_t (d : Int))), Vi (a.At), Vi (a.Job), Value.bool (false)]) (cells_of rfl rfl) parts_nil) (fun _ => by kernel_rfl) ?_)
  intro b3 bX aD
  refine ⟨(ag_cons (ag_r rfl rfl (Zm (v := Value.pointer (some ⟨b, 0, none⟩)) rfl g ⟨rfl, rfl⟩)) (ag_cons (ag_r rfl rfl (Zm (v := Value.pointer (some ⟨b, 0, none⟩)) rfl g ⟨rfl, rfl⟩)) (ag_cons (ag_r rfl rfl (Exec.nilCheck_ptr rfl rfl ⟨rfl, rfl⟩)) (ag_cons (ag_r rfl rfl (Zp F88_2 rfl rfl rfl ⟨rfl, rfl⟩)) (ag_cons (ag_r rfl rfl (Zn ((aD).f3) A86 rfl rfl rfl ⟨rfl, rfl⟩)) ag_nil))))), ?_⟩
  obtain ⟨bE, bq, m⟩ := Zg m
  refine DL_e rfl rfl (Exec.append_box (E := encschedule_happening) (ys := [(⟨(schedule_start_t (d : Int)), a.At, a.Job, false⟩ : schedule_happening)]) (aD).f5 S86 Z118 rfl (by decide) rfl rfl rfl rfl ⟨[Vi ((schedule_start_t (d : Int))), Vi (a.At), Vi (a.Job), Value.bool (false)], [], rfl, ⟨[Vi ((schedule_start_t (d : Int)))], [Vi (a.At), Vi (a.Job), Value.bool (false)], rfl, rfl, ⟨[Vi (a.At)], [Vi (a.Job), Value.bool (false)], rfl, rfl, ⟨[Vi (a.Job)], [Value.bool (false)], rfl, rfl, rfl⟩⟩⟩, rfl⟩ rfl bq ?_)
  intro ap bY ax
  refine ⟨(ag_cons (ag_r rfl rfl (Zm (v := Value.pointer (some ⟨b, 0, none⟩)) rfl g ⟨rfl, rfl⟩)) ag_nil), ?_⟩
  refine DL_done (Za rfl rfl (Exec.nilCheck_ptr rfl rfl (Za rfl rfl (Zp F88_2 rfl rfl rfl (Za rfl rfl (Exec.store_box (ds := [ap]) (es := [h, i, j, l, o, ap, ac]) (ax).f3 A86 rfl rfl rfl (cells_one (((ax).f3).f1).arr_one) (Zj (((ax).f3).f1).arr_one one_nil) (Nat.le_of_ble_eq_true rfl) rfl ?_))))))
  intro bZ bg
  refine Zb (Ze (W_dl (n0 := 22) (qs 0 6 (qs 7 12 (.e 6 [0, 1, 2, 3, 4, 7, 8, 9, 10, 11, 12, 13, 14, 15, 16, 17, 18] (.q 19 (.e 20 [0, 1, 2, 3, 4] (.e 21 [0] .done)))))) hmix (by kernel_rfl) (by kernel_rfl) ?_))
  have x := bg.drew
  refine DL_q rfl rfl (Zm (v := Value.pointer (some ⟨b, 0, none⟩)) rfl g ⟨rfl, ?_⟩)
  refine DL_q rfl rfl (Zm (v := Value.pointer (some ⟨b, 0, none⟩)) rfl g ⟨rfl, ?_⟩)
  refine DL_q rfl rfl (Exec.nilCheck_ptr rfl rfl ⟨rfl, ?_⟩)
  refine DL_q rfl rfl (Zp F88_3 rfl rfl rfl ⟨rfl, ?_⟩)
  refine DL_q rfl rfl (Zn (x) A86 rfl rfl rfl ⟨rfl, ?_⟩)
  refine DL_q rfl rfl (Zm (v := Vi ((d : Int))) rfl rfl ⟨rfl, ?_⟩)
  refine DL_q rfl rfl (Zp F56_0 rfl rfl rfl ⟨rfl, ?_⟩)
  refine DL_q rfl rfl (Zn ((x).f2) A3 rfl rfl rfl ⟨rfl, ?_⟩)
  refine DL_q rfl rfl (Zp F26_3 rfl az rfl ⟨rfl, ?_⟩)
  refine DL_q rfl rfl (Zn ((x).f3) A24 rfl rfl rfl ⟨rfl, ?_⟩)
  refine DL_q rfl rfl (Zp F56_1 rfl rfl rfl ⟨rfl, ?_⟩)
  refine DL_q rfl rfl (Zn ((x).f2) A3 rfl rfl rfl ⟨rfl, ?_⟩)
  obtain ⟨u, br, m⟩ := Zg m
  refine DL_q rfl rfl (Exec.index_repE S24 rfl rfl rfl (ar.mono (Zt (Zt (Zt (Zt n z) aa) aG) aH)) br ?_)
  intro b4 bG a4 aZ
  refine ⟨rfl, ?_⟩
  refine DL_q rfl rfl (Zp F63_1 rfl rfl rfl ⟨rfl, ?_⟩)
  refine DL_q rfl rfl (Zw (E := (encInt .i64)) x A3 rfl rfl rfl (a4.sub (Sub.iso (Sub.snd (Sub.fst (Sub.refl _)) rfl)) rfl) ?_)
  intro bN bs
  obtain rfl := encInt_val.1 bs
  refine ⟨rfl, ?_⟩
  refine DL_q rfl rfl (Exec.add rfl rfl rfl ⟨rfl, ?_⟩)
  refine DL_q rfl rfl (Zp F56_1 rfl rfl rfl ⟨rfl, ?_⟩)
  refine DL_q rfl rfl (Zn ((x).f2) A3 rfl rfl rfl ⟨rfl, ?_⟩)
  refine DL_e rfl rfl (Tc rfl rfl rfl (Zi rfl args_nil) (schedule_end_sim (schedule_end_tot (d : Int)) x ).r ?_)
  rintro _ ca ⟨bv, aI, y, rfl⟩
  refine ⟨(ag_cons (ag_r rfl rfl (Zm (v := Value.pointer (some ⟨b, 0, none⟩)) rfl g ⟨rfl, rfl⟩)) (ag_cons (ag_r rfl rfl (Zm (v := Value.pointer (some ⟨b, 0, none⟩)) rfl g ⟨rfl, rfl⟩)) (ag_cons (ag_r rfl rfl (Exec.nilCheck_ptr rfl rfl ⟨rfl, rfl⟩)) (ag_cons (ag_r rfl rfl (Zp F88_3 rfl rfl rfl ⟨rfl, rfl⟩)) (ag_cons (ag_r rfl rfl (Zn (y) A86 rfl rfl rfl ⟨rfl, rfl⟩)) (ag_cons (ag_r rfl rfl (Zp F56_0 rfl rfl rfl ⟨rfl, rfl⟩)) (ag_cons (ag_r rfl rfl (Zn ((y).f2) A3 rfl rfl rfl ⟨rfl, rfl⟩)) (ag_cons (ag_r rfl rfl (Zp F26_3 rfl az rfl ⟨rfl, rfl⟩)) (ag_cons (ag_r rfl rfl (Zn ((y).f3) A24 rfl rfl rfl ⟨rfl, rfl⟩)) (ag_cons (ag_r rfl rfl (Zp F56_1 rfl rfl rfl ⟨rfl, rfl⟩)) (ag_cons (ag_r rfl rfl (Zn ((y).f2) A3 rfl rfl rfl ⟨rfl, rfl⟩)) (ag_cons (ag_r rfl rfl (Exec.index_run rfl rfl rfl aZ ⟨rfl, rfl⟩)) (ag_cons (ag_r rfl rfl (Zp F63_1 rfl rfl rfl ⟨rfl, rfl⟩)) (ag_cons (ag_r rfl rfl (Zw (E := (encInt .i64)) y A3 rfl rfl rfl ((a4.sub (Sub.iso (Sub.snd (Sub.fst (Sub.refl _)) rfl)) rfl).mono aI) (fun _ q => ⟨rfl, encInt_val.1 q⟩))) (ag_cons (ag_r rfl rfl (Exec.add rfl rfl rfl ⟨rfl, rfl⟩)) (ag_cons (ag_r rfl rfl (Zp F56_1 rfl rfl rfl ⟨rfl, rfl⟩)) (ag_cons (ag_r rfl rfl (Zn ((y).f2) A3 rfl rfl rfl ⟨rfl, rfl⟩)) ag_nil))))))))))))))))), ?_⟩
  refine DL_q rfl rfl (Exec.build rfl (parts_cons (c := [Vi ((schedule_end_t (d : Int)))]) (cells_of rfl rfl) (parts_cons (c := [Vi (IntKind.i64.wrap (a.At + u.Duration))]) (cells_of rfl rfl) (parts_cons (c := [Vi (a.Job)]) (cells_of rfl rfl) (parts_cons (c := [Value.bool (true)]) (cells_of rfl rfl) parts_nil)))) (v := Value.agg #[Vi ((schedule_end_t (d : Int))), Vi (IntKind.i64.wrap (a.At + u.Duration)), Vi (a.Job), Value.bool (true)]) (fun _ => by kernel_rfl) ⟨rfl, ?_⟩)
  refine DL_e rfl rfl (Exec.buildSlice (Te := 118) (cs := [Vi ((schedule_end_t (d : Int))), Vi (IntKind.i64.wrap (a.At + u.Duration)), Vi (a.Job), Value.bool (true)]) y rfl (parts_cons (c := [Vi ((schedule_end_t (d : Int))), Vi (IntKind.i64.wrap (a.At + u.Duration)), Vi (a.Job), Value.bool (true)]) (cells_of rfl rfl) parts_nil) (fun _ => by kernel_rfl) ?_)
  intro b5 cb aE
  refine ⟨(ag_cons (ag_r rfl rfl (Zm (v := Value.pointer (some ⟨b, 0, none⟩)) rfl g ⟨rfl, rfl⟩)) (ag_cons (ag_r rfl rfl (Zm (v := Value.pointer (some ⟨b, 0, none⟩)) rfl g ⟨rfl, rfl⟩)) (ag_cons (ag_r rfl rfl (Exec.nilCheck_ptr rfl rfl ⟨rfl, rfl⟩)) (ag_cons (ag_r rfl rfl (Zp F88_3 rfl rfl rfl ⟨rfl, rfl⟩)) (ag_cons (ag_r rfl rfl (Zn ((aE).f1) A86 rfl rfl rfl ⟨rfl, rfl⟩)) ag_nil))))), ?_⟩
  obtain ⟨bF, bt, m⟩ := Zg m
  refine DL_e rfl rfl (Exec.append_box (E := encschedule_happening) (ys := [(⟨(schedule_end_t (d : Int)), IntKind.i64.wrap (a.At + u.Duration), a.Job, true⟩ : schedule_happening)]) (aE).f6 S86 Z118 rfl (by decide) rfl rfl rfl rfl ⟨[Vi ((schedule_end_t (d : Int))), Vi (IntKind.i64.wrap (a.At + u.Duration)), Vi (a.Job), Value.bool (true)], [], rfl, ⟨[Vi ((schedule_end_t (d : Int)))], [Vi (IntKind.i64.wrap (a.At + u.Duration)), Vi (a.Job), Value.bool (true)], rfl, rfl, ⟨[Vi (IntKind.i64.wrap (a.At + u.Duration))], [Vi (a.Job), Value.bool (true)], rfl, rfl, ⟨[Vi (a.Job)], [Value.bool (true)], rfl, rfl, rfl⟩⟩⟩, rfl⟩ rfl bt ?_)
  intro a0 cc ay
  refine ⟨(ag_cons (ag_r rfl rfl (Zm (v := Value.pointer (some ⟨b, 0, none⟩)) rfl g ⟨rfl, rfl⟩)) ag_nil), ?_⟩
  refine DL_done (Za rfl rfl (Exec.nilCheck_ptr rfl rfl (Za rfl rfl (Zp F88_3 rfl rfl rfl (Za rfl rfl (Exec.store_box (ds := [a0]) (es := [h, i, j, l, o, ap, a0]) (ay).f1 A86 rfl rfl rfl (cells_one (((ay).f1).f1).arr_one) (Zj (((ay).f1).f1).arr_one one_nil) (Nat.le_of_ble_eq_true rfl) rfl ?_))))))
  intro cd bh
  refine Zb (ib_normal (Ze (Zd (Za rfl rfl (Exec.add rfl aq rfl (Za rfl rfl (Zm (v := Vi (IntKind.i64.wrap ((d : Int) + 1))) rfl rfl (Zb (Ze ?_)))))))))
  have b9 := Zu m
  subst bu
  exact ⟨bv, ap, a0, (Zt (Zt aG aH) aI), (((((((bh).f3).drop).f1).f2).f4).f3).f4, az, g, aK, aL, (Eq.trans rfl (wrap_up bj (al).arr_le))⟩
 intro bC ce bc
 obtain ⟨a2, a3⟩ := bz
 replace hm := un2_eq hm
 obtain ⟨bw, ai, ac, ag, bi, bH, bk, bI, bl, b1⟩ := bc
 refine Zc (Zd (Za rfl rfl (Zq rfl b1 bl (Zb (Ze (Zc (W_false (Zx (decide_eq_false (by omega))) (W_exit (at_exit (at_exit (ib_here (Ze (Zc (Zd (Za rfl rfl (Zm (v := Value.pointer (some ⟨b, 0, none⟩)) rfl bk (Za rfl rfl (Zo (v := Value.pointer (some ⟨b, 0, none⟩)) rfl rfl (Za rfl rfl (Zo (v := errV 60 (none)) rfl rfl (Zb (Ze (W_ret ?_)))))))))))))))))))))))
 have bA := Zu hm
 subst r
 refine ⟨_, ret2 rfl, ?_⟩
 refine (Or.inl ⟨_, rfl, ?_⟩); exact ⟨bw, h, i, j, l, b, o, ai, ac, (Zt (Zt (Zt n z) aa) ag), (((((bi).drop).f3).f3).f3).f3, (tup2 rfl rfl), (a5.mono (Zt (Zt (Zt n z) aa) ag)), (a6.mono (Zt (Zt (Zt n z) aa) ag)), (a7.mono (Zt (Zt (Zt n z) aa) ag)), (ar.mono (Zt (Zt (Zt n z) aa) ag))⟩
theorem A118 : tyAgg Tryz.prog 118 = some (true, 4) := by kernel_rfl
theorem S132 : tySlice Tryz.prog 132 = some (131, 8, 64) := by kernel_rfl
theorem A131 : tyAgg Tryz.prog 131 = some (true, 8) := by kernel_rfl
theorem Z131 : tyZero Tryz.prog 131 = some (Value.agg #[Vi (0), Vi (0), Vi (0), Value.bool false, Vi (0), Vi (0), Vi (0), Value.bool false]) := by kernel_rfl
theorem F88_0 : tyField Tryz.prog 88 0 = some 0 := by kernel_rfl
theorem F118_2 : tyField Tryz.prog 118 2 = some 2 := by kernel_rfl
theorem F118_3 : tyField Tryz.prog 118 3 = some 3 := by kernel_rfl
theorem temporal_Interfere_sim {w0 w : World} {s : PHeap} {H : List Res} {j : Temporal} {a : Int} {d : Int} {l : Bool} {m : Bool} {p : Value} {q : Value} {t : Value} {u : Value} {r : Bool × (Option Int)} (hm : temporal_Interfere_p j a d l m = some r) (hS : St w0 s (H) w) (ac : SliceRep (encInt .i64) s p j.Vars) (ad : SliceRep (encInt .i64) s q j.Init) (ae : SliceRep encFact s t j.Goal) (z : SliceRep encJob s u j.Jobs) :
  Calls Tryz.prog 81 #[Value.agg #[p, q, t, u], Vi (a), Vi (d), Value.bool (l), Value.bool (m)] w fun e w' => ∃ v, e = .returned v ∧ ((un2 fun (ay : Bool) (az : (Option Int)) => ∃ (ai : PHeap) , PHeap.le s ai ∧ St w0 ai (H) w' ∧ v = Value.tuple #[Value.bool (ay), errV 60 (az)]) r) := by
 unfold temporal_Interfere_p at hm
 refine calls_of_W Tryz.func81 rfl rfl (Zc (Zd (Za rfl rfl (Exec.box (cs := [p, q, t, u]) hS rfl rfl rfl ?_))))
 intro af a5 ag
 refine Za rfl rfl (Zo (v := Value.bool (false)) rfl rfl (Za rfl rfl (Zo (v := errV 60 (none)) rfl rfl (Zb (Ze (Zc (Zc (Zd (Za rfl rfl (Exec.load_box_agg (ds := [p, q, t, u]) (ag) A26 rfl rfl rfl ?_))))))))))
 obtain ⟨aa, au, hm⟩ := Zg hm
 refine Za rfl rfl (Tc rfl rfl rfl (Zi rfl args_nil) (temporal_Check_sim au ag ac ad ae z).r ?_)
 rintro _ a6 ⟨o, i, k, rfl⟩
 refine Za rfl rfl (Zo (v := errV 60 (aa)) rfl rfl (Zb (Ze (Zc (Zd (Za rfl rfl (Zm (v := errV 60 (aa)) rfl rfl (Za rfl rfl (Exec.err_neq_nil (T := 60) Tryz.underlying31 rfl rfl rfl (Zb (Ze ?_)))))))))))
 rcases ite_some hm with ⟨x, hm⟩ | ⟨x, hm⟩
 ·refine W_cond_t rfl x (Zc (Zd (Za rfl rfl (Zm (v := errV 60 (aa)) rfl rfl (Za rfl rfl (Zo (v := Value.bool (false)) rfl rfl (Za rfl rfl (Zo (v := errV 60 (aa)) rfl rfl (Zb (Ze (W_ret (at_ret ?_))))))))))))
  have a1 := Zu hm
  subst r
  refine ⟨_, ret2 rfl, ?_⟩
  exact ⟨o, i, (k).drop, (tup2 rfl rfl)⟩
 refine W_cond_f rfl x ?_
 replace x := Zk x
 refine W_skip (Ze (Zc (Zc (W_mid (M := fun f' w' => ∃ (aj : PHeap) , PHeap.le o aj ∧ St w0 aj (Res.box af 26 [p, q, t, u] :: H) w' ∧ f' 1 = Vi (a) ∧ f' 2 = Vi (d) ∧ f' 3 = Value.bool (l) ∧ f' 4 = Value.bool (m) ∧ f' 5 = Value.pointer (some ⟨af, 0, none⟩) ∧ f' 37 = Value.bool (((decide (a < 0)) || ((decide ((j.Jobs.length : Int) ≤ a)) || ((decide (d < 0)) || decide ((j.Jobs.length : Int) ≤ d)))))) ?_ ?_))))
 ·refine Zd (Za rfl rfl (Zm (v := Vi (a)) rfl rfl (Za rfl rfl (Zq rfl rfl rfl (Za rfl rfl (Zm (v := Value.bool (decide (a < 0))) rfl rfl ?_))))))
  by_cases b : (decide (a < 0)) = true
  ·refine WL_passes 17 (by rw [b]; rfl) ?_
   refine Zb (Ze ?_)
   exact ⟨o, (Zv _), k, rfl, rfl, rfl, rfl, rfl, (Zx (or_t b)).symm⟩
  replace b := Zk b
  refine WL_run rfl (Zf rfl (Zx b)) rfl (Zm (v := Vi (a)) rfl rfl (WL_run rfl (Zf rfl (Zx b)) rfl (Zp F26_3 rfl rfl rfl (WL_run rfl (Zf rfl (Zx b)) rfl (Zn (k) A24 rfl rfl rfl (WL_run rfl (Zf rfl (Zx b)) rfl (Zr S24 rfl rfl (z.mono i) (WL_run rfl (Zf rfl (Zx b)) rfl (Exec.geq rfl rfl rfl ?_)))))))))
  refine WL_passes 2 (by rw [b]; rfl) ?_
  by_cases h : (decide ((j.Jobs.length : Int) ≤ a)) = true
  ·refine WL_passes 10 (by rw [h]; rfl) ?_
   refine Zb (Ze ?_)
   exact ⟨o, (Zv _), k, rfl, rfl, rfl, rfl, rfl, (Zx (Eq.trans (or_f b) (or_t h))).symm⟩
  replace h := Zk h
  refine WL_run rfl (Zf rfl (Zx h)) rfl (Zm (v := Vi (d)) rfl rfl (WL_run rfl (Zf rfl (Zx h)) rfl (Zq rfl rfl rfl ?_)))
  refine WL_passes 2 (by rw [h]; rfl) ?_
  by_cases g : (decide (d < 0)) = true
  ·refine WL_passes 6 (by rw [g]; rfl) ?_
   refine Zb (Ze ?_)
   exact ⟨o, (Zv _), k, rfl, rfl, rfl, rfl, rfl, (Zx (Eq.trans (or_f b) (Eq.trans (or_f h) (or_t g)))).symm⟩
  replace g := Zk g
  refine WL_run rfl (Zf rfl (Zx g)) rfl (Zm (v := Vi (d)) rfl rfl (WL_run rfl (Zf rfl (Zx g)) rfl (Zp F26_3 rfl rfl rfl (WL_run rfl (Zf rfl (Zx g)) rfl (Zn (k) A24 rfl rfl rfl (WL_run rfl (Zf rfl (Zx g)) rfl (Zr S24 rfl rfl (z.mono i) (WL_run rfl (Zf rfl (Zx g)) rfl (Exec.geq rfl rfl rfl (Za rfl rfl (Exec.pick_f (v := Value.bool (decide ((j.Jobs.length : Int) ≤ d))) rfl (Zx g) rfl (Zb (Ze ?_)))))))))))))
  exact ⟨o, (Zv _), k, rfl, rfl, rfl, rfl, rfl, (Zx (Eq.trans (or_f b) (Eq.trans (or_f h) (or_f g)))).symm⟩
 intro a4 a7 ak
 obtain ⟨aw, n, ab, an, ao, ap, aq, ar, ah⟩ := ak
 refine (Ze ?_)
 rcases ite_some hm with ⟨y, hm⟩ | ⟨y, hm⟩
 ·refine W_cond_t ah y (Zc (Zd (Za rfl rfl (Exec.makeInterface C60 rfl rfl (Za rfl rfl (Zo (v := Value.bool (false)) rfl rfl (Za rfl rfl (Zo (v := errV 60 (some 1)) rfl rfl (Zb (Ze (W_ret (at_ret ?_))))))))))))
  have a2 := Zu hm
  subst r
  refine ⟨_, ret2 rfl, ?_⟩
  exact ⟨aw, (Zt i n), (ab).drop, (tup2 rfl rfl)⟩
 refine W_cond_f ah y ?_
 replace y := Zk y
 refine W_skip (Ze (Zc (Zd (Za rfl rfl (Exec.load_box_agg (ds := [p, q, t, u]) (ab) A26 rfl ar rfl (Za rfl rfl (Zm (v := Vi (a)) rfl an (Za rfl rfl (Zm (v := Value.bool (l)) rfl ap (Za rfl rfl (Exec.build rfl (parts_cons (c := [Vi (a)]) (cells_of rfl rfl) (parts_cons (c := [Value.bool (l)]) (cells_of rfl rfl) parts_nil)) (v := Value.agg #[Vi (a), Value.bool (l)]) (fun _ => by kernel_rfl) (Za rfl rfl (Zm (v := Vi (d)) rfl ao (Za rfl rfl (Zm (v := Value.bool (m)) rfl aq (Za rfl rfl (Exec.build rfl (parts_cons (c := [Vi (d)]) (cells_of rfl rfl) (parts_cons (c := [Value.bool (m)]) (cells_of rfl rfl) parts_nil)) (v := Value.agg #[Vi (d), Value.bool (m)]) (fun _ => by kernel_rfl) ?_)))))))))))))))))
 obtain ⟨a0, av, hm⟩ := Zg hm
 refine Za rfl rfl (Tc rfl rfl rfl (Zi rfl (Zi rfl (Zi rfl args_nil))) (temporal_interfere_sim av ab (ac.mono (Zt i n)) (ad.mono (Zt i n)) (ae.mono (Zt i n)) (z.mono (Zt i n))).r ?_)
 rintro _ a8 ⟨ax, am, al, rfl⟩
 refine Za rfl rfl (Zo (v := Value.bool (a0)) rfl rfl (Za rfl rfl (Zo (v := errV 60 (none)) rfl rfl (Zb (Ze (W_ret ?_))))))
 have a3 := Zu hm
 subst r
 refine ⟨_, ret2 rfl, ?_⟩
 exact ⟨ax, (Zt (Zt i n) am), (al).drop, (tup2 rfl rfl)⟩
theorem F118_1 : tyField Tryz.prog 118 1 = some 1 := by kernel_rfl
theorem F118_0 : tyField Tryz.prog 118 0 = some 0 := by kernel_rfl
theorem Z49 : tyZero Tryz.prog 49 = some (Value.agg #[Vi (0), Vi (0), Vi (0)]) := by kernel_rfl
theorem A49 : tyAgg Tryz.prog 49 = some (true, 3) := by kernel_rfl
theorem schedule_after_sim {w0 w : World} {s : PHeap} {H : List Res} {d : Int} {b : Int} {a : Int}  {r : Bound} (hm : schedule_after_p d b a = some r) (hS : St w0 s (H) w)  :
  Calls Tryz.prog 82 #[Vi (d), Vi (b), Vi (a)] w fun e w' => ∃ v, e = .returned v ∧ ((fun (f : Bound) => ∃ (h : PHeap) , PHeap.le s h ∧ St w0 h (H) w' ∧ v = Value.agg #[Vi (f.A), Vi (f.B), Vi (f.Most)]) r) := by
 unfold schedule_after_p at hm
 refine calls_of_W Tryz.func82 rfl rfl (Zc (Zd (Za rfl rfl (Exec.alloc (cs := [Vi (0), Vi (0), Vi (0)]) hS Z49 rfl rfl ?_))))
 intro j l i
 refine Zb (Ze (Zc (Zd (Za rfl rfl (Zm (v := Vi (d)) rfl rfl (Za rfl rfl (Zm (v := Vi (b)) rfl rfl (Za rfl rfl (Zm (v := Vi (a)) rfl rfl (Za rfl rfl (Exec.neg rfl rfl (Za rfl rfl (Exec.build rfl (parts_cons (c := [Vi (d)]) (cells_of rfl rfl) (parts_cons (c := [Vi (b)]) (cells_of rfl rfl) (parts_cons (c := [Vi (IntKind.i64.wrap (0 - a))]) (cells_of rfl rfl) parts_nil))) (v := Value.agg #[Vi (d), Vi (b), Vi (IntKind.i64.wrap (0 - a))]) (fun _ => by kernel_rfl) (Za rfl rfl (Exec.store_box (ds := [Vi (d), Vi (b), Vi (IntKind.i64.wrap (0 - a))]) (es := [Vi (d), Vi (b), Vi (IntKind.i64.wrap (0 - a))]) i A49 rfl rfl rfl rfl (Zj rfl (Zj rfl (Zj rfl one_nil))) (Nat.le_of_ble_eq_true rfl) rfl ?_)))))))))))))))
 intro m g
 refine Zb (Ze (W_ret ?_))
 have k := Zu hm
 subst r
 refine ⟨_, retG1 rfl ⟨_, _, rfl, cellRes (g) A49⟩, ?_⟩
 exact ⟨s, (Zv _), (g).drop, rfl⟩
theorem S42 : tySlice Tryz.prog 42 = some (49, 3, 24) := by kernel_rfl
theorem schedule_plan_orders_sim {w0 w : World} {s : PHeap} {H : List Res} {j : schedule_plan} {l : Nat} {ab : Value} {ac : Value} {ad : Value} {ae : Value} {o : Value} {p : Value} {u : Value} {r : (List Bound) × (Option Int)} (hm : schedule_plan_orders_p j = some r) (hS : St w0 s (Res.box l 88 [ab, ac, ad, ae, o, p, u] :: Res.arr encLaunch 56 o j.launches :: Res.arr encschedule_happening 118 p j.starts :: Res.arr encschedule_happening 118 u j.ends :: H) w) (bC : SliceRep (encInt .i64) s ab j.t.Vars) (bD : SliceRep (encInt .i64) s ac j.t.Init) (bE : SliceRep encFact s ad j.t.Goal) (bF : SliceRep encJob s ae j.t.Jobs) :
  Calls Tryz.prog 62 #[Value.pointer (some ⟨l, 0, none⟩)] w fun e w' => ∃ v, e = .returned v ∧ ((un2 fun (dE : (List Bound)) (dF : (Option Int)) => ∃ (aT : PHeap) (b9 : Value), PHeap.le s aT ∧ St w0 aT (Res.box l 88 [ab, ac, ad, ae, o, p, u] :: Res.arr encLaunch 56 o j.launches :: Res.arr encschedule_happening 118 p j.starts :: Res.arr encschedule_happening 118 u j.ends :: H) w' ∧ v = Value.tuple #[b9, errV 60 (dF)] ∧ SliceRep encBound aT b9 dE) r) := by
 unfold schedule_plan_orders_p at hm
 refine calls_of_W Tryz.func62 rfl rfl (Zc (Zd (Za rfl rfl (Zo (v := Value.slice none 0 0) rfl rfl (Za rfl rfl (Zo (v := errV 60 (none)) rfl rfl (Zb (Ze (Zc (Zd (Za rfl rfl (Zo (v := Value.slice none 0 0) rfl rfl (Zb (Ze (Zc (Zc (Zd (Za rfl rfl (Zm (v := Value.pointer (some ⟨l, 0, none⟩)) rfl rfl (Za rfl rfl (Exec.nilCheck_ptr rfl rfl (Za rfl rfl (Zp F88_1 rfl rfl rfl (Za rfl rfl (Zn (hS) A27 rfl rfl rfl (Za rfl rfl (Exec.len_arr ((hS).f1) S27 rfl rfl (Za rfl rfl (Zm (v := Vi (0)) rfl rfl (Zb (Ze ?_)))))))))))))))))))))))))))))))
 obtain ⟨aY, bH, cz, ct, co⟩ := ctl_some hm
 refine W_mid (M := fun f' w' => ∃ s', (aY = .next s' ∨ aY = .brk s') ∧ (fun (bu : (List Bound)) => ∃ (b2 : PHeap) (av : Value), PHeap.le s b2 ∧ St w0 b2 (Res.box l 88 [ab, ac, ad, ae, o, p, u] :: Res.arr encLaunch 56 o j.launches :: Res.arr encschedule_happening 118 p j.starts :: Res.arr encschedule_happening 118 u j.ends :: Res.arr encBound 49 av bu :: H) w' ∧ f' 0 = Value.pointer (some ⟨l, 0, none⟩) ∧ f' 4 = av ∧ f' 15 = Vi ((j.launches.length : Int))) s') ?_ ?_
 ·refine W_block (W_forC (fun k' s' f' w' => (fun (aN : (List Bound)) => ∃ (b3 : PHeap) (aw : Value), PHeap.le s b3 ∧ St w0 b3 (Res.box l 88 [ab, ac, ad, ae, o, p, u] :: Res.arr encLaunch 56 o j.launches :: Res.arr encschedule_happening 118 p j.starts :: Res.arr encschedule_happening 118 u j.ends :: Res.arr encBound 49 aw aN :: H) w' ∧ f' 0 = Value.pointer (some ⟨l, 0, none⟩) ∧ f' 4 = aw ∧ f' 15 = Vi ((j.launches.length : Int)) ∧ f' 16 = Vi (k' : Int)) s') bH ?_ ?_ ?_)
  ·have bT := hS.nilArr encBound 49
   exact ⟨s, (Value.slice none 0 0), (Zv _), ((((bT).f4).f4).f4).f4, rfl, rfl, rfl, rfl⟩
  ·intro n aN aZ ee eH cr bK a4 c2
   obtain ⟨aU, aw, aq, bU, cF, cG, bv, aX⟩ := bK
   refine Zc (Zd (Za rfl rfl (Zq rfl aX bv (Zb (Ze (Zc (W_true (Zx (decide_eq_true (by omega))) (W_skip (Ze (Zc (W_block (Zc (Zd (Za rfl rfl (Zm (v := Vi ((n : Int))) rfl aX (Za rfl rfl (Zo (v := Vi ((n : Int))) rfl rfl (Zb (Ze (Zc (Zd (Za rfl rfl (Zm (v := Vi ((n : Int))) rfl rfl (Za rfl rfl (Exec.add rfl rfl rfl (Za rfl rfl (Zo (v := Vi (IntKind.i64.wrap ((n : Int) + 1))) rfl rfl (Zb (Ze ?_)))))))))))))))))))))))))))))
   obtain ⟨ba, bI, c0, cu, cp⟩ := ctl_some a4
   refine W_mid (M := fun f' w' => ∃ s', (ba = .next s' ∨ ba = .brk s') ∧ (un2 fun (bq : Int) (br : (List Bound)) => ∃ (b4 : PHeap) (aD : Value), PHeap.le aU b4 ∧ St w0 b4 (Res.box l 88 [ab, ac, ad, ae, o, p, u] :: Res.arr encLaunch 56 o j.launches :: Res.arr encschedule_happening 118 p j.starts :: Res.arr encschedule_happening 118 u j.ends :: Res.arr encBound 49 aD br :: H) w' ∧ f' 0 = Value.pointer (some ⟨l, 0, none⟩) ∧ f' 4 = aD ∧ f' 5 = Vi ((n : Int)) ∧ f' 6 = Vi (bq) ∧ f' 15 = Vi ((j.launches.length : Int)) ∧ f' 16 = Vi ((n : Int))) s') ?_ ?_
   ·refine W_block (W_while (fun s' f' w' => (un2 fun (z : Int) (bs : (List Bound)) => ∃ (b5 : PHeap) (a6 : Value), PHeap.le aU b5 ∧ St w0 b5 (Res.box l 88 [ab, ac, ad, ae, o, p, u] :: Res.arr encLaunch 56 o j.launches :: Res.arr encschedule_happening 118 p j.starts :: Res.arr encschedule_happening 118 u j.ends :: Res.arr encBound 49 a6 bs :: H) w' ∧ f' 0 = Value.pointer (some ⟨l, 0, none⟩) ∧ f' 4 = a6 ∧ f' 5 = Vi ((n : Int)) ∧ f' 6 = Vi (z) ∧ f' 15 = Vi ((j.launches.length : Int)) ∧ f' 16 = Vi ((n : Int))) s') bI ?_ ?_)
    ·have bV := (bU).f4
     exact ⟨aU, aw, (Zv _), ((((bV).f4).f4).f4).f4, cF, cG, rfl, rfl, bv, aX⟩
    intro d9 aI ef eI bL x bp
    obtain ⟨z, bs⟩ := d9
    replace x := un2_eq x
    obtain ⟨d0, a6, an, a8, aa, bw, au, ao, bx, bz⟩ := bL
    refine Zc (Zc (Zd (Za rfl rfl (Zm (v := Vi (z)) rfl ao (Za rfl rfl (Zm (v := Value.pointer (some ⟨l, 0, none⟩)) rfl aa (Za rfl rfl (Exec.nilCheck_ptr rfl rfl (Za rfl rfl (Zp F88_1 rfl rfl rfl (Za rfl rfl (Zn (a8) A27 rfl rfl rfl (Za rfl rfl (Exec.len_arr ((a8).f1) S27 rfl rfl (Za rfl rfl (Zq rfl rfl rfl (Zb (Ze ?_))))))))))))))))))
    rcases ite_some x with ⟨ay, x⟩ | ⟨ay, x⟩
    ·refine W_cond_t rfl ay (W_skip (Ze (Zc (W_block (Zc (W_dl (n0 := 63) (qs 0 60 (.q 62 (.e 60 [62] (.q 61 .done)))) hmix (by kernel_rfl) (by kernel_rfl) ?_))))))
     have m := a8.drew
     refine DL_q rfl rfl (Zm (v := Value.pointer (some ⟨l, 0, none⟩)) rfl aa ⟨rfl, ?_⟩)
     refine DL_q rfl rfl (Exec.nilCheck_ptr rfl rfl ⟨rfl, ?_⟩)
     refine DL_q rfl rfl (Zp F88_2 rfl rfl rfl ⟨rfl, ?_⟩)
     refine DL_q rfl rfl (Zn (m) A86 rfl rfl rfl ⟨rfl, ?_⟩)
     refine DL_q rfl rfl (Zm (v := Vi ((n : Int))) rfl au ⟨rfl, ?_⟩)
     obtain ⟨i, ai, x⟩ := Zg x
     obtain ⟨en, dK, bc⟩ := ((m).f2).arr_at ai
     refine DL_q rfl rfl (Exec.index_slice S86 rfl bc rfl (idx_some ai).1 (idx_some ai).2.1 ⟨rfl, ?_⟩)
     refine DL_q rfl rfl (Exec.load_arr (F := encschedule_happening) ((m).f2) bc A118 rfl rfl rfl ai (Sub.refl _) ?_)
     intro e8 dk
     obtain rfl := encschedule_happening_val.1 dk
     refine ⟨rfl, ?_⟩
     refine DL_q rfl rfl (Zm (v := Value.pointer (some ⟨l, 0, none⟩)) rfl aa ⟨rfl, ?_⟩)
     refine DL_q rfl rfl (Exec.nilCheck_ptr rfl rfl ⟨rfl, ?_⟩)
     refine DL_q rfl rfl (Zp F88_2 rfl rfl rfl ⟨rfl, ?_⟩)
     refine DL_q rfl rfl (Zn (m) A86 rfl rfl rfl ⟨rfl, ?_⟩)
     refine DL_q rfl rfl (Zm (v := Vi (z)) rfl ao ⟨rfl, ?_⟩)
     obtain ⟨d, aj, x⟩ := Zg x
     obtain ⟨eo, dL, bd⟩ := ((m).f2).arr_at aj
     refine DL_q rfl rfl (Exec.index_slice S86 rfl bd rfl (idx_some aj).1 (idx_some aj).2.1 ⟨rfl, ?_⟩)
     refine DL_q rfl rfl (Exec.load_arr (F := encschedule_happening) ((m).f2) bd A118 rfl rfl rfl aj (Sub.refl _) ?_)
     intro e9 dl
     obtain rfl := encschedule_happening_val.1 dl
     refine ⟨rfl, ?_⟩
     refine DL_q rfl rfl (Exec.build rfl (parts_cons (c := [Vi (i.point), Vi (i.at_), Vi (i.job), Value.bool (i.end_)]) (cells_of rfl rfl) (parts_cons (c := [Vi (d.point), Vi (d.at_), Vi (d.job), Value.bool (d.end_)]) (cells_of rfl rfl) parts_nil)) (v := Value.agg #[Vi (i.point), Vi (i.at_), Vi (i.job), Value.bool (i.end_), Vi (d.point), Vi (d.at_), Vi (d.job), Value.bool (d.end_)]) (fun _ => by kernel_rfl) ⟨rfl, ?_⟩)
     refine DL_q rfl rfl (Zm (v := Value.pointer (some ⟨l, 0, none⟩)) rfl aa ⟨rfl, ?_⟩)
     refine DL_q rfl rfl (Exec.nilCheck_ptr rfl rfl ⟨rfl, ?_⟩)
     refine DL_q rfl rfl (Zp F88_2 rfl rfl rfl ⟨rfl, ?_⟩)
     refine DL_q rfl rfl (Zn (m) A86 rfl rfl rfl ⟨rfl, ?_⟩)
     refine DL_q rfl rfl (Zm (v := Vi ((n : Int))) rfl au ⟨rfl, ?_⟩)
     obtain ⟨ep, dM, be⟩ := ((m).f2).arr_at ai
     refine DL_q rfl rfl (Exec.index_slice S86 rfl be rfl (idx_some ai).1 (idx_some ai).2.1 ⟨rfl, ?_⟩)
     refine DL_q rfl rfl (Exec.load_arr (F := encschedule_happening) ((m).f2) be A118 rfl rfl rfl ai (Sub.refl _) ?_)
     intro eA dm
     obtain rfl := encschedule_happening_val.1 dm
     refine ⟨rfl, ?_⟩
     refine DL_q rfl rfl (Zm (v := Value.pointer (some ⟨l, 0, none⟩)) rfl aa ⟨rfl, ?_⟩)
     refine DL_q rfl rfl (Exec.nilCheck_ptr rfl rfl ⟨rfl, ?_⟩)
     refine DL_q rfl rfl (Zp F88_3 rfl rfl rfl ⟨rfl, ?_⟩)
     refine DL_q rfl rfl (Zn (m) A86 rfl rfl rfl ⟨rfl, ?_⟩)
     refine DL_q rfl rfl (Zm (v := Vi (z)) rfl ao ⟨rfl, ?_⟩)
     obtain ⟨b, ak, x⟩ := Zg x
     obtain ⟨er, dN, bf⟩ := ((m).f3).arr_at ak
     refine DL_q rfl rfl (Exec.index_slice S86 rfl bf rfl (idx_some ak).1 (idx_some ak).2.1 ⟨rfl, ?_⟩)
     refine DL_q rfl rfl (Exec.load_arr (F := encschedule_happening) ((m).f3) bf A118 rfl rfl rfl ak (Sub.refl _) ?_)
     intro eB dn
     obtain rfl := encschedule_happening_val.1 dn
     refine ⟨rfl, ?_⟩
     refine DL_q rfl rfl (Exec.build rfl (parts_cons (c := [Vi (i.point), Vi (i.at_), Vi (i.job), Value.bool (i.end_)]) (cells_of rfl rfl) (parts_cons (c := [Vi (b.point), Vi (b.at_), Vi (b.job), Value.bool (b.end_)]) (cells_of rfl rfl) parts_nil)) (v := Value.agg #[Vi (i.point), Vi (i.at_), Vi (i.job), Value.bool (i.end_), Vi (b.point), Vi (b.at_), Vi (b.job), Value.bool (b.end_)]) (fun _ => by kernel_rfl) ⟨rfl, ?_⟩)
     refine DL_q rfl rfl (Zm (v := Value.pointer (some ⟨l, 0, none⟩)) rfl aa ⟨rfl, ?_⟩)
     refine DL_q rfl rfl (Exec.nilCheck_ptr rfl rfl ⟨rfl, ?_⟩)
     refine DL_q rfl rfl (Zp F88_3 rfl rfl rfl ⟨rfl, ?_⟩)
     refine DL_q rfl rfl (Zn (m) A86 rfl rfl rfl ⟨rfl, ?_⟩)
     refine DL_q rfl rfl (Zm (v := Vi ((n : Int))) rfl au ⟨rfl, ?_⟩)
     obtain ⟨a, al, x⟩ := Zg x
     obtain ⟨et, dO, bg⟩ := ((m).f3).arr_at al
     refine DL_q rfl rfl (Exec.index_slice S86 rfl bg rfl (idx_some al).1 (idx_some al).2.1 ⟨rfl, ?_⟩)
     refine DL_q rfl rfl (Exec.load_arr (F := encschedule_happening) ((m).f3) bg A118 rfl rfl rfl al (Sub.refl _) ?_)
     intro eC dp
     obtain rfl := encschedule_happening_val.1 dp
     refine ⟨rfl, ?_⟩
     refine DL_q rfl rfl (Zm (v := Value.pointer (some ⟨l, 0, none⟩)) rfl aa ⟨rfl, ?_⟩)
     refine DL_q rfl rfl (Exec.nilCheck_ptr rfl rfl ⟨rfl, ?_⟩)
     refine DL_q rfl rfl (Zp F88_2 rfl rfl rfl ⟨rfl, ?_⟩)
     refine DL_q rfl rfl (Zn (m) A86 rfl rfl rfl ⟨rfl, ?_⟩)
     refine DL_q rfl rfl (Zm (v := Vi (z)) rfl ao ⟨rfl, ?_⟩)
     obtain ⟨eu, dP, bh⟩ := ((m).f2).arr_at aj
     refine DL_q rfl rfl (Exec.index_slice S86 rfl bh rfl (idx_some aj).1 (idx_some aj).2.1 ⟨rfl, ?_⟩)
     refine DL_q rfl rfl (Exec.load_arr (F := encschedule_happening) ((m).f2) bh A118 rfl rfl rfl aj (Sub.refl _) ?_)
     intro eD dq
     obtain rfl := encschedule_happening_val.1 dq
     refine ⟨rfl, ?_⟩
     refine DL_q rfl rfl (Exec.build rfl (parts_cons (c := [Vi (a.point), Vi (a.at_), Vi (a.job), Value.bool (a.end_)]) (cells_of rfl rfl) (parts_cons (c := [Vi (d.point), Vi (d.at_), Vi (d.job), Value.bool (d.end_)]) (cells_of rfl rfl) parts_nil)) (v := Value.agg #[Vi (a.point), Vi (a.at_), Vi (a.job), Value.bool (a.end_), Vi (d.point), Vi (d.at_), Vi (d.job), Value.bool (d.end_)]) (fun _ => by kernel_rfl) ⟨rfl, ?_⟩)
     refine DL_q rfl rfl (Zm (v := Value.pointer (some ⟨l, 0, none⟩)) rfl aa ⟨rfl, ?_⟩)
     refine DL_q rfl rfl (Exec.nilCheck_ptr rfl rfl ⟨rfl, ?_⟩)
     refine DL_q rfl rfl (Zp F88_3 rfl rfl rfl ⟨rfl, ?_⟩)
     refine DL_q rfl rfl (Zn (m) A86 rfl rfl rfl ⟨rfl, ?_⟩)
     refine DL_q rfl rfl (Zm (v := Vi ((n : Int))) rfl au ⟨rfl, ?_⟩)
     obtain ⟨ev, dQ, bi⟩ := ((m).f3).arr_at al
     refine DL_q rfl rfl (Exec.index_slice S86 rfl bi rfl (idx_some al).1 (idx_some al).2.1 ⟨rfl, ?_⟩)
     refine DL_q rfl rfl (Exec.load_arr (F := encschedule_happening) ((m).f3) bi A118 rfl rfl rfl al (Sub.refl _) ?_)
     intro eE dr
     obtain rfl := encschedule_happening_val.1 dr
     refine ⟨rfl, ?_⟩
     refine DL_q rfl rfl (Zm (v := Value.pointer (some ⟨l, 0, none⟩)) rfl aa ⟨rfl, ?_⟩)
     refine DL_q rfl rfl (Exec.nilCheck_ptr rfl rfl ⟨rfl, ?_⟩)
     refine DL_q rfl rfl (Zp F88_3 rfl rfl rfl ⟨rfl, ?_⟩)
     refine DL_q rfl rfl (Zn (m) A86 rfl rfl rfl ⟨rfl, ?_⟩)
     refine DL_q rfl rfl (Zm (v := Vi (z)) rfl ao ⟨rfl, ?_⟩)
     obtain ⟨ew, dR, bj⟩ := ((m).f3).arr_at ak
     refine DL_q rfl rfl (Exec.index_slice S86 rfl bj rfl (idx_some ak).1 (idx_some ak).2.1 ⟨rfl, ?_⟩)
     refine DL_q rfl rfl (Exec.load_arr (F := encschedule_happening) ((m).f3) bj A118 rfl rfl rfl ak (Sub.refl _) ?_)
     intro eF dt
     obtain rfl := encschedule_happening_val.1 dt
     refine ⟨rfl, ?_⟩
     refine DL_q rfl rfl (Exec.build rfl (parts_cons (c := [Vi (a.point), Vi (a.at_), Vi (a.job), Value.bool (a.end_)]) (cells_of rfl rfl) (parts_cons (c := [Vi (b.point), Vi (b.at_), Vi (b.job), Value.bool (b.end_)]) (cells_of rfl rfl) parts_nil)) (v := Value.agg #[Vi (a.point), Vi (a.at_), Vi (a.job), Value.bool (a.end_), Vi (b.point), Vi (b.at_), Vi (b.job), Value.bool (b.end_)]) (fun _ => by kernel_rfl) ⟨rfl, ?_⟩)
     refine DL_q rfl rfl (Zm (v := Vi (0)) rfl rfl ⟨rfl, ?_⟩)
     refine DL_e rfl rfl (Exec.buildSlice (Te := 131) (cs := [Vi (i.point), Vi (i.at_), Vi (i.job), Value.bool (i.end_), Vi (d.point), Vi (d.at_), Vi (d.job), Value.bool (d.end_), Vi (i.point), Vi (i.at_), Vi (i.job), Value.bool (i.end_), Vi (b.point), Vi (b.at_), Vi (b.job), Value.bool (b.end_), Vi (a.point), Vi (a.at_), Vi (a.job), Value.bool (a.end_), Vi (d.point), Vi (d.at_), Vi (d.job), Value.bool (d.end_), Vi (a.point), Vi (a.at_), Vi (a.job), Value.bool (a.end_), Vi (b.point), Vi (b.at_), Vi (b.job), Value.bool (b.end_)]) m rfl (parts_cons (c := [Vi (i.point), Vi (i.at_), Vi (i.job), Value.bool (i.end_), Vi (d.point), Vi (d.at_), Vi (d.job), Value.bool (d.end_)]) (cells_of rfl rfl) (parts_cons (c := [Vi (i.point), Vi (i.at_), Vi (i.job), Value.bool (i.end_), Vi (b.point), Vi (b.at_), Vi (b.job), Value.bool (b.end_)]) (cells_of rfl rfl) (parts_cons (c := [Vi (a.point), Vi (a.at_), Vi (a.job), Value.bool (a.end_), Vi (d.point), Vi (d.at_), Vi (d.job), Value.bool (d.end_)]) (cells_of rfl rfl) (parts_cons (c := [Vi (a.point), Vi (a.at_), Vi (a.job), Value.bool (a.end_), Vi (b.point), Vi (b.at_), Vi (b.job), Value.bool (b.end_)]) (cells_of rfl rfl) parts_nil)))) (fun _ => by kernel_rfl) ?_)
     intro aH eJ bW
     refine ⟨(ag_cons (ag_r rfl rfl (Zm (v := Vi (0)) rfl rfl ⟨rfl, rfl⟩)) ag_nil), ?_⟩
     have bX := St.boxArr (E := encArr2_schedulehappening) (xs := [(⟨i, d⟩ : Arr2_schedulehappening), (⟨i, b⟩ : Arr2_schedulehappening), (⟨a, d⟩ : Arr2_schedulehappening), (⟨a, b⟩ : Arr2_schedulehappening)]) bW ⟨[Vi (i.point), Vi (i.at_), Vi (i.job), Value.bool (i.end_), Vi (d.point), Vi (d.at_), Vi (d.job), Value.bool (d.end_)], [Vi (i.point), Vi (i.at_), Vi (i.job), Value.bool (i.end_), Vi (b.point), Vi (b.at_), Vi (b.job), Value.bool (b.end_), Vi (a.point), Vi (a.at_), Vi (a.job), Value.bool (a.end_), Vi (d.point), Vi (d.at_), Vi (d.job), Value.bool (d.end_), Vi (a.point), Vi (a.at_), Vi (a.job), Value.bool (a.end_), Vi (b.point), Vi (b.at_), Vi (b.job), Value.bool (b.end_)], rfl, ⟨[Vi (i.point), Vi (i.at_), Vi (i.job), Value.bool (i.end_)], [Vi (d.point), Vi (d.at_), Vi (d.job), Value.bool (d.end_)], rfl, ⟨[Vi (i.point)], [Vi (i.at_), Vi (i.job), Value.bool (i.end_)], rfl, rfl, ⟨[Vi (i.at_)], [Vi (i.job), Value.bool (i.end_)], rfl, rfl, ⟨[Vi (i.job)], [Value.bool (i.end_)], rfl, rfl, rfl⟩⟩⟩, ⟨[Vi (d.point)], [Vi (d.at_), Vi (d.job), Value.bool (d.end_)], rfl, rfl, ⟨[Vi (d.at_)], [Vi (d.job), Value.bool (d.end_)], rfl, rfl, ⟨[Vi (d.job)], [Value.bool (d.end_)], rfl, rfl, rfl⟩⟩⟩⟩, ⟨[Vi (i.point), Vi (i.at_), Vi (i.job), Value.bool (i.end_), Vi (b.point), Vi (b.at_), Vi (b.job), Value.bool (b.end_)], [Vi (a.point), Vi (a.at_), Vi (a.job), Value.bool (a.end_), Vi (d.point), Vi (d.at_), Vi (d.job), Value.bool (d.end_), Vi (a.point), Vi (a.at_), Vi (a.job), Value.bool (a.end_), Vi (b.point), Vi (b.at_), Vi (b.job), Value.bool (b.end_)], rfl, ⟨[Vi (i.point), Vi (i.at_), Vi (i.job), Value.bool (i.end_)], [Vi (b.point), Vi (b.at_), Vi (b.job), Value.bool (b.end_)], rfl, ⟨[Vi (i.point)], [Vi (i.at_), Vi (i.job), Value.bool (i.end_)], rfl, rfl, ⟨[Vi (i.at_)], [Vi (i.job), Value.bool (i.end_)], rfl, rfl, ⟨[Vi (i.job)], [Value.bool (i.end_)], rfl, rfl, rfl⟩⟩⟩, ⟨[Vi (b.point)], [Vi (b.at_), Vi (b.job), Value.bool (b.end_)], rfl, rfl, ⟨[Vi (b.at_)], [Vi (b.job), Value.bool (b.end_)], rfl, rfl, ⟨[Vi (b.job)], [Value.bool (b.end_)], rfl, rfl, rfl⟩⟩⟩⟩, ⟨[Vi (a.point), Vi (a.at_), Vi (a.job), Value.bool (a.end_), Vi (d.point), Vi (d.at_), Vi (d.job), Value.bool (d.end_)], [Vi (a.point), Vi (a.at_), Vi (a.job), Value.bool (a.end_), Vi (b.point), Vi (b.at_), Vi (b.job), Value.bool (b.end_)], rfl, ⟨[Vi (a.point), Vi (a.at_), Vi (a.job), Value.bool (a.end_)], [Vi (d.point), Vi (d.at_), Vi (d.job), Value.bool (d.end_)], rfl, ⟨[Vi (a.point)], [Vi (a.at_), Vi (a.job), Value.bool (a.end_)], rfl, rfl, ⟨[Vi (a.at_)], [Vi (a.job), Value.bool (a.end_)], rfl, rfl, ⟨[Vi (a.job)], [Value.bool (a.end_)], rfl, rfl, rfl⟩⟩⟩, ⟨[Vi (d.point)], [Vi (d.at_), Vi (d.job), Value.bool (d.end_)], rfl, rfl, ⟨[Vi (d.at_)], [Vi (d.job), Value.bool (d.end_)], rfl, rfl, ⟨[Vi (d.job)], [Value.bool (d.end_)], rfl, rfl, rfl⟩⟩⟩⟩, ⟨[Vi (a.point), Vi (a.at_), Vi (a.job), Value.bool (a.end_), Vi (b.point), Vi (b.at_), Vi (b.job), Value.bool (b.end_)], [], rfl, ⟨[Vi (a.point), Vi (a.at_), Vi (a.job), Value.bool (a.end_)], [Vi (b.point), Vi (b.at_), Vi (b.job), Value.bool (b.end_)], rfl, ⟨[Vi (a.point)], [Vi (a.at_), Vi (a.job), Value.bool (a.end_)], rfl, rfl, ⟨[Vi (a.at_)], [Vi (a.job), Value.bool (a.end_)], rfl, rfl, ⟨[Vi (a.job)], [Value.bool (a.end_)], rfl, rfl, rfl⟩⟩⟩, ⟨[Vi (b.point)], [Vi (b.at_), Vi (b.job), Value.bool (b.end_)], rfl, rfl, ⟨[Vi (b.at_)], [Vi (b.job), Value.bool (b.end_)], rfl, rfl, ⟨[Vi (b.job)], [Value.bool (b.end_)], rfl, rfl, rfl⟩⟩⟩⟩, rfl⟩⟩⟩⟩ (by simp [maxLen])
     obtain ⟨aV, ar, bY, aC⟩ := bX.freezeArr
     refine DL_q rfl rfl (Zr S132 rfl rfl aC ⟨rfl, ?_⟩)
     refine DL_done (Zb (Ze ?_))
     obtain ⟨bb, bJ, c1, cv, cq⟩ := ctl_some x
     refine W_mid (M := fun f' w' => ∃ s', (bb = .next s' ∨ bb = .brk s') ∧ (fun (bt : (List Bound)) => ∃ (b6 : PHeap) (aE : Value), PHeap.le aV b6 ∧ St w0 b6 (Res.box l 88 [ab, ac, ad, ae, o, p, u] :: Res.arr encLaunch 56 o j.launches :: Res.arr encschedule_happening 118 p j.starts :: Res.arr encschedule_happening 118 u j.ends :: Res.arr encBound 49 aE bt :: H) w' ∧ f' 0 = Value.pointer (some ⟨l, 0, none⟩) ∧ f' 4 = aE ∧ f' 5 = Vi ((n : Int)) ∧ f' 6 = Vi (z) ∧ f' 15 = Vi ((j.launches.length : Int)) ∧ f' 16 = Vi ((n : Int)) ∧ f' 90 = Value.slice (some ⟨aH, 0, none⟩) 4 4 ∧ f' 91 = Vi (([(⟨i, d⟩ : Arr2_schedulehappening), (⟨i, b⟩ : Arr2_schedulehappening), (⟨a, d⟩ : Arr2_schedulehappening), (⟨a, b⟩ : Arr2_schedulehappening)].length : Int))) s') ?_ ?_
     ·refine W_block (W_forC (fun k' s' f' w' => (fun (aL : (List Bound)) => ∃ (b7 : PHeap) (am : Value), PHeap.le aV b7 ∧ St w0 b7 (Res.box l 88 [ab, ac, ad, ae, o, p, u] :: Res.arr encLaunch 56 o j.launches :: Res.arr encschedule_happening 118 p j.starts :: Res.arr encschedule_happening 118 u j.ends :: Res.arr encBound 49 am aL :: H) w' ∧ f' 0 = Value.pointer (some ⟨l, 0, none⟩) ∧ f' 4 = am ∧ f' 5 = Vi ((n : Int)) ∧ f' 6 = Vi (z) ∧ f' 15 = Vi ((j.launches.length : Int)) ∧ f' 16 = Vi ((n : Int)) ∧ f' 90 = Value.slice (some ⟨aH, 0, none⟩) 4 4 ∧ f' 91 = Vi (([(⟨i, d⟩ : Arr2_schedulehappening), (⟨i, b⟩ : Arr2_schedulehappening), (⟨a, d⟩ : Arr2_schedulehappening), (⟨a, b⟩ : Arr2_schedulehappening)].length : Int)) ∧ f' 92 = Vi (k' : Int)) s') bJ ?_ ?_ ?_)
      ·have bZ := (bY).f4
       exact ⟨aV, a6, (Zv _), ((((bZ).f4).f4).f4).f4, aa, bw, au, ao, bx, bz, rfl, rfl, rfl⟩
      ·intro aK aL aJ eg eK bo bM y c3
       obtain ⟨e6, am, ah, bk, a9, aO, aP, aQ, aR, aS, aA, aB, a7⟩ := bM
       refine Zc (Zd (Za rfl rfl (Zq rfl a7 aB (Zb (Ze (Zc (W_true (Zx (decide_eq_true (by omega))) (W_skip (Ze (Zc (W_block (Zc (Zd ?_)))))))))))))
       obtain ⟨g, du, y⟩ := Zg y
       refine Za rfl rfl (Exec.index_rep S132 rfl aA a7 (aC.mono ah) du ?_)
       intro dG ez bG
       refine Za rfl rfl (Zw (E := encArr2_schedulehappening) bk A131 rfl rfl rfl bG ?_)
       intro eG dv
       obtain rfl := encArr2_schedulehappening_val.1 dv
       refine Za rfl rfl (Exec.alloc (cs := [Vi (0), Vi (0), Vi (0), Value.bool (false), Vi (0), Vi (0), Vi (0), Value.bool (false)]) bk Z131 rfl rfl ?_)
       intro dH eL ca
       refine Za rfl rfl (Exec.store_box (ds := [Vi (g.a0.point), Vi (g.a0.at_), Vi (g.a0.job), Value.bool (g.a0.end_), Vi (g.a1.point), Vi (g.a1.at_), Vi (g.a1.job), Value.bool (g.a1.end_)]) (es := [Vi (g.a0.point), Vi (g.a0.at_), Vi (g.a0.job), Value.bool (g.a0.end_), Vi (g.a1.point), Vi (g.a1.at_), Vi (g.a1.job), Value.bool (g.a1.end_)]) ca A131 rfl rfl rfl rfl (Zj rfl (Zj rfl (Zj rfl (Zj rfl (Zj rfl (Zj rfl (Zj rfl (Zj rfl one_nil)))))))) (Nat.le_of_ble_eq_true rfl) rfl ?_)
       intro eM ap
       refine Zb (Ze (Zc (W_dl (n0 := 21) (qs 0 16 (.e 16 [] (qs 17 4 .done))) hmix (by kernel_rfl) (by kernel_rfl) (DL_q rfl rfl (Zm (v := Value.pointer (some ⟨l, 0, none⟩)) rfl a9 ⟨rfl, ?_⟩)))))
       refine DL_q rfl rfl (Exec.nilCheck_ptr rfl rfl ⟨rfl, ?_⟩)
       refine DL_q rfl rfl (Zp F88_0 rfl rfl rfl ⟨rfl, ?_⟩)
       refine DL_q rfl rfl (Exec.load_box_agg (ds := [ab, ac, ad, ae]) ((ap.drew).f1) A26 rfl rfl rfl ⟨rfl, ?_⟩)
       refine DL_q rfl rfl (Exec.index_parr Tryz.underlying131 A118 rfl rfl rfl (by decide) rfl ⟨rfl, ?_⟩)
       refine DL_q rfl rfl (Zp F118_2 rfl rfl rfl ⟨rfl, ?_⟩)
       refine DL_q rfl rfl (Zn (ap.drew) A3 rfl rfl rfl ⟨rfl, ?_⟩)
       refine DL_q rfl rfl (Exec.index_parr Tryz.underlying131 A118 rfl rfl rfl (by decide) rfl ⟨rfl, ?_⟩)
       refine DL_q rfl rfl (Zp F118_2 rfl rfl rfl ⟨rfl, ?_⟩)
       refine DL_q rfl rfl (Zn (ap.drew) A3 rfl rfl rfl ⟨rfl, ?_⟩)
       refine DL_q rfl rfl (Exec.index_parr Tryz.underlying131 A118 rfl rfl rfl (by decide) rfl ⟨rfl, ?_⟩)
       refine DL_q rfl rfl (Zp F118_3 rfl rfl rfl ⟨rfl, ?_⟩)
       refine DL_q rfl rfl (Zn (ap.drew) A4 rfl rfl rfl ⟨rfl, ?_⟩)
       refine DL_q rfl rfl (Exec.index_parr Tryz.underlying131 A118 rfl rfl rfl (by decide) rfl ⟨rfl, ?_⟩)
       refine DL_q rfl rfl (Zp F118_3 rfl rfl rfl ⟨rfl, ?_⟩)
       refine DL_q rfl rfl (Zn (ap.drew) A4 rfl rfl rfl ⟨rfl, ?_⟩)
       obtain ⟨dA, dw, y⟩ := Zg y
       obtain ⟨aG, ax⟩ := dA
       replace y := un2_eq y
       refine DL_e rfl rfl (Tc rfl rfl rfl (Zi rfl (Zi rfl (Zi rfl (Zi rfl (Zi rfl args_nil))))) (temporal_Interfere_sim dw ap.drew (bC.mono (Zt (Zt (Zt aq an) ar) ah)) (bD.mono (Zt (Zt (Zt aq an) ar) ah)) (bE.mono (Zt (Zt (Zt aq an) ar) ah)) (bF.mono (Zt (Zt (Zt aq an) ar) ah))).r ?_)
       rintro _ eN ⟨aW, aM, af, rfl⟩
       refine ⟨ag_nil, ?_⟩
       refine DL_q rfl rfl (Zm (v := Value.tuple #[Value.bool (aG), errV 60 (ax)]) rfl rfl ⟨rfl, ?_⟩)
       refine DL_q rfl rfl (Exec.extract (v := Value.bool (aG)) rfl rfl rfl ⟨rfl, ?_⟩)
       refine DL_q rfl rfl (Exec.extract (v := errV 60 (ax)) rfl rfl rfl ⟨rfl, ?_⟩)
       refine DL_q rfl rfl (Zo (v := Value.bool (aG)) rfl rfl ⟨rfl, ?_⟩)
       refine DL_done (Za rfl rfl (Zo (v := errV 60 (ax)) rfl rfl (Zb (Ze (Zc (Zc (Zd (Za rfl rfl (Zm (v := errV 60 (ax)) rfl rfl (Za rfl rfl (Exec.err_neq_nil (T := 60) Tryz.underlying31 rfl rfl rfl (Zb (Ze ?_)))))))))))))
       rcases ite_some y with ⟨az, y⟩ | ⟨az, y⟩
       ·refine W_cond_t rfl az (Zc (Zd (Za rfl rfl (Zm (v := errV 60 (ax)) rfl rfl (Za rfl rfl (Zo (v := Value.slice none 0 0) rfl rfl (Za rfl rfl (Zo (v := errV 60 (ax)) rfl rfl (Zb (Ze (W_ret (at_ret (ib_ret (at_ret (at_ret (ib_ret (at_ret (ib_ret (at_ret (at_ret (ib_ret (at_ret (ib_ret (at_ret (at_ret (ib_ret (at_ret (at_ret ?_))))))))))))))))))))))))))))
        have dS := Zu y
        subst aJ
        have cw := c1 _ (c3 (by intro _ h; cases h))
        have dT := Zu cw
        subst aI
        have cx := c0 _ (bp (by intro _ h; cases h))
        have dU := Zu cx
        subst aZ
        have cy := cz _ (c2 (by intro _ h; cases h))
        have dV := Zu cy
        subst r
        refine ⟨_, ret2 rfl, ?_⟩
        exact ⟨aW, (Value.slice none 0 0), (Zt (Zt (Zt (Zt aq an) ar) ah) aM), (((((((af).drop).f4).drop).f3).f3).f3).f3, (tup2 rfl rfl), (SliceRep.nil _ _)⟩
       refine W_cond_f rfl az ?_
       replace az := Zk az
       refine W_skip (Ze (Zc (Zc (Zd (Za rfl rfl (Zm (v := Value.bool (aG)) rfl rfl (Za rfl rfl (Exec.not rfl rfl (Zb (Ze ?_))))))))))
       rcases ite_some y with ⟨a2, y⟩ | ⟨a2, y⟩
       ·refine W_cond_t rfl a2 (W_exit (at_exit (ib_here (Ze (Zd (Za rfl rfl (Exec.add rfl a7 rfl (Za rfl rfl (Zm (v := Vi (IntKind.i64.wrap ((aK : Int) + 1))) rfl rfl (Zb (Ze ?_)))))))))))
        have dW := Zu y
        subst aJ
        refine ⟨_, rfl, ?_⟩; exact ⟨aW, am, (Zt ah aM), ((((((af).drop).f4).f4).f4).f4).f4, a9, aO, aP, aQ, aR, aS, aA, aB, (Eq.trans rfl (wrap_up bo (SliceRep.le aC)))⟩
       refine W_cond_f rfl a2 ?_
       replace a2 := Zk a2
       refine W_skip (Ze (Zc (Zd (Za rfl rfl (Exec.index_parr Tryz.underlying131 A118 rfl rfl rfl (by decide) rfl (Za rfl rfl (Zp F118_1 rfl rfl rfl (Za rfl rfl (Zn (af) A3 rfl rfl rfl (Za rfl rfl (Exec.index_parr Tryz.underlying131 A118 rfl rfl rfl (by decide) rfl (Za rfl rfl (Zp F118_1 rfl rfl rfl (Za rfl rfl (Zn (af) A3 rfl rfl rfl (Za rfl rfl (Zq rfl rfl rfl (Zb (Ze ?_)))))))))))))))))))
       obtain ⟨a5, ag, y⟩ := Zg y
       refine W_mid (M := fun f' w' => (fun (a5 : (List Bound)) => ∃ (b8 : PHeap) (aF : Value), PHeap.le aW b8 ∧ St w0 b8 (Res.box l 88 [ab, ac, ad, ae, o, p, u] :: Res.arr encLaunch 56 o j.launches :: Res.arr encschedule_happening 118 p j.starts :: Res.arr encschedule_happening 118 u j.ends :: Res.arr encBound 49 aF a5 :: H) w' ∧ f' 0 = Value.pointer (some ⟨l, 0, none⟩) ∧ f' 4 = aF ∧ f' 5 = Vi ((n : Int)) ∧ f' 6 = Vi (z) ∧ f' 15 = Vi ((j.launches.length : Int)) ∧ f' 16 = Vi ((n : Int)) ∧ f' 90 = Value.slice (some ⟨aH, 0, none⟩) 4 4 ∧ f' 91 = Vi (([(⟨i, d⟩ : Arr2_schedulehappening), (⟨i, b⟩ : Arr2_schedulehappening), (⟨a, d⟩ : Arr2_schedulehappening), (⟨a, b⟩ : Arr2_schedulehappening)].length : Int)) ∧ f' 92 = Vi ((aK : Int))) a5) ?_ ?_
       ·rcases ite_some ag with ⟨a3, ag⟩ | ⟨a3, ag⟩
        ·refine W_cond_t rfl a3 (Zd (Za rfl rfl (Zm (v := am) rfl aO (Za rfl rfl (Exec.index_parr Tryz.underlying131 A118 rfl rfl rfl (by decide) rfl (Za rfl rfl (Zp F118_0 rfl rfl rfl (Za rfl rfl (Zn (af) A3 rfl rfl rfl (Za rfl rfl (Exec.index_parr Tryz.underlying131 A118 rfl rfl rfl (by decide) rfl (Za rfl rfl (Zp F118_0 rfl rfl rfl (Za rfl rfl (Zn (af) A3 rfl rfl rfl (Za rfl rfl (Tc rfl rfl rfl (Zi rfl (Zi rfl (Zi rfl args_nil))) (schedule_after_sim (schedule_after_tot g.a1.point g.a0.point 1) af ).r ?_)))))))))))))))))
         rintro _ eO ⟨d1, c6, cb, rfl⟩
         refine Za rfl rfl (Exec.buildSlice (Te := 49) (cs := [Vi ((schedule_after_t g.a1.point g.a0.point 1).A), Vi ((schedule_after_t g.a1.point g.a0.point 1).B), Vi ((schedule_after_t g.a1.point g.a0.point 1).Most)]) cb rfl (parts_cons (c := [Vi ((schedule_after_t g.a1.point g.a0.point 1).A), Vi ((schedule_after_t g.a1.point g.a0.point 1).B), Vi ((schedule_after_t g.a1.point g.a0.point 1).Most)]) (cells_of rfl rfl) parts_nil) (fun _ => by kernel_rfl) ?_)
         intro dI eP cc
         obtain ⟨ex, dx, ag⟩ := Zg ag
         refine Za rfl rfl (Exec.append_box (E := encBound) (ys := [(schedule_after_t g.a1.point g.a0.point 1)]) (cc).f6 S42 Z49 rfl (by decide) rfl rfl rfl rfl ⟨[Vi ((schedule_after_t g.a1.point g.a0.point 1).A), Vi ((schedule_after_t g.a1.point g.a0.point 1).B), Vi ((schedule_after_t g.a1.point g.a0.point 1).Most)], [], rfl, ⟨[Vi ((schedule_after_t g.a1.point g.a0.point 1).A)], [Vi ((schedule_after_t g.a1.point g.a0.point 1).B), Vi ((schedule_after_t g.a1.point g.a0.point 1).Most)], rfl, rfl, ⟨[Vi ((schedule_after_t g.a1.point g.a0.point 1).B)], [Vi ((schedule_after_t g.a1.point g.a0.point 1).Most)], rfl, rfl, rfl⟩⟩, rfl⟩ rfl dx ?_)
         intro bA eQ cd
         refine Za rfl rfl (Zo (v := bA) rfl rfl (Zb (Ze ?_)))
         have dX := Zu ag
         subst a5
         exact ⟨d1, bA, c6, ((((((cd).f1).drop).f4).f4).f4).f4, a9, rfl, aP, aQ, aR, aS, aA, aB, a7⟩
        refine W_cond_f rfl a3 ?_
        replace a3 := Zk a3
        refine Zd (Za rfl rfl (Zm (v := am) rfl aO (Za rfl rfl (Exec.index_parr Tryz.underlying131 A118 rfl rfl rfl (by decide) rfl (Za rfl rfl (Zp F118_0 rfl rfl rfl (Za rfl rfl (Zn (af) A3 rfl rfl rfl (Za rfl rfl (Exec.index_parr Tryz.underlying131 A118 rfl rfl rfl (by decide) rfl (Za rfl rfl (Zp F118_0 rfl rfl rfl (Za rfl rfl (Zn (af) A3 rfl rfl rfl (Za rfl rfl (Tc rfl rfl rfl (Zi rfl (Zi rfl (Zi rfl args_nil))) (schedule_after_sim (schedule_after_tot g.a0.point g.a1.point 1) af ).r ?_))))))))))))))))
        rintro _ eR ⟨d2, c7, ce, rfl⟩
        refine Za rfl rfl (Exec.buildSlice (Te := 49) (cs := [Vi ((schedule_after_t g.a0.point g.a1.point 1).A), Vi ((schedule_after_t g.a0.point g.a1.point 1).B), Vi ((schedule_after_t g.a0.point g.a1.point 1).Most)]) ce rfl (parts_cons (c := [Vi ((schedule_after_t g.a0.point g.a1.point 1).A), Vi ((schedule_after_t g.a0.point g.a1.point 1).B), Vi ((schedule_after_t g.a0.point g.a1.point 1).Most)]) (cells_of rfl rfl) parts_nil) (fun _ => by kernel_rfl) ?_)
        intro dJ eS cf
        obtain ⟨ey, dy, ag⟩ := Zg ag
        refine Za rfl rfl (Exec.append_box (E := encBound) (ys := [(schedule_after_t g.a0.point g.a1.point 1)]) (cf).f6 S42 Z49 rfl (by decide) rfl rfl rfl rfl ⟨[Vi ((schedule_after_t g.a0.point g.a1.point 1).A), Vi ((schedule_after_t g.a0.point g.a1.point 1).B), Vi ((schedule_after_t g.a0.point g.a1.point 1).Most)], [], rfl, ⟨[Vi ((schedule_after_t g.a0.point g.a1.point 1).A)], [Vi ((schedule_after_t g.a0.point g.a1.point 1).B), Vi ((schedule_after_t g.a0.point g.a1.point 1).Most)], rfl, rfl, ⟨[Vi ((schedule_after_t g.a0.point g.a1.point 1).B)], [Vi ((schedule_after_t g.a0.point g.a1.point 1).Most)], rfl, rfl, rfl⟩⟩, rfl⟩ rfl dy ?_)
        intro bB eT cg
        refine Za rfl rfl (Zo (v := bB) rfl rfl (Zb (Ze ?_)))
        have dY := Zu ag
        subst a5
        exact ⟨d2, bB, c7, ((((((cg).f1).drop).f4).f4).f4).f4, a9, rfl, aP, aQ, aR, aS, aA, aB, a7⟩
       intro eh eU bP
       obtain ⟨d3, aF, c8, ch, cH, cI, cJ, cK, cL, cM, cN, cO, cP⟩ := bP
       refine (ib_normal (Ze (Zd (Za rfl rfl (Exec.add rfl cP rfl (Za rfl rfl (Zm (v := Vi (IntKind.i64.wrap ((aK : Int) + 1))) rfl rfl (Zb (Ze ?_)))))))))
       have dZ := Zu y
       subst aJ
       refine ⟨_, rfl, ?_⟩; exact ⟨d3, aF, (Zt (Zt ah aM) c8), (((((ch).f4).f4).f4).f4).f4, cH, cI, cJ, cK, cL, cM, cN, cO, (Eq.trans rfl (wrap_up bo (SliceRep.le aC)))⟩
      intro aL ei eV bN c4
      obtain ⟨d4, am, c9, ci, cQ, cR, cS, cT, cU, cV, cW, b0, dC⟩ := bN
      refine Zc (Zd (Za rfl rfl (Zq rfl dC b0 (Zb (Ze (Zc (W_false (Zx (decide_eq_false (by omega))) (W_exit (at_exit (at_exit (ib_here (Ze ?_))))))))))))
      refine ⟨_, .inl c4, ?_⟩; exact ⟨d4, am, c9, (((((ci).f4).f4).f4).f4).f4, cQ, cR, cS, cT, cU, cV, cW, b0⟩
     rintro ej eW ⟨bt, bl, bQ⟩
     have x := bl.elim (cv _) (cq _)
     clear bl
     obtain ⟨d5, aE, cA, cj, cX, cY, cZ, da, db, dc, e0, e1⟩ := bQ
     refine (ib_normal (Ze (Zd (Za rfl rfl (Zm (v := Vi (z)) rfl da (Za rfl rfl (Exec.add rfl rfl rfl (Za rfl rfl (Zo (v := Vi (IntKind.i64.wrap (z + 1))) rfl rfl (Zb (Ze ?_)))))))))))
     have ea := Zu x
     subst aI
     refine ⟨_, rfl, ?_⟩; exact ⟨d5, aE, (Zt (Zt an ar) cA), (((((cj).f4).f4).f4).f4).f4, cX, cY, cZ, rfl, db, dc⟩
    refine W_cond_f rfl ay ?_
    replace ay := Zk ay
    refine W_exit (at_exit (at_exit (ib_here (Ze ?_))))
    have eb := Zu x
    subst aI
    refine ⟨_, .inr (bp (by intro _ h; cases h)), ?_⟩; exact ⟨d0, a6, an, (((((a8).f4).f4).f4).f4).f4, aa, bw, au, ao, bx, bz⟩
   rintro ek eX ⟨dB, bm, bR⟩
   have a4 := bm.elim (cu _) (cp _)
   clear bm
   obtain ⟨bq, br⟩ := dB
   replace a4 := un2_eq a4
   obtain ⟨d6, aD, cB, ck, dd, de, e2, e3, df, dg⟩ := bR
   refine (ib_normal (Ze (Zd (Za rfl rfl (Exec.add rfl dg rfl (Za rfl rfl (Zm (v := Vi (IntKind.i64.wrap ((n : Int) + 1))) rfl rfl (Zb (Ze ?_)))))))))
   have ec := Zu a4
   subst aZ
   refine ⟨_, rfl, ?_⟩; exact ⟨d6, aD, (Zt aq cB), (((((ck).f4).f4).f4).f4).f4, dd, de, df, (Eq.trans rfl (wrap_up cr ((hS).f1).arr_le))⟩
  intro aN el eY bO c5
  obtain ⟨d7, aw, cC, cl, dh, di, b1, dD⟩ := bO
  refine Zc (Zd (Za rfl rfl (Zq rfl dD b1 (Zb (Ze (Zc (W_false (Zx (decide_eq_false (by omega))) (W_exit (at_exit (at_exit (ib_here (Ze ?_))))))))))))
  refine ⟨_, .inl c5, ?_⟩; exact ⟨d7, aw, cC, (((((cl).f4).f4).f4).f4).f4, dh, di, b1⟩
 rintro em eZ ⟨bu, bn, bS⟩
 have hm := bn.elim (ct _) (co _)
 clear bn
 obtain ⟨e7, av, cD, cm, e4, dj, e5⟩ := bS
 refine (Ze (Zc (Zd (Za rfl rfl (Zm (v := av) rfl dj (Za rfl rfl (Zo (v := av) rfl rfl (Za rfl rfl (Zo (v := errV 60 (none)) rfl rfl (Zb (Ze (W_ret ?_))))))))))))
 have ed := Zu hm
 subst r
 refine ⟨_, ret2 rfl, ?_⟩
 obtain ⟨d8, cE, cn, dz⟩ := (cm).f4.freezeArr
 exact ⟨d8, av, (Zt cD cE), ((((cn).f3).f3).f3).f3, (tup2 rfl rfl), dz⟩
theorem schedule_plan_durations_sim {w0 w : World} {s : PHeap} {H : List Res} {d : schedule_plan} {h : Nat} {p : Value} {q : Value} {u : Value} {x : Value} {j : Value} {l : Value} {m : Value} {r : (List Bound)} (hm : schedule_plan_durations_p d = some r) (hS : St w0 s (Res.box h 88 [p, q, u, x, j, l, m] :: Res.arr encLaunch 56 j d.launches :: Res.arr encschedule_happening 118 l d.starts :: Res.arr encschedule_happening 118 m d.ends :: H) w) (aP : SliceRep (encInt .i64) s p d.t.Vars) (aQ : SliceRep (encInt .i64) s q d.t.Init) (aR : SliceRep encFact s u d.t.Goal) (al : SliceRep encJob s x d.t.Jobs) :
  Calls Tryz.prog 63 #[Value.pointer (some ⟨h, 0, none⟩)] w fun e w' => ∃ v, e = .returned v ∧ ((fun (aO : (List Bound)) => ∃ (ah : PHeap) (aj : Value), PHeap.le s ah ∧ St w0 ah (Res.box h 88 [p, q, u, x, j, l, m] :: Res.arr encLaunch 56 j d.launches :: Res.arr encschedule_happening 118 l d.starts :: Res.arr encschedule_happening 118 m d.ends :: Res.arr encBound 49 aj aO :: H) w' ∧ v = aj) r) := by
 unfold schedule_plan_durations_p at hm
 refine calls_of_W Tryz.func63 rfl rfl (Zc (Zd (Za rfl rfl (Zo (v := Value.slice none 0 0) rfl rfl (Zb (Ze (Zc (Zd (Za rfl rfl (Zo (v := Value.slice none 0 0) rfl rfl (Zb (Ze (Zc (Zc (Zd (Za rfl rfl (Zm (v := Value.pointer (some ⟨h, 0, none⟩)) rfl rfl (Za rfl rfl (Exec.nilCheck_ptr rfl rfl (Za rfl rfl (Zp F88_1 rfl rfl rfl (Za rfl rfl (Zn (hS) A27 rfl rfl rfl (Za rfl rfl (Exec.len_arr ((hS).f1) S27 rfl rfl (Za rfl rfl (Zm (v := Vi (0)) rfl rfl (Zb (Ze ?_)))))))))))))))))))))))))))))
 obtain ⟨ab, an, hm⟩ := Zg hm
 refine W_block (W_forS (fun k' s' f' w' => (fun (ab : (List Bound)) => ∃ (ai : PHeap) (g : Value), PHeap.le s ai ∧ St w0 ai (Res.box h 88 [p, q, u, x, j, l, m] :: Res.arr encLaunch 56 j d.launches :: Res.arr encschedule_happening 118 l d.starts :: Res.arr encschedule_happening 118 m d.ends :: Res.arr encBound 49 g ab :: H) w' ∧ f' 0 = Value.pointer (some ⟨h, 0, none⟩) ∧ f' 3 = g ∧ f' 10 = j ∧ f' 11 = Vi ((d.launches.length : Int)) ∧ f' 12 = Vi (k' : Int)) s') an ?_ ?_ ?_)
 ·have aq := hS.nilArr encBound 49
  exact ⟨s, (Value.slice none 0 0), (Zv _), ((((aq).f4).f4).f4).f4, rfl, rfl, rfl, rfl, rfl⟩
 ·intro a ab aK aZ bp a4 ao i
  obtain ⟨bg, g, ad, aa, ae, aD, af, ag, y⟩ := ao
  refine Zc (Zd (Za rfl rfl (Zq rfl y ag (Zb (Ze (Zc (W_true (Zx (decide_eq_true (by omega))) (W_skip (Ze (Zc (W_block (Zc (Zd (Za rfl rfl (Zm (v := Vi ((a : Int))) rfl y ?_)))))))))))))))
  obtain ⟨z, o, i⟩ := Zg i
  obtain ⟨bb, aV, ac⟩ := ((aa).f1).arr_at o
  refine Za rfl rfl (Exec.index_slice S27 rfl (Eq.trans af ac) y (idx_some o).1 (idx_some o).2.1 (Za rfl rfl (Exec.load_arr (F := encLaunch) ((aa).f1) ac A56 rfl rfl rfl o (Sub.refl _) ?_)))
  intro bn aG
  obtain rfl := encLaunch_val.1 aG
  refine Za rfl rfl (Exec.alloc (cs := [Vi (0), Vi (0)]) aa Z56 rfl rfl ?_)
  intro aS bq ar
  refine Za rfl rfl (Zo (v := Vi ((a : Int))) rfl rfl (Za rfl rfl (Exec.store_box (ds := [Vi (z.At), Vi (z.Job)]) (es := [Vi (z.At), Vi (z.Job)]) ar A56 rfl rfl rfl rfl (Zj rfl (Zj rfl one_nil)) (Nat.le_of_ble_eq_true rfl) rfl ?_)))
  intro br n
  refine Zb (Ze (Zc (W_dl (n0 := 10) (qs 0 10 .done) hmix (by kernel_rfl) (by kernel_rfl) (DL_q rfl rfl (Zm (v := Value.pointer (some ⟨h, 0, none⟩)) rfl ae ⟨rfl, ?_⟩)))))
  refine DL_q rfl rfl (Exec.nilCheck_ptr rfl rfl ⟨rfl, ?_⟩)
  refine DL_q rfl rfl (Zp F88_0 rfl rfl rfl ⟨rfl, ?_⟩)
  refine DL_q rfl rfl (Zp F26_3 rfl rfl rfl ⟨rfl, ?_⟩)
  refine DL_q rfl rfl (Zn ((n.drew).f1) A24 rfl rfl rfl ⟨rfl, ?_⟩)
  refine DL_q rfl rfl (Zp F56_1 rfl rfl rfl ⟨rfl, ?_⟩)
  refine DL_q rfl rfl (Zn (n.drew) A3 rfl rfl rfl ⟨rfl, ?_⟩)
  obtain ⟨b, aH, i⟩ := Zg i
  refine DL_q rfl rfl (Exec.index_repE S24 rfl rfl rfl (al.mono ad) aH ?_)
  intro aT bd am aW
  refine ⟨rfl, ?_⟩
  refine DL_q rfl rfl (Zp F63_1 rfl rfl rfl ⟨rfl, ?_⟩)
  refine DL_q rfl rfl (Zw (E := (encInt .i64)) n.drew A3 rfl rfl rfl (am.sub (Sub.iso (Sub.snd (Sub.fst (Sub.refl _)) rfl)) rfl) ?_)
  intro bo aI
  obtain rfl := encInt_val.1 aI
  refine ⟨rfl, ?_⟩
  refine DL_done (Za rfl rfl (Zo (v := Vi (b.Duration)) rfl rfl (Zb (Ze (Zd (Za rfl rfl (Zm (v := g) rfl aD (Za rfl rfl (Zm (v := Vi ((a : Int))) rfl rfl (Za rfl rfl (Tc rfl rfl rfl (Zi rfl args_nil) (schedule_start_sim (schedule_start_tot (a : Int)) n.drew ).r ?_)))))))))))
  rintro _ bs ⟨bh, a5, au, rfl⟩
  refine Za rfl rfl (Tc rfl rfl rfl (Zi rfl (Zi rfl (Zi rfl args_nil))) (schedule_after_sim (schedule_after_tot (schedule_start_t (a : Int)) 0 0) au ).r ?_)
  rintro _ bt ⟨bi, a6, av, rfl⟩
  refine Za rfl rfl (Zm (v := Vi ((a : Int))) rfl rfl (Za rfl rfl (Tc rfl rfl rfl (Zi rfl args_nil) (schedule_end_sim (schedule_end_tot (a : Int)) av ).r ?_)))
  rintro _ bu ⟨bj, a7, aw, rfl⟩
  refine Za rfl rfl (Zm (v := Vi ((a : Int))) rfl rfl (Za rfl rfl (Tc rfl rfl rfl (Zi rfl args_nil) (schedule_start_sim (schedule_start_tot (a : Int)) aw ).r ?_)))
  rintro _ bv ⟨bk, a8, ax, rfl⟩
  refine Za rfl rfl (Zm (v := Vi (b.Duration)) rfl rfl (Za rfl rfl (Tc rfl rfl rfl (Zi rfl (Zi rfl (Zi rfl args_nil))) (schedule_after_sim (schedule_after_tot (schedule_end_t (a : Int)) (schedule_start_t (a : Int)) b.Duration) ax ).r ?_)))
  rintro _ bw ⟨bl, a9, ay, rfl⟩
  refine Za rfl rfl (Zm (v := Vi ((a : Int))) rfl rfl (Za rfl rfl (Tc rfl rfl rfl (Zi rfl args_nil) (schedule_start_sim (schedule_start_tot (a : Int)) ay ).r ?_)))
  rintro _ bx ⟨bm, aA, az, rfl⟩
  refine Za rfl rfl (Zm (v := Vi ((a : Int))) rfl rfl (Za rfl rfl (Tc rfl rfl rfl (Zi rfl args_nil) (schedule_end_sim (schedule_end_tot (a : Int)) az ).r ?_)))
  rintro _ bz ⟨aL, aB, a0, rfl⟩
  refine Za rfl rfl (Zm (v := Vi (b.Duration)) rfl rfl (Za rfl rfl (Exec.build rfl (parts_cons (c := [Vi ((schedule_start_t (a : Int)))]) (cells_of rfl rfl) (parts_cons (c := [Vi ((schedule_end_t (a : Int)))]) (cells_of rfl rfl) (parts_cons (c := [Vi (b.Duration)]) (cells_of rfl rfl) parts_nil))) (v := Value.agg #[Vi ((schedule_start_t (a : Int))), Vi ((schedule_end_t (a : Int))), Vi (b.Duration)]) (fun _ => by kernel_rfl) (Za rfl rfl (Exec.buildSlice (Te := 49) (cs := [Vi ((schedule_after_t (schedule_start_t (a : Int)) 0 0).A), Vi ((schedule_after_t (schedule_start_t (a : Int)) 0 0).B), Vi ((schedule_after_t (schedule_start_t (a : Int)) 0 0).Most), Vi ((schedule_after_t (schedule_end_t (a : Int)) (schedule_start_t (a : Int)) b.Duration).A), Vi ((schedule_after_t (schedule_end_t (a : Int)) (schedule_start_t (a : Int)) b.Duration).B), Vi ((schedule_after_t (schedule_end_t (a : Int)) (schedule_start_t (a : Int)) b.Duration).Most), Vi ((schedule_start_t (a : Int))), Vi ((schedule_end_t (a : Int))), Vi (b.Duration)]) a0 rfl (parts_cons (c := [Vi ((schedule_after_t (schedule_start_t (a : Int)) 0 0).A), Vi ((schedule_after_t (schedule_start_t (a : Int)) 0 0).B), Vi ((schedule_after_t (schedule_start_t (a : Int)) 0 0).Most)]) (cells_of rfl rfl) (parts_cons (c := [Vi ((schedule_after_t (schedule_end_t (a : Int)) (schedule_start_t (a : Int)) b.Duration).A), Vi ((schedule_after_t (schedule_end_t (a : Int)) (schedule_start_t (a : Int)) b.Duration).B), Vi ((schedule_after_t (schedule_end_t (a : Int)) (schedule_start_t (a : Int)) b.Duration).Most)]) (cells_of rfl rfl) (parts_cons (c := [Vi ((schedule_start_t (a : Int))), Vi ((schedule_end_t (a : Int))), Vi (b.Duration)]) (cells_of rfl rfl) parts_nil))) (fun _ => by kernel_rfl) ?_)))))
  intro aU b0 a1
  obtain ⟨bc, aJ, i⟩ := Zg i
  refine Za rfl rfl (Exec.append_box (E := encBound) (ys := [(schedule_after_t (schedule_start_t (a : Int)) 0 0), (schedule_after_t (schedule_end_t (a : Int)) (schedule_start_t (a : Int)) b.Duration), (⟨(schedule_start_t (a : Int)), (schedule_end_t (a : Int)), b.Duration⟩ : Bound)]) (a1).f6 S42 Z49 rfl (by decide) rfl rfl rfl rfl ⟨[Vi ((schedule_after_t (schedule_start_t (a : Int)) 0 0).A), Vi ((schedule_after_t (schedule_start_t (a : Int)) 0 0).B), Vi ((schedule_after_t (schedule_start_t (a : Int)) 0 0).Most)], [Vi ((schedule_after_t (schedule_end_t (a : Int)) (schedule_start_t (a : Int)) b.Duration).A), Vi ((schedule_after_t (schedule_end_t (a : Int)) (schedule_start_t (a : Int)) b.Duration).B), Vi ((schedule_after_t (schedule_end_t (a : Int)) (schedule_start_t (a : Int)) b.Duration).Most), Vi ((schedule_start_t (a : Int))), Vi ((schedule_end_t (a : Int))), Vi (b.Duration)], rfl, ⟨[Vi ((schedule_after_t (schedule_start_t (a : Int)) 0 0).A)], [Vi ((schedule_after_t (schedule_start_t (a : Int)) 0 0).B), Vi ((schedule_after_t (schedule_start_t (a : Int)) 0 0).Most)], rfl, rfl, ⟨[Vi ((schedule_after_t (schedule_start_t (a : Int)) 0 0).B)], [Vi ((schedule_after_t (schedule_start_t (a : Int)) 0 0).Most)], rfl, rfl, rfl⟩⟩, ⟨[Vi ((schedule_after_t (schedule_end_t (a : Int)) (schedule_start_t (a : Int)) b.Duration).A), Vi ((schedule_after_t (schedule_end_t (a : Int)) (schedule_start_t (a : Int)) b.Duration).B), Vi ((schedule_after_t (schedule_end_t (a : Int)) (schedule_start_t (a : Int)) b.Duration).Most)], [Vi ((schedule_start_t (a : Int))), Vi ((schedule_end_t (a : Int))), Vi (b.Duration)], rfl, ⟨[Vi ((schedule_after_t (schedule_end_t (a : Int)) (schedule_start_t (a : Int)) b.Duration).A)], [Vi ((schedule_after_t (schedule_end_t (a : Int)) (schedule_start_t (a : Int)) b.Duration).B), Vi ((schedule_after_t (schedule_end_t (a : Int)) (schedule_start_t (a : Int)) b.Duration).Most)], rfl, rfl, ⟨[Vi ((schedule_after_t (schedule_end_t (a : Int)) (schedule_start_t (a : Int)) b.Duration).B)], [Vi ((schedule_after_t (schedule_end_t (a : Int)) (schedule_start_t (a : Int)) b.Duration).Most)], rfl, rfl, rfl⟩⟩, ⟨[Vi ((schedule_start_t (a : Int))), Vi ((schedule_end_t (a : Int))), Vi (b.Duration)], [], rfl, ⟨[Vi ((schedule_start_t (a : Int)))], [Vi ((schedule_end_t (a : Int))), Vi (b.Duration)], rfl, rfl, ⟨[Vi ((schedule_end_t (a : Int)))], [Vi (b.Duration)], rfl, rfl, rfl⟩⟩, rfl⟩⟩⟩ rfl aJ ?_)
  intro ak b1 a2
  refine Za rfl rfl (Zo (v := ak) rfl rfl (Zb (ib_normal (Ze (Zd (Za rfl rfl (Exec.add rfl y rfl (Za rfl rfl (Zm (v := Vi (IntKind.i64.wrap ((a : Int) + 1))) rfl rfl (Zb (Ze ?_)))))))))))
  have aX := Zu i
  subst aK
  exact ⟨aL, ak, (Zt (Zt (Zt (Zt (Zt (Zt (Zt ad a5) a6) a7) a8) a9) aA) aB), ((((((a2).f1).drop).f4).f4).f4).f4, ae, rfl, af, ag, (Eq.trans rfl (wrap_up a4 ((hS).f1).arr_le))⟩
 intro ba b2 ap
 obtain ⟨aM, g, aC, a3, be, aE, bf, aF, aN⟩ := ap
 refine Zc (Zd (Za rfl rfl (Zq rfl aN aF (Zb (Ze (Zc (W_false (Zx (decide_eq_false (by omega))) (W_exit (at_exit (at_exit (ib_here (Ze (Zc (Zd (Za rfl rfl (Zm (v := g) rfl aE (Za rfl rfl (Zo (v := g) rfl rfl (Zb (Ze (W_ret ?_)))))))))))))))))))))
 have aY := Zu hm
 subst r
 refine ⟨_, ret1 rfl, ?_⟩
 exact ⟨aM, g, aC, (((((a3).f4).f4).f4).f4).f4, rfl⟩
theorem N108 : (Tryz.f108.name == "runtime.NumGoroutine") = false := by kernel_rfl
theorem schedule_plan_writes_c1_c1_sim {w0 w : World} {s : PHeap} {H : List Res} {a : Fact} {b : Fact} {d f : Nat} {r : Bool} (hm : schedule_plan_writes_c1_c1_p a b = some r) (hS : St w0 s (H) w) (h : At s d f encFact b) :
  Calls Tryz.prog 108 #[Value.agg #[Vi (a.Var), Vi (a.Val)], Value.pointer (some ⟨d, f, none⟩)] w fun e w' => ∃ v, e = .returned v ∧ ((fun (j : Bool) => ∃ (g : PHeap) , PHeap.le s g ∧ St w0 g (H) w' ∧ v = Value.bool (j)) r) := by
 unfold schedule_plan_writes_c1_c1_p at hm
 refine calls_of_W Tryz.func108 rfl rfl (Zc (Zd (Za rfl rfl (Exec.box (cs := [Vi (a.Var), Vi (a.Val)]) hS rfl rfl rfl ?_))))
 intro k n c
 refine Za rfl rfl (Zo (v := Value.bool (false)) rfl rfl (Zb (Ze (Zc (Zd (Za rfl rfl (Zp F104_0 rfl rfl rfl (Za rfl rfl (Zw (E := (encInt .i64)) c A3 rfl rfl rfl (h.sub (Sub.iso (Sub.fst (Sub.refl _))) rfl) ?_)))))))))
 intro m i
 obtain rfl := encInt_val.1 i
 refine Za rfl rfl (Zp F104_0 rfl rfl rfl (Za rfl rfl (Zn (c) A3 rfl rfl rfl (Za rfl rfl (Exec.eql rfl rfl rfl (Za rfl rfl (Zo (v := Value.bool (decide (b.Var = a.Var))) rfl rfl (Zb (Ze (W_ret ?_))))))))))
 have l := Zu hm
 subst r
 refine ⟨_, ret1 rfl, ?_⟩
 exact ⟨s, (Zv _), (c).drop, rfl⟩
theorem slices_IndexFunc_apiFact_writes_c1_c1_sim {w0 w : World} {s : PHeap} {H : List Res} {l : (List Fact)} {n : Fact} {c : Value} {d i : Nat} {r : Int} (hm : slices_IndexFunc_apiFact_writes_c1_c1_p l n = some r) (hS : St w0 s (H) w) (m : SliceRep encFact s c l) (ah : At s d i encFact n) :
  Calls Tryz.prog 114 #[c, Value.func (.func 108) #[] #[Value.pointer (some ⟨d, i, none⟩)]] w fun e w' => ∃ v, e = .returned v ∧ ((fun (a8 : Int) => ∃ (ad : PHeap) , PHeap.le s ad ∧ St w0 ad (H) w' ∧ v = Vi (a8)) r) := by
 unfold slices_IndexFunc_apiFact_writes_c1_c1_p at hm
 refine calls_of_W Tryz.func114 rfl rfl (Zc (Zd (Za rfl rfl (Zo (v := Vi (0)) rfl rfl (Zb (Ze (Zc (Zc (Zd (Za rfl rfl (Zm (v := c) rfl rfl (Za rfl rfl (Zr S23 rfl rfl m (Za rfl rfl (Zm (v := Vi (0)) rfl rfl (Zb (Ze ?_)))))))))))))))))
 obtain ⟨p, aj, av, ar, ap⟩ := ctl_some hm
 refine W_mid (M := fun f' w' => ∃ s', (p = .next s' ∨ p = .brk s') ∧ (fun (_ : Unit) => ∃ (ae : PHeap) , PHeap.le s ae ∧ St w0 ae (H) w' ∧ f' 0 = c ∧ f' 1 = Value.func (.func 108) #[] #[Value.pointer (some ⟨d, i, none⟩)] ∧ f' 7 = Vi ((l.length : Int))) s') ?_ ?_
 ·refine W_block (W_forC (fun k' s' f' w' => (fun (_ : Unit) => ∃ (af : PHeap) , PHeap.le s af ∧ St w0 af (H) w' ∧ f' 0 = c ∧ f' 1 = Value.func (.func 108) #[] #[Value.pointer (some ⟨d, i, none⟩)] ∧ f' 7 = Vi ((l.length : Int)) ∧ f' 8 = Vi (k' : Int)) s') aj ?_ ?_ ?_)
  ·exact ⟨s, (Zv _), hS, rfl, rfl, rfl, rfl⟩
  ·intro b aM q aE aQ aq ak a aw
   obtain ⟨aL, j, t, z, aa, ab, o⟩ := ak
   refine Zc (Zd (Za rfl rfl (Zq rfl o ab (Zb (Ze (Zc (W_true (Zx (decide_eq_true (by omega))) (W_skip (Ze (Zc (W_block (Zc (Zd (Za rfl rfl (Zm (v := Vi ((b : Int))) rfl o (Za rfl rfl (Zo (v := Vi ((b : Int))) rfl rfl (Zb (Ze (Zc (Zd (Za rfl rfl (Zm (v := Value.func (.func 108) #[] #[Value.pointer (some ⟨d, i, none⟩)]) rfl aa (Za rfl rfl (Zm (v := c) rfl z (Za rfl rfl (Zm (v := Vi ((b : Int))) rfl rfl ?_)))))))))))))))))))))))))))
   obtain ⟨a6, a2, a⟩ := Zg a
   refine Za rfl rfl (Exec.index_rep S23 rfl rfl rfl (m.mono j) a2 ?_)
   intro a9 aH ai
   refine Za rfl rfl (Zw (E := encFact) t A104 rfl rfl rfl ai ?_)
   intro aP a3
   obtain rfl := encFact_val.1 a3
   refine Za rfl rfl (Exec.callc rfl rfl Tryz.func108 rfl N108 (Zi rfl args_nil) rfl ((schedule_plan_writes_c1_c1_sim (schedule_plan_writes_c1_c1_tot a6 n) t (ah.mono j)).mono ?_))
   rintro _ aR ⟨_, rfl, ⟨ag, y, u, rfl⟩⟩
   refine ⟨_, rfl, ?_⟩
   refine Zb (Ze ?_)
   rcases ite_some a with ⟨g, a⟩ | ⟨g, a⟩
   ·refine W_cond_t rfl g (Zc (Zd (Za rfl rfl (Zm (v := Vi ((b : Int))) rfl rfl (Za rfl rfl (Zo (v := Vi ((b : Int))) rfl rfl (Zb (Ze (W_ret (ib_ret (at_ret (at_ret (ib_ret (at_ret (at_ret ?_)))))))))))))))
    have aA := Zu a
    subst q
    have au := av _ (aw (by intro _ h; cases h))
    have aB := Zu au
    subst r
    refine ⟨_, ret1 rfl, ?_⟩
    exact ⟨ag, (Zt j y), u, rfl⟩
   refine W_cond_f rfl g ?_
   replace g := Zk g
   refine W_skip (ib_normal (Ze (Zd (Za rfl rfl (Exec.add rfl o rfl (Za rfl rfl (Zm (v := Vi (IntKind.i64.wrap ((b : Int) + 1))) rfl rfl (Zb (Ze ?_)))))))))
   have aC := Zu a
   subst q
   refine ⟨_, rfl, ?_⟩; exact ⟨ag, (Zt j y), u, z, aa, ab, (Eq.trans rfl (wrap_up aq (SliceRep.le m)))⟩
  intro aN aF aS al ax
  obtain ⟨a4, ay, an, a0, a1, ac, a7⟩ := al
  refine Zc (Zd (Za rfl rfl (Zq rfl a7 ac (Zb (Ze (Zc (W_false (Zx (decide_eq_false (by omega))) (W_exit (at_exit (at_exit (ib_here (Ze ?_))))))))))))
  refine ⟨_, .inl ax, ?_⟩; exact ⟨a4, ay, an, a0, a1, ac⟩
 rintro aG aT ⟨aO, x, am⟩
 have hm := x.elim (ar _) (ap _)
 clear x
 obtain ⟨a5, az, ao, aI, aJ, aK⟩ := am
 refine (Ze (Zc (Zd (Za rfl rfl (Zo (v := Vi ((-1))) rfl rfl (Zb (Ze (W_ret ?_))))))))
 have aD := Zu hm
 subst r
 refine ⟨_, ret1 rfl, ?_⟩
 exact ⟨a5, az, ao, rfl⟩
theorem slices_ContainsFunc_apiFact_writes_c1_c1_sim {w0 w : World} {s : PHeap} {H : List Res} {g : (List Fact)} {d : Fact} {c : Value} {a b : Nat} {r : Bool} (hm : slices_ContainsFunc_apiFact_writes_c1_c1_p g d = some r) (hS : St w0 s (H) w) (h : SliceRep encFact s c g) (i : At s a b encFact d) :
  Calls Tryz.prog 96 #[c, Value.func (.func 108) #[] #[Value.pointer (some ⟨a, b, none⟩)]] w fun e w' => ∃ v, e = .returned v ∧ ((fun (n : Bool) => ∃ (f : PHeap) , PHeap.le s f ∧ St w0 f (H) w' ∧ v = Value.bool (n)) r) := by
 unfold slices_ContainsFunc_apiFact_writes_c1_c1_p at hm
 refine calls_of_W Tryz.func96 rfl rfl (Zc (Zd (Za rfl rfl (Zo (v := Value.bool (false)) rfl rfl (Zb (Ze (Zc (Zd (Za rfl rfl (Zm (v := c) rfl rfl (Za rfl rfl (Zm (v := Value.func (.func 108) #[] #[Value.pointer (some ⟨a, b, none⟩)]) rfl rfl ?_))))))))))))
 obtain ⟨o, l, hm⟩ := Zg hm
 refine Za rfl rfl (Tc rfl rfl rfl (Zi rfl (Zi rfl args_nil)) (slices_IndexFunc_apiFact_writes_c1_c1_sim l hS h i).r ?_)
 rintro _ q ⟨m, k, j, rfl⟩
 refine Za rfl rfl (Exec.geq rfl rfl rfl (Za rfl rfl (Zo (v := Value.bool (decide (0 ≤ o))) rfl rfl (Zb (Ze (W_ret ?_))))))
 have p := Zu hm
 subst r
 refine ⟨_, ret1 rfl, ?_⟩
 exact ⟨m, k, j, rfl⟩
theorem N107 : (Tryz.f107.name == "runtime.NumGoroutine") = false := by kernel_rfl
theorem schedule_plan_writes_c1_sim {w0 w : World} {s : PHeap} {H : List Res} {a : Fact} {c : (List Fact)} {b g : Nat} {r : Bool} (hm : schedule_plan_writes_c1_p a c = some r) (hS : St w0 s (H) w) (i : At s b g (encSlice encFact) c) :
  Calls Tryz.prog 107 #[Value.agg #[Vi (a.Var), Vi (a.Val)], Value.pointer (some ⟨b, g, none⟩)] w fun e w' => ∃ v, e = .returned v ∧ ((fun (t : Bool) => ∃ (h : PHeap) , PHeap.le s h ∧ St w0 h (H) w' ∧ v = Value.bool (t)) r) := by
 unfold schedule_plan_writes_c1_p at hm
 refine calls_of_W Tryz.func107 rfl rfl (Zc (Zd (Za rfl rfl (Exec.box (cs := [Vi (a.Var), Vi (a.Val)]) hS rfl rfl rfl ?_))))
 intro x ac d
 refine Za rfl rfl (Zo (v := Value.bool (false)) rfl rfl (Zb (Ze (Zc (Zd (Za rfl rfl (Zw (E := (encSlice encFact)) d A23 rfl rfl rfl i ?_)))))))
 intro ab m
 have o := encSlice_val.1 m
 obtain ⟨aa, f, j, p⟩ := St.freezeVar (E := encFact) (y := a) d ⟨[Vi (a.Var)], [Vi (a.Val)], rfl, rfl, rfl⟩
 refine Za rfl rfl (Exec.makeFunc rfl (Zi rfl args_nil) ?_)
 obtain ⟨u, n, hm⟩ := Zg hm
 refine Za rfl rfl (Tc rfl rfl rfl (Zi rfl (Zi rfl args_nil)) (slices_ContainsFunc_apiFact_writes_c1_c1_sim n j (o.mono f) p).r ?_)
 rintro _ ad ⟨q, l, k, rfl⟩
 refine Za rfl rfl (Zo (v := Value.bool (u)) rfl rfl (Zb (Ze (W_ret ?_))))
 have z := Zu hm
 subst r
 refine ⟨_, ret1 rfl, ?_⟩
 exact ⟨q, (Zt f l), k, rfl⟩
theorem slices_IndexFunc_apiFact_writes_c1_sim {w0 w : World} {s : PHeap} {H : List Res} {l : (List Fact)} {o : (List Fact)} {c : Value} {d i : Nat} {r : Int} (hm : slices_IndexFunc_apiFact_writes_c1_p l o = some r) (hS : St w0 s (H) w) (m : SliceRep encFact s c l) (ah : At s d i (encSlice encFact) o) :
  Calls Tryz.prog 114 #[c, Value.func (.func 107) #[] #[Value.pointer (some ⟨d, i, none⟩)]] w fun e w' => ∃ v, e = .returned v ∧ ((fun (a8 : Int) => ∃ (ad : PHeap) , PHeap.le s ad ∧ St w0 ad (H) w' ∧ v = Vi (a8)) r) := by
 unfold slices_IndexFunc_apiFact_writes_c1_p at hm
 refine calls_of_W Tryz.func114 rfl rfl (Zc (Zd (Za rfl rfl (Zo (v := Vi (0)) rfl rfl (Zb (Ze (Zc (Zc (Zd (Za rfl rfl (Zm (v := c) rfl rfl (Za rfl rfl (Zr S23 rfl rfl m (Za rfl rfl (Zm (v := Vi (0)) rfl rfl (Zb (Ze ?_)))))))))))))))))
 obtain ⟨p, aj, av, ar, ap⟩ := ctl_some hm
 refine W_mid (M := fun f' w' => ∃ s', (p = .next s' ∨ p = .brk s') ∧ (fun (_ : Unit) => ∃ (ae : PHeap) , PHeap.le s ae ∧ St w0 ae (H) w' ∧ f' 0 = c ∧ f' 1 = Value.func (.func 107) #[] #[Value.pointer (some ⟨d, i, none⟩)] ∧ f' 7 = Vi ((l.length : Int))) s') ?_ ?_
 ·refine W_block (W_forC (fun k' s' f' w' => (fun (_ : Unit) => ∃ (af : PHeap) , PHeap.le s af ∧ St w0 af (H) w' ∧ f' 0 = c ∧ f' 1 = Value.func (.func 107) #[] #[Value.pointer (some ⟨d, i, none⟩)] ∧ f' 7 = Vi ((l.length : Int)) ∧ f' 8 = Vi (k' : Int)) s') aj ?_ ?_ ?_)
  ·exact ⟨s, (Zv _), hS, rfl, rfl, rfl, rfl⟩
  ·intro b aM q aE aQ aq ak a aw
   obtain ⟨aL, j, t, z, aa, ab, n⟩ := ak
   refine Zc (Zd (Za rfl rfl (Zq rfl n ab (Zb (Ze (Zc (W_true (Zx (decide_eq_true (by omega))) (W_skip (Ze (Zc (W_block (Zc (Zd (Za rfl rfl (Zm (v := Vi ((b : Int))) rfl n (Za rfl rfl (Zo (v := Vi ((b : Int))) rfl rfl (Zb (Ze (Zc (Zd (Za rfl rfl (Zm (v := Value.func (.func 107) #[] #[Value.pointer (some ⟨d, i, none⟩)]) rfl aa (Za rfl rfl (Zm (v := c) rfl z (Za rfl rfl (Zm (v := Vi ((b : Int))) rfl rfl ?_)))))))))))))))))))))))))))
   obtain ⟨aU, a2, a⟩ := Zg a
   refine Za rfl rfl (Exec.index_rep S23 rfl rfl rfl (m.mono j) a2 ?_)
   intro a9 aH ai
   refine Za rfl rfl (Zw (E := encFact) t A104 rfl rfl rfl ai ?_)
   intro aP a3
   obtain rfl := encFact_val.1 a3
   obtain ⟨aV, a4, a⟩ := Zg a
   refine Za rfl rfl (Exec.callc rfl rfl Tryz.func107 rfl N107 (Zi rfl args_nil) rfl ((schedule_plan_writes_c1_sim a4 t (ah.mono j)).mono ?_))
   rintro _ aR ⟨_, rfl, ⟨ag, y, u, rfl⟩⟩
   refine ⟨_, rfl, ?_⟩
   refine Zb (Ze ?_)
   rcases ite_some a with ⟨g, a⟩ | ⟨g, a⟩
   ·refine W_cond_t rfl g (Zc (Zd (Za rfl rfl (Zm (v := Vi ((b : Int))) rfl rfl (Za rfl rfl (Zo (v := Vi ((b : Int))) rfl rfl (Zb (Ze (W_ret (ib_ret (at_ret (at_ret (ib_ret (at_ret (at_ret ?_)))))))))))))))
    have aA := Zu a
    subst q
    have au := av _ (aw (by intro _ h; cases h))
    have aB := Zu au
    subst r
    refine ⟨_, ret1 rfl, ?_⟩
    exact ⟨ag, (Zt j y), u, rfl⟩
   refine W_cond_f rfl g ?_
   replace g := Zk g
   refine W_skip (ib_normal (Ze (Zd (Za rfl rfl (Exec.add rfl n rfl (Za rfl rfl (Zm (v := Vi (IntKind.i64.wrap ((b : Int) + 1))) rfl rfl (Zb (Ze ?_)))))))))
   have aC := Zu a
   subst q
   refine ⟨_, rfl, ?_⟩; exact ⟨ag, (Zt j y), u, z, aa, ab, (Eq.trans rfl (wrap_up aq (SliceRep.le m)))⟩
  intro aN aF aS al ax
  obtain ⟨a5, ay, an, a0, a1, ac, a7⟩ := al
  refine Zc (Zd (Za rfl rfl (Zq rfl a7 ac (Zb (Ze (Zc (W_false (Zx (decide_eq_false (by omega))) (W_exit (at_exit (at_exit (ib_here (Ze ?_))))))))))))
  refine ⟨_, .inl ax, ?_⟩; exact ⟨a5, ay, an, a0, a1, ac⟩
 rintro aG aT ⟨aO, x, am⟩
 have hm := x.elim (ar _) (ap _)
 clear x
 obtain ⟨a6, az, ao, aI, aJ, aK⟩ := am
 refine (Ze (Zc (Zd (Za rfl rfl (Zo (v := Vi ((-1))) rfl rfl (Zb (Ze (W_ret ?_))))))))
 have aD := Zu hm
 subst r
 refine ⟨_, ret1 rfl, ?_⟩
 exact ⟨a6, az, ao, rfl⟩
theorem slices_ContainsFunc_apiFact_writes_c1_sim {w0 w : World} {s : PHeap} {H : List Res} {g : (List Fact)} {d : (List Fact)} {c : Value} {a b : Nat} {r : Bool} (hm : slices_ContainsFunc_apiFact_writes_c1_p g d = some r) (hS : St w0 s (H) w) (h : SliceRep encFact s c g) (i : At s a b (encSlice encFact) d) :
  Calls Tryz.prog 96 #[c, Value.func (.func 107) #[] #[Value.pointer (some ⟨a, b, none⟩)]] w fun e w' => ∃ v, e = .returned v ∧ ((fun (n : Bool) => ∃ (f : PHeap) , PHeap.le s f ∧ St w0 f (H) w' ∧ v = Value.bool (n)) r) := by
 unfold slices_ContainsFunc_apiFact_writes_c1_p at hm
 refine calls_of_W Tryz.func96 rfl rfl (Zc (Zd (Za rfl rfl (Zo (v := Value.bool (false)) rfl rfl (Zb (Ze (Zc (Zd (Za rfl rfl (Zm (v := c) rfl rfl (Za rfl rfl (Zm (v := Value.func (.func 107) #[] #[Value.pointer (some ⟨a, b, none⟩)]) rfl rfl ?_))))))))))))
 obtain ⟨o, l, hm⟩ := Zg hm
 refine Za rfl rfl (Tc rfl rfl rfl (Zi rfl (Zi rfl args_nil)) (slices_IndexFunc_apiFact_writes_c1_sim l hS h i).r ?_)
 rintro _ q ⟨m, k, j, rfl⟩
 refine Za rfl rfl (Exec.geq rfl rfl rfl (Za rfl rfl (Zo (v := Value.bool (decide (0 ≤ o))) rfl rfl (Zb (Ze (W_ret ?_))))))
 have p := Zu hm
 subst r
 refine ⟨_, ret1 rfl, ?_⟩
 exact ⟨m, k, j, rfl⟩
theorem schedule_plan_writes_sim {w0 w : World} {s : PHeap} {H : List Res} {a : schedule_plan} {b : schedule_happening} {ad : (List Fact)} {c : Nat} {q : Value} {u : Value} {x : Value} {z : Value} {d : Value} {g : Value} {h : Value} {aa : Value} {r : Bool} (hm : schedule_plan_writes_p a b ad = some r) (hS : St w0 s (Res.box c 88 [q, u, x, z, d, g, h] :: Res.arr encLaunch 56 d a.launches :: Res.arr encschedule_happening 118 g a.starts :: Res.arr encschedule_happening 118 h a.ends :: H) w) (aE : SliceRep (encInt .i64) s q a.t.Vars) (aF : SliceRep (encInt .i64) s u a.t.Init) (aG : SliceRep encFact s x a.t.Goal) (ap : SliceRep encJob s z a.t.Jobs) (af : SliceRep encFact s aa ad) :
  Calls Tryz.prog 83 #[Value.pointer (some ⟨c, 0, none⟩), Value.agg #[Vi (b.point), Vi (b.at_), Vi (b.job), Value.bool (b.end_)], aa] w fun e w' => ∃ v, e = .returned v ∧ ((fun (aC : Bool) => ∃ (al : PHeap) , PHeap.le s al ∧ St w0 al (Res.box c 88 [q, u, x, z, d, g, h] :: Res.arr encLaunch 56 d a.launches :: Res.arr encschedule_happening 118 g a.starts :: Res.arr encschedule_happening 118 h a.ends :: H) w' ∧ v = Value.bool (aC)) r) := by
 unfold schedule_plan_writes_p at hm
 refine calls_of_W Tryz.func83 rfl rfl (Zc (Zd (Za rfl rfl (Exec.box (cs := [Vi (b.point), Vi (b.at_), Vi (b.job), Value.bool (b.end_)]) hS rfl rfl rfl ?_))))
 intro aH aS aw
 refine Za rfl rfl (Exec.box (cs := [aa]) aw rfl rfl (cells_one (af).one) ?_)
 intro ag aT m
 refine Za rfl rfl (Zo (v := Value.bool (false)) rfl rfl (Zb (Ze (Zc (W_dl (n0 := 10) (qs 0 9 (.e 9 [0, 1, 2, 3, 4, 5, 6, 7, 8] .done)) hmix (by kernel_rfl) (by kernel_rfl) (DL_q rfl rfl (Zm (v := Value.pointer (some ⟨c, 0, none⟩)) rfl rfl ⟨rfl, ?_⟩)))))))
 refine DL_q rfl rfl (Exec.nilCheck_ptr rfl rfl ⟨rfl, ?_⟩)
 refine DL_q rfl rfl (Zp F88_0 rfl rfl rfl ⟨rfl, ?_⟩)
 refine DL_q rfl rfl (Zp F26_3 rfl rfl rfl ⟨rfl, ?_⟩)
 refine DL_q rfl rfl (Zn ((m.drew).f2) A24 rfl rfl rfl ⟨rfl, ?_⟩)
 refine DL_q rfl rfl (Zp F118_2 rfl rfl rfl ⟨rfl, ?_⟩)
 refine DL_q rfl rfl (Zn ((m.drew).f1) A3 rfl rfl rfl ⟨rfl, ?_⟩)
 obtain ⟨ac, a4, hm⟩ := Zg hm
 refine DL_q rfl rfl (Exec.index_repE S24 rfl rfl rfl ap a4 ?_)
 intro aI aO aq ar
 refine ⟨rfl, ?_⟩
 refine DL_q rfl rfl (Exec.load_atR (E := encJob) m.drew A63 rfl rfl rfl aq ?_)
 intro aR a5 au
 obtain ⟨am, an, ao, o, p, rfl, a7, a8, a9, aj, ak⟩ := encJob_val.1 a5
 refine ⟨rfl, ?_⟩
 refine DL_e rfl rfl (Exec.alloc (cs := [Value.string (⟨#[]⟩), Vi (0), Value.slice none 0 0, Value.slice none 0 0, Value.slice none 0 0, Value.slice none 0 0, Value.slice none 0 0]) m.drew Z63 rfl rfl ?_)
 intro aJ aU n
 refine ⟨(ag_cons (ag_r rfl rfl (Zm (v := Value.pointer (some ⟨c, 0, none⟩)) rfl rfl ⟨rfl, rfl⟩)) (ag_cons (ag_r rfl rfl (Exec.nilCheck_ptr rfl rfl ⟨rfl, rfl⟩)) (ag_cons (ag_r rfl rfl (Zp F88_0 rfl rfl rfl ⟨rfl, rfl⟩)) (ag_cons (ag_r rfl rfl (Zp F26_3 rfl rfl rfl ⟨rfl, rfl⟩)) (ag_cons (ag_r rfl rfl (Zn ((n).f3) A24 rfl rfl rfl ⟨rfl, rfl⟩)) (ag_cons (ag_r rfl rfl (Zp F118_2 rfl rfl rfl ⟨rfl, rfl⟩)) (ag_cons (ag_r rfl rfl (Zn ((n).f2) A3 rfl rfl rfl ⟨rfl, rfl⟩)) (ag_cons (ag_r rfl rfl (Exec.index_run rfl rfl rfl ar ⟨rfl, rfl⟩)) (ag_cons (ag_r rfl rfl (Exec.load_run rfl rfl (au (Zv _) n) ⟨rfl, rfl⟩)) ag_nil))))))))), ?_⟩
 refine DL_done (Za rfl rfl (Exec.store_box (ds := [Value.string (ac.Name), Vi (ac.Duration), am, an, ao, o, p]) (es := [Value.string (ac.Name), Vi (ac.Duration), am, an, ao, o, p]) n A63 rfl rfl rfl rfl (Zj rfl (Zj rfl (Zj (a7).one (Zj (a8).one (Zj (a9).one (Zj (aj).one (Zj (ak).one one_nil))))))) (Nat.le_of_ble_eq_true rfl) rfl ?_))
 intro aV i
 refine Zb (Ze (Zc (Zd (Za rfl rfl (Zp F63_5 rfl rfl rfl (Za rfl rfl (Zn (i) A23 rfl rfl rfl (Za rfl rfl (Zo (v := o) rfl rfl (Zb (Ze (Zc (Zc (Zd (Za rfl rfl (Zp F118_3 rfl rfl rfl (Za rfl rfl (Zn ((i).f2) A4 rfl rfl rfl (Zb (Ze ?_))))))))))))))))))))
 obtain ⟨l, k, hm⟩ := Zg hm
 refine W_mid (M := fun f' w' => (fun (l : (List Fact)) => ∃ (ae : PHeap) (ab : Value), PHeap.le s ae ∧ St w0 ae (Res.box c 88 [q, u, x, z, d, g, h] :: Res.arr encLaunch 56 d a.launches :: Res.arr encschedule_happening 118 g a.starts :: Res.arr encschedule_happening 118 h a.ends :: Res.box ag 23 [aa] :: H) w' ∧ f' 5 = Value.pointer (some ⟨ag, 0, none⟩) ∧ f' 8 = ab ∧ SliceRep encFact ae ab l) l) ?_ ?_
 ·rcases ite_some k with ⟨j, k⟩ | ⟨j, k⟩
  ·refine W_cond_t rfl j (Zd (Za rfl rfl (Zp F63_6 rfl rfl rfl (Za rfl rfl (Zn (i) A23 rfl rfl rfl (Za rfl rfl (Zo (v := p) rfl rfl (Zb (Ze ?_)))))))))
   have aK := Zu k
   subst l
   exact ⟨s, p, (Zv _), (((((((i).drop).f1).drop).f4).f4).f4).f4, rfl, rfl, ak⟩
  refine W_cond_f rfl j ?_
  replace j := Zk j
  refine W_skip (Ze ?_)
  have aL := Zu k
  subst l
  exact ⟨s, o, (Zv _), (((((((i).drop).f1).drop).f4).f4).f4).f4, rfl, rfl, aj⟩
 intro aN aW av
 obtain ⟨aP, ab, ah, ax, a2, a3, a0⟩ := av
 refine (Ze (Zc (Zd (Za rfl rfl (Zm (v := ab) rfl a3 ?_)))))
 obtain ⟨aQ, ai, ay, aA⟩ := St.freezeVar (E := (encSlice encFact)) (y := ad) (ax).f4 ⟨_, rfl, (af.mono ah)⟩
 refine Za rfl rfl (Exec.makeFunc rfl (Zi a2 args_nil) ?_)
 obtain ⟨aD, a6, hm⟩ := Zg hm
 refine Za rfl rfl (Tc rfl rfl rfl (Zi rfl (Zi rfl args_nil)) (slices_ContainsFunc_apiFact_writes_c1_sim a6 ay (a0.mono ai) aA).r ?_)
 rintro _ aX ⟨aB, a1, az, rfl⟩
 refine Za rfl rfl (Zo (v := Value.bool (aD)) rfl rfl (Zb (Ze (W_ret ?_))))
 have aM := Zu hm
 subst r
 refine ⟨_, ret1 rfl, ?_⟩
 exact ⟨aB, (Zt (Zt ah ai) a1), ((((az).f3).f3).f3).f3, rfl⟩
theorem schedule_plan_overs_sim {w0 w : World} {s : PHeap} {H : List Res} {d : schedule_plan} {i : Nat} {ac : Value} {ad : Value} {ae : Value} {af : Value} {j : Value} {l : Value} {m : Value} {r : (List Bound)} (hm : schedule_plan_overs_p d = some r) (hS : St w0 s (Res.box i 88 [ac, ad, ae, af, j, l, m] :: Res.arr encLaunch 56 j d.launches :: Res.arr encschedule_happening 118 l d.starts :: Res.arr encschedule_happening 118 m d.ends :: H) w) (b5 : SliceRep (encInt .i64) s ac d.t.Vars) (b6 : SliceRep (encInt .i64) s ad d.t.Init) (b7 : SliceRep encFact s ae d.t.Goal) (aZ : SliceRep encJob s af d.t.Jobs) :
  Calls Tryz.prog 64 #[Value.pointer (some ⟨i, 0, none⟩)] w fun e w' => ∃ v, e = .returned v ∧ ((fun (dL : (List Bound)) => ∃ (aY : PHeap) (b2 : Value), PHeap.le s aY ∧ St w0 aY (Res.box i 88 [ac, ad, ae, af, j, l, m] :: Res.arr encLaunch 56 j d.launches :: Res.arr encschedule_happening 118 l d.starts :: Res.arr encschedule_happening 118 m d.ends :: H) w' ∧ v = b2 ∧ SliceRep encBound aY b2 dL) r) := by
 unfold schedule_plan_overs_p at hm
 refine calls_of_W Tryz.func64 rfl rfl (Zc (Zd (Za rfl rfl (Zo (v := Value.slice none 0 0) rfl rfl (Zb (Ze (Zc (Zd (Za rfl rfl (Zo (v := Value.slice none 0 0) rfl rfl (Zb (Ze (Zc (Zc (Zd (Za rfl rfl (Zm (v := Value.pointer (some ⟨i, 0, none⟩)) rfl rfl (Za rfl rfl (Exec.nilCheck_ptr rfl rfl (Za rfl rfl (Zp F88_1 rfl rfl rfl (Za rfl rfl (Zn (hS) A27 rfl rfl rfl (Za rfl rfl (Exec.len_arr ((hS).f1) S27 rfl rfl (Za rfl rfl (Zm (v := Vi (0)) rfl rfl (Zb (Ze ?_)))))))))))))))))))))))))))))
 obtain ⟨aU, bA, hm⟩ := Zg hm
 refine W_block (W_forS (fun k' s' f' w' => (fun (aU : (List Bound)) => ∃ (bs : PHeap) (aj : Value), PHeap.le s bs ∧ St w0 bs (Res.box i 88 [ac, ad, ae, af, j, l, m] :: Res.arr encLaunch 56 j d.launches :: Res.arr encschedule_happening 118 l d.starts :: Res.arr encschedule_happening 118 m d.ends :: Res.arr encBound 49 aj aU :: H) w' ∧ f' 0 = Value.pointer (some ⟨i, 0, none⟩) ∧ f' 3 = aj ∧ f' 12 = j ∧ f' 13 = Vi ((d.launches.length : Int)) ∧ f' 14 = Vi (k' : Int)) s') bA ?_ ?_ ?_)
 ·have bM := hS.nilArr encBound 49
  exact ⟨s, (Value.slice none 0 0), (Zv _), ((((bM).f4).f4).f4).f4, rfl, rfl, rfl, rfl, rfl⟩
 ·intro a aU d5 ej eJ ch bD a1
  obtain ⟨bt, aj, aq, aR, bk, cw, bl, bm, aP⟩ := bD
  refine Zc (Zd (Za rfl rfl (Zq rfl aP bm (Zb (Ze (Zc (W_true (Zx (decide_eq_true (by omega))) (W_skip (Ze (Zc (W_block (Zc (Zd (Za rfl rfl (Zm (v := Vi ((a : Int))) rfl aP ?_)))))))))))))))
  obtain ⟨o, aH, a1⟩ := Zg a1
  obtain ⟨eu, dS, ba⟩ := ((aR).f1).arr_at aH
  refine Za rfl rfl (Exec.index_slice S27 rfl (Eq.trans bl ba) aP (idx_some aH).1 (idx_some aH).2.1 (Za rfl rfl (Exec.load_arr (F := encLaunch) ((aR).f1) ba A56 rfl rfl rfl aH (Sub.refl _) ?_)))
  intro eC dq
  obtain rfl := encLaunch_val.1 dq
  refine Za rfl rfl (Exec.alloc (cs := [Vi (0), Vi (0)]) aR Z56 rfl rfl ?_)
  intro y eK bN
  refine Za rfl rfl (Zo (v := Vi ((a : Int))) rfl rfl (Za rfl rfl (Exec.store_box (ds := [Vi (o.At), Vi (o.Job)]) (es := [Vi (o.At), Vi (o.Job)]) bN A56 rfl rfl rfl rfl (Zj rfl (Zj rfl one_nil)) (Nat.le_of_ble_eq_true rfl) rfl ?_)))
  intro eL av
  refine Zb (Ze (Zc (Zd (Za rfl rfl (Zm (v := Value.pointer (some ⟨i, 0, none⟩)) rfl bk (Za rfl rfl (Exec.nilCheck_ptr rfl rfl (Za rfl rfl (Zp F88_1 rfl rfl rfl (Za rfl rfl (Zn ((av).f1) A27 rfl rfl rfl (Za rfl rfl (Exec.len_arr ((av).f2) S27 rfl rfl (Za rfl rfl (Zm (v := Vi (0)) rfl rfl (Zb (Ze ?_)))))))))))))))))
  obtain ⟨aS, bB, a1⟩ := Zg a1
  refine W_block (W_forS (fun k' s' f' w' => (fun (aS : (List Bound)) => ∃ (bu : PHeap) (ap : Value), PHeap.le bt bu ∧ St w0 bu (Res.box i 88 [ac, ad, ae, af, j, l, m] :: Res.arr encLaunch 56 j d.launches :: Res.arr encschedule_happening 118 l d.starts :: Res.arr encschedule_happening 118 m d.ends :: Res.arr encBound 49 ap aS :: Res.box y 56 [Vi (o.At), Vi (o.Job)] :: H) w' ∧ f' 0 = Value.pointer (some ⟨i, 0, none⟩) ∧ f' 3 = ap ∧ f' 4 = Vi ((a : Int)) ∧ f' 5 = Value.pointer (some ⟨y, 0, none⟩) ∧ f' 12 = j ∧ f' 13 = Vi ((d.launches.length : Int)) ∧ f' 14 = Vi ((a : Int)) ∧ f' 23 = Vi ((d.launches.length : Int)) ∧ f' 24 = Vi (k' : Int)) s') bB ?_ ?_ ?_)
  ·have bO := (av).f5
   exact ⟨bt, aj, (Zv _), ((((bO).f5).f5).f5).f5, bk, cw, rfl, rfl, bl, bm, aP, rfl, rfl⟩
  ·intro x aS bv ek eM bj bE p
   obtain ⟨d6, ap, an, bf, aB, bn, aV, bo, bp, bq, br, aW, aQ⟩ := bE
   refine Zc (Zd (Za rfl rfl (Zq rfl aQ aW (Zb (Ze (Zc (W_true (Zx (decide_eq_true (by omega))) (W_skip (Ze (Zc (W_block (Zc (Zd (Za rfl rfl (Zm (v := Vi ((x : Int))) rfl aQ (Za rfl rfl (Zo (v := Vi ((x : Int))) rfl rfl (Zb (Ze (Zc (Zc (Zd (Za rfl rfl (Zm (v := Vi ((x : Int))) rfl rfl (Za rfl rfl (Zm (v := Vi ((a : Int))) rfl aV (Za rfl rfl (Exec.eql rfl rfl rfl (Zb (Ze ?_))))))))))))))))))))))))))))))
   rcases ite_some p with ⟨ax, p⟩ | ⟨ax, p⟩
   ·refine W_cond_t rfl ax (W_exit (at_exit (ib_here (Ze (Zd (Za rfl rfl (Exec.add rfl aQ rfl (Za rfl rfl (Zm (v := Vi (IntKind.i64.wrap ((x : Int) + 1))) rfl rfl (Zb (Ze ?_)))))))))))
    have dX := Zu p
    subst bv
    exact ⟨d6, ap, an, ((((((bf).f5).f5).f5).f5).f5).f5, aB, bn, aV, bo, bp, bq, br, aW, (Eq.trans rfl (wrap_up bj ((av).f2).arr_le))⟩
   refine W_cond_f rfl ax ?_
   replace ax := Zk ax
   refine W_skip (Ze (Zc (W_dl (n0 := 17) (qs 0 14 (.q 16 (.e 14 [16] (.q 15 .done)))) hmix (by kernel_rfl) (by kernel_rfl) ?_)))
   have ak := bf.drew
   refine DL_q rfl rfl (Zm (v := Value.pointer (some ⟨i, 0, none⟩)) rfl aB ⟨rfl, ?_⟩)
   refine DL_q rfl rfl (Exec.nilCheck_ptr rfl rfl ⟨rfl, ?_⟩)
   refine DL_q rfl rfl (Zp F88_2 rfl rfl rfl ⟨rfl, ?_⟩)
   refine DL_q rfl rfl (Zn (ak) A86 rfl rfl rfl ⟨rfl, ?_⟩)
   refine DL_q rfl rfl (Zm (v := Vi ((x : Int))) rfl rfl ⟨rfl, ?_⟩)
   obtain ⟨h, aI, p⟩ := Zg p
   obtain ⟨ev, dT, bb⟩ := ((ak).f2).arr_at aI
   refine DL_q rfl rfl (Exec.index_slice S86 rfl bb rfl (idx_some aI).1 (idx_some aI).2.1 ⟨rfl, ?_⟩)
   refine DL_q rfl rfl (Exec.load_arr (F := encschedule_happening) ((ak).f2) bb A118 rfl rfl rfl aI (Sub.refl _) ?_)
   intro eD dr
   obtain rfl := encschedule_happening_val.1 dr
   refine ⟨rfl, ?_⟩
   refine DL_q rfl rfl (Zm (v := Value.pointer (some ⟨i, 0, none⟩)) rfl aB ⟨rfl, ?_⟩)
   refine DL_q rfl rfl (Exec.nilCheck_ptr rfl rfl ⟨rfl, ?_⟩)
   refine DL_q rfl rfl (Zp F88_3 rfl rfl rfl ⟨rfl, ?_⟩)
   refine DL_q rfl rfl (Zn (ak) A86 rfl rfl rfl ⟨rfl, ?_⟩)
   refine DL_q rfl rfl (Zm (v := Vi ((x : Int))) rfl rfl ⟨rfl, ?_⟩)
   obtain ⟨g, aJ, p⟩ := Zg p
   obtain ⟨ew, dU, bc⟩ := ((ak).f3).arr_at aJ
   refine DL_q rfl rfl (Exec.index_slice S86 rfl bc rfl (idx_some aJ).1 (idx_some aJ).2.1 ⟨rfl, ?_⟩)
   refine DL_q rfl rfl (Exec.load_arr (F := encschedule_happening) ((ak).f3) bc A118 rfl rfl rfl aJ (Sub.refl _) ?_)
   intro eE dt
   obtain rfl := encschedule_happening_val.1 dt
   refine ⟨rfl, ?_⟩
   refine DL_q rfl rfl (Zm (v := Vi (0)) rfl rfl ⟨rfl, ?_⟩)
   refine DL_e rfl rfl (Exec.buildSlice (Te := 118) (cs := [Vi (h.point), Vi (h.at_), Vi (h.job), Value.bool (h.end_), Vi (g.point), Vi (g.at_), Vi (g.job), Value.bool (g.end_)]) ak rfl (parts_cons (c := [Vi (h.point), Vi (h.at_), Vi (h.job), Value.bool (h.end_)]) (cells_of rfl rfl) (parts_cons (c := [Vi (g.point), Vi (g.at_), Vi (g.job), Value.bool (g.end_)]) (cells_of rfl rfl) parts_nil)) (fun _ => by kernel_rfl) ?_)
   intro a9 eN bP
   refine ⟨(ag_cons (ag_r rfl rfl (Zm (v := Vi (0)) rfl rfl ⟨rfl, rfl⟩)) ag_nil), ?_⟩
   have bQ := St.boxArr (E := encschedule_happening) (xs := [h, g]) bP ⟨[Vi (h.point), Vi (h.at_), Vi (h.job), Value.bool (h.end_)], [Vi (g.point), Vi (g.at_), Vi (g.job), Value.bool (g.end_)], rfl, ⟨[Vi (h.point)], [Vi (h.at_), Vi (h.job), Value.bool (h.end_)], rfl, rfl, ⟨[Vi (h.at_)], [Vi (h.job), Value.bool (h.end_)], rfl, rfl, ⟨[Vi (h.job)], [Value.bool (h.end_)], rfl, rfl, rfl⟩⟩⟩, ⟨[Vi (g.point), Vi (g.at_), Vi (g.job), Value.bool (g.end_)], [], rfl, ⟨[Vi (g.point)], [Vi (g.at_), Vi (g.job), Value.bool (g.end_)], rfl, rfl, ⟨[Vi (g.at_)], [Vi (g.job), Value.bool (g.end_)], rfl, rfl, ⟨[Vi (g.job)], [Value.bool (g.end_)], rfl, rfl, rfl⟩⟩⟩, rfl⟩⟩ (by simp [maxLen])
   obtain ⟨bw, ar, bR, aX⟩ := bQ.freezeArr
   refine DL_q rfl rfl (Zr S86 rfl rfl aX ⟨rfl, ?_⟩)
   refine DL_done (Zb (Ze ?_))
   obtain ⟨aT, bC, p⟩ := Zg p
   refine W_block (W_forS (fun k' s' f' w' => (fun (aT : (List Bound)) => ∃ (bx : PHeap) (n : Value), PHeap.le bw bx ∧ St w0 bx (Res.box i 88 [ac, ad, ae, af, j, l, m] :: Res.arr encLaunch 56 j d.launches :: Res.arr encschedule_happening 118 l d.starts :: Res.arr encschedule_happening 118 m d.ends :: Res.arr encBound 49 n aT :: Res.box y 56 [Vi (o.At), Vi (o.Job)] :: H) w' ∧ f' 0 = Value.pointer (some ⟨i, 0, none⟩) ∧ f' 3 = n ∧ f' 4 = Vi ((a : Int)) ∧ f' 5 = Value.pointer (some ⟨y, 0, none⟩) ∧ f' 12 = j ∧ f' 13 = Vi ((d.launches.length : Int)) ∧ f' 14 = Vi ((a : Int)) ∧ f' 23 = Vi ((d.launches.length : Int)) ∧ f' 24 = Vi ((x : Int)) ∧ f' 44 = Value.slice (some ⟨a9, 0, none⟩) 2 2 ∧ f' 45 = Vi (([h, g].length : Int)) ∧ f' 46 = Vi (k' : Int)) s') bC ?_ ?_ ?_)
   ·have bS := (bR).f5
    exact ⟨bw, ap, (Zv _), (((((bS).f5).f5).f5).f5).f5, aB, bn, aV, bo, bp, bq, br, aW, aQ, rfl, rfl, rfl⟩
   ·intro aA aT d7 el eO ci bF aa
    obtain ⟨e8, n, ao, bg, ah, z, ai, a5, aC, aD, aE, aF, aG, a6, a7, au⟩ := bF
    refine Zc (Zd (Za rfl rfl (Zq rfl au a7 (Zb (Ze (Zc (W_true (Zx (decide_eq_true (by omega))) (W_skip (Ze (Zc (W_block (Zc (Zd ?_)))))))))))))
    obtain ⟨b, du, aa⟩ := Zg aa
    refine Za rfl rfl (Exec.index_rep S86 rfl a6 au (aX.mono ao) du ?_)
    intro dN e1 b8
    refine Za rfl rfl (Zw (E := encschedule_happening) bg A118 rfl rfl rfl b8 ?_)
    intro eF dv
    obtain rfl := encschedule_happening_val.1 dv
    refine Za rfl rfl (Exec.alloc (cs := [Vi (0), Vi (0), Vi (0), Value.bool (false)]) bg Z118 rfl rfl ?_)
    intro dO eP bT
    refine Za rfl rfl (Exec.store_box (ds := [Vi (b.point), Vi (b.at_), Vi (b.job), Value.bool (b.end_)]) (es := [Vi (b.point), Vi (b.at_), Vi (b.job), Value.bool (b.end_)]) bT A118 rfl rfl rfl rfl (Zj rfl (Zj rfl (Zj rfl (Zj rfl one_nil)))) (Nat.le_of_ble_eq_true rfl) rfl ?_)
    intro eQ aw
    refine Zb (Ze (W_block (Zc (W_dl (n0 := 15) (qs 0 12 (.e 12 [] (.q 13 (.q 14 .done)))) hmix (by kernel_rfl) (by kernel_rfl) (DL_q rfl rfl (Zm (v := Value.pointer (some ⟨i, 0, none⟩)) rfl ah ⟨rfl, ?_⟩))))))
    refine DL_q rfl rfl (Exec.load_box_agg (ds := [Vi (b.point), Vi (b.at_), Vi (b.job), Value.bool (b.end_)]) (aw.drew) A118 rfl rfl rfl ⟨rfl, ?_⟩)
    refine DL_q rfl rfl (Zm (v := Value.pointer (some ⟨i, 0, none⟩)) rfl ah ⟨rfl, ?_⟩)
    refine DL_q rfl rfl (Exec.nilCheck_ptr rfl rfl ⟨rfl, ?_⟩)
    refine DL_q rfl rfl (Zp F88_0 rfl rfl rfl ⟨rfl, ?_⟩)
    refine DL_q rfl rfl (Zp F26_3 rfl rfl rfl ⟨rfl, ?_⟩)
    refine DL_q rfl rfl (Zn ((aw.drew).f1) A24 rfl rfl rfl ⟨rfl, ?_⟩)
    refine DL_q rfl rfl (Zp F56_1 rfl a5 rfl ⟨rfl, ?_⟩)
    refine DL_q rfl rfl (Zn ((aw.drew).f6) A3 rfl rfl rfl ⟨rfl, ?_⟩)
    obtain ⟨fg, dw, aa⟩ := Zg aa
    refine DL_q rfl rfl (Exec.index_repE S24 rfl rfl rfl (aZ.mono (Zt (Zt (Zt aq an) ar) ao)) dw ?_)
    intro dP e2 b9 dY
    refine ⟨rfl, ?_⟩
    refine DL_q rfl rfl (Zp F63_3 rfl rfl rfl ⟨rfl, ?_⟩)
    refine DL_q rfl rfl (Zw (E := (encSlice encFact)) aw.drew A23 rfl rfl rfl (b9.sub (Sub.iso (Sub.snd (Sub.snd (Sub.snd (Sub.fst (Sub.refl _)) rfl) rfl) rfl)) rfl) ?_)
    intro eG dx
    have d3 := encSlice_val.1 dx
    refine ⟨rfl, ?_⟩
    obtain ⟨dM, dy, aa⟩ := Zg aa
    refine DL_e rfl rfl (Tc rfl rfl rfl (Zi rfl (Zi rfl (Zi rfl args_nil))) (schedule_plan_writes_sim dy ((((aw.drew).f4).f4).f4).f4 (b5.mono (Zt (Zt (Zt aq an) ar) ao)) (b6.mono (Zt (Zt (Zt aq an) ar) ao)) (b7.mono (Zt (Zt (Zt aq an) ar) ao)) (aZ.mono (Zt (Zt (Zt aq an) ar) ao)) d3).r ?_)
    rintro _ eR ⟨a8, cj, ag, rfl⟩
    refine ⟨ag_nil, ?_⟩
    refine DL_q rfl rfl (Exec.not rfl rfl ⟨rfl, ?_⟩)
    refine DL_q rfl rfl (Zo (v := Value.bool (!dM)) rfl rfl ⟨rfl, ?_⟩)
    refine DL_done (Zb (Ze ?_))
    obtain ⟨a2, ab, aa⟩ := Zg aa
    refine W_mid (M := fun f' w' => (fun (a2 : (List Bound)) => ∃ (bz : PHeap) (aM : Value), PHeap.le a8 bz ∧ St w0 bz (Res.box i 88 [ac, ad, ae, af, j, l, m] :: Res.arr encLaunch 56 j d.launches :: Res.arr encschedule_happening 118 l d.starts :: Res.arr encschedule_happening 118 m d.ends :: Res.arr encBound 49 aM a2 :: Res.box y 56 [Vi (o.At), Vi (o.Job)] :: H) w' ∧ f' 0 = Value.pointer (some ⟨i, 0, none⟩) ∧ f' 3 = aM ∧ f' 4 = Vi ((a : Int)) ∧ f' 5 = Value.pointer (some ⟨y, 0, none⟩) ∧ f' 12 = j ∧ f' 13 = Vi ((d.launches.length : Int)) ∧ f' 14 = Vi ((a : Int)) ∧ f' 23 = Vi ((d.launches.length : Int)) ∧ f' 24 = Vi ((x : Int)) ∧ f' 44 = Value.slice (some ⟨a9, 0, none⟩) 2 2 ∧ f' 45 = Vi (([h, g].length : Int)) ∧ f' 46 = Vi ((aA : Int))) a2) ?_ ?_
    ·rcases ite_some ab with ⟨ay, ab⟩ | ⟨ay, ab⟩
     ·refine W_cond_t rfl ay (W_skip (Ze ?_))
      have dZ := Zu ab
      subst a2
      exact ⟨a8, n, (Zv _), ((((((((ag).f4).drop).f5).f5).f5).f5).f5).f5, ah, z, ai, a5, aC, aD, aE, aF, aG, a6, a7, au⟩
     refine W_cond_f rfl ay ?_
     replace ay := Zk ay
     refine Zc (W_dl (n0 := 12) (qs 0 12 .done) hmix (by kernel_rfl) (by kernel_rfl) (DL_q rfl rfl (Zp F118_1 rfl rfl rfl ⟨rfl, ?_⟩)))
     refine DL_q rfl rfl (Zn ((ag.drew).f4) A3 rfl rfl rfl ⟨rfl, ?_⟩)
     refine DL_q rfl rfl (Zm (v := Value.pointer (some ⟨i, 0, none⟩)) rfl ah ⟨rfl, ?_⟩)
     refine DL_q rfl rfl (Exec.nilCheck_ptr rfl rfl ⟨rfl, ?_⟩)
     refine DL_q rfl rfl (Zp F88_2 rfl rfl rfl ⟨rfl, ?_⟩)
     refine DL_q rfl rfl (Zn (ag.drew) A86 rfl rfl rfl ⟨rfl, ?_⟩)
     refine DL_q rfl rfl (Zm (v := Vi ((a : Int))) rfl ai ⟨rfl, ?_⟩)
     obtain ⟨dG, aK, ab⟩ := Zg ab
     obtain ⟨ex, dV, bd⟩ := ((ag.drew).f2).arr_at aK
     refine DL_q rfl rfl (Exec.index_slice S86 rfl bd rfl (idx_some aK).1 (idx_some aK).2.1 ⟨rfl, ?_⟩)
     refine DL_q rfl rfl (Zp F118_1 rfl rfl rfl ⟨rfl, ?_⟩)
     refine DL_q rfl rfl (Exec.load_arr (F := (encInt .i64)) ((ag.drew).f2) bd A3 rfl rfl rfl aK (Sub.iso (Sub.snd (Sub.fst (Sub.refl _)) rfl)) ?_)
     intro eH dz
     obtain rfl := encInt_val.1 dz
     refine ⟨rfl, ?_⟩
     refine DL_q rfl rfl (Exec.leq rfl rfl rfl ⟨rfl, ?_⟩)
     refine DL_q rfl rfl (Zo (v := Value.bool (decide (b.at_ ≤ dG.at_))) rfl rfl ⟨rfl, ?_⟩)
     refine DL_done (Zb (Ze ?_))
     obtain ⟨a3, u, ab⟩ := Zg ab
     refine W_mid (M := fun f' w' => (fun (a3 : (List Bound)) => ∃ (b0 : PHeap) (aN : Value), PHeap.le a8 b0 ∧ St w0 b0 (Res.box i 88 [ac, ad, ae, af, j, l, m] :: Res.arr encLaunch 56 j d.launches :: Res.arr encschedule_happening 118 l d.starts :: Res.arr encschedule_happening 118 m d.ends :: Res.arr encBound 49 aN a3 :: Res.box y 56 [Vi (o.At), Vi (o.Job)] :: H) w' ∧ f' 0 = Value.pointer (some ⟨i, 0, none⟩) ∧ f' 3 = aN ∧ f' 4 = Vi ((a : Int)) ∧ f' 5 = Value.pointer (some ⟨y, 0, none⟩) ∧ f' 12 = j ∧ f' 13 = Vi ((d.launches.length : Int)) ∧ f' 14 = Vi ((a : Int)) ∧ f' 23 = Vi ((d.launches.length : Int)) ∧ f' 24 = Vi ((x : Int)) ∧ f' 44 = Value.slice (some ⟨a9, 0, none⟩) 2 2 ∧ f' 45 = Vi (([h, g].length : Int)) ∧ f' 46 = Vi ((aA : Int))) a3) ?_ ?_
     ·rcases ite_some u with ⟨az, u⟩ | ⟨az, u⟩
      ·refine W_cond_t rfl az (W_dl (n0 := 8) (.q 0 (.q 1 (.q 3 (.q 4 (.e 2 [0, 3, 4] (.e 5 [0] (.e 6 [0] (.e 7 [] .done)))))))) hmix (by kernel_rfl) (by kernel_rfl) (DL_q rfl rfl (Zm (v := n) rfl z ⟨rfl, ?_⟩)))
       refine DL_q rfl rfl (Zm (v := Vi ((a : Int))) rfl ai ⟨rfl, ?_⟩)
       refine DL_q rfl rfl (Zp F118_0 rfl rfl rfl ⟨rfl, ?_⟩)
       refine DL_q rfl rfl (Zn ((ag.drew.drew).f4) A3 rfl rfl rfl ⟨rfl, ?_⟩)
       refine DL_e rfl rfl (Tc rfl rfl rfl (Zi rfl args_nil) (schedule_start_sim (schedule_start_tot (a : Int)) ag.drew.drew ).r ?_)
       rintro _ eS ⟨e9, ck, bh, rfl⟩
       refine ⟨(ag_cons (ag_r rfl rfl (Zm (v := n) rfl z ⟨rfl, rfl⟩)) (ag_cons (ag_r rfl rfl (Zp F118_0 rfl rfl rfl ⟨rfl, rfl⟩)) (ag_cons (ag_r rfl rfl (Zn ((bh).f4) A3 rfl rfl rfl ⟨rfl, rfl⟩)) ag_nil))), ?_⟩
       refine DL_e rfl rfl (Tc rfl rfl rfl (Zi rfl (Zi rfl (Zi rfl args_nil))) (schedule_after_sim (schedule_after_tot (schedule_start_t (a : Int)) b.point 0) bh ).r ?_)
       rintro _ eT ⟨d8, cl, bU, rfl⟩
       refine ⟨(ag_cons (ag_r rfl rfl (Zm (v := n) rfl z ⟨rfl, rfl⟩)) ag_nil), ?_⟩
       refine DL_e rfl rfl (Exec.buildSlice (Te := 49) (cs := [Vi ((schedule_after_t (schedule_start_t (a : Int)) b.point 0).A), Vi ((schedule_after_t (schedule_start_t (a : Int)) b.point 0).B), Vi ((schedule_after_t (schedule_start_t (a : Int)) b.point 0).Most)]) bU rfl (parts_cons (c := [Vi ((schedule_after_t (schedule_start_t (a : Int)) b.point 0).A), Vi ((schedule_after_t (schedule_start_t (a : Int)) b.point 0).B), Vi ((schedule_after_t (schedule_start_t (a : Int)) b.point 0).Most)]) (cells_of rfl rfl) parts_nil) (fun _ => by kernel_rfl) ?_)
       intro dQ eU bV
       refine ⟨(ag_cons (ag_r rfl rfl (Zm (v := n) rfl z ⟨rfl, rfl⟩)) ag_nil), ?_⟩
       obtain ⟨ez, d0, u⟩ := Zg u
       refine DL_e rfl rfl (Exec.append_box (E := encBound) (ys := [(schedule_after_t (schedule_start_t (a : Int)) b.point 0)]) (bV).f6 S42 Z49 rfl (by decide) rfl rfl rfl rfl ⟨[Vi ((schedule_after_t (schedule_start_t (a : Int)) b.point 0).A), Vi ((schedule_after_t (schedule_start_t (a : Int)) b.point 0).B), Vi ((schedule_after_t (schedule_start_t (a : Int)) b.point 0).Most)], [], rfl, ⟨[Vi ((schedule_after_t (schedule_start_t (a : Int)) b.point 0).A)], [Vi ((schedule_after_t (schedule_start_t (a : Int)) b.point 0).B), Vi ((schedule_after_t (schedule_start_t (a : Int)) b.point 0).Most)], rfl, rfl, ⟨[Vi ((schedule_after_t (schedule_start_t (a : Int)) b.point 0).B)], [Vi ((schedule_after_t (schedule_start_t (a : Int)) b.point 0).Most)], rfl, rfl, rfl⟩⟩, rfl⟩ rfl d0 ?_)
       intro b3 eV bW
       refine ⟨ag_nil, ?_⟩
       refine DL_done (Za rfl rfl (Zo (v := b3) rfl rfl (Zb (Ze ?_))))
       have ea := Zu u
       subst a3
       exact ⟨d8, b3, (Zt ck cl), ((((((((bW).f5).drop).f5).f1).f5).f5).f5).f5, ah, rfl, ai, a5, aC, aD, aE, aF, aG, a6, a7, au⟩
      refine W_cond_f rfl az ?_
      replace az := Zk az
      refine Zc (W_dl (n0 := 12) (qs 0 12 .done) hmix (by kernel_rfl) (by kernel_rfl) ?_)
      have al := ag.drew.drew
      refine DL_q rfl rfl (Zp F118_1 rfl rfl rfl ⟨rfl, ?_⟩)
      refine DL_q rfl rfl (Zn ((al).f4) A3 rfl rfl rfl ⟨rfl, ?_⟩)
      refine DL_q rfl rfl (Zm (v := Value.pointer (some ⟨i, 0, none⟩)) rfl ah ⟨rfl, ?_⟩)
      refine DL_q rfl rfl (Exec.nilCheck_ptr rfl rfl ⟨rfl, ?_⟩)
      refine DL_q rfl rfl (Zp F88_3 rfl rfl rfl ⟨rfl, ?_⟩)
      refine DL_q rfl rfl (Zn (al) A86 rfl rfl rfl ⟨rfl, ?_⟩)
      refine DL_q rfl rfl (Zm (v := Vi ((a : Int))) rfl ai ⟨rfl, ?_⟩)
      obtain ⟨dH, aL, u⟩ := Zg u
      obtain ⟨ey, dW, be⟩ := ((al).f3).arr_at aL
      refine DL_q rfl rfl (Exec.index_slice S86 rfl be rfl (idx_some aL).1 (idx_some aL).2.1 ⟨rfl, ?_⟩)
      refine DL_q rfl rfl (Zp F118_1 rfl rfl rfl ⟨rfl, ?_⟩)
      refine DL_q rfl rfl (Exec.load_arr (F := (encInt .i64)) ((al).f3) be A3 rfl rfl rfl aL (Sub.iso (Sub.snd (Sub.fst (Sub.refl _)) rfl)) ?_)
      intro eI d1
      obtain rfl := encInt_val.1 d1
      refine ⟨rfl, ?_⟩
      refine DL_q rfl rfl (Exec.geq rfl rfl rfl ⟨rfl, ?_⟩)
      refine DL_q rfl rfl (Zo (v := Value.bool (decide (dH.at_ ≤ b.at_))) rfl rfl ⟨rfl, ?_⟩)
      refine DL_done (Zb (Ze ?_))
      obtain ⟨a4, am, u⟩ := Zg u
      refine W_mid (M := fun f' w' => (fun (a4 : (List Bound)) => ∃ (b1 : PHeap) (aO : Value), PHeap.le a8 b1 ∧ St w0 b1 (Res.box i 88 [ac, ad, ae, af, j, l, m] :: Res.arr encLaunch 56 j d.launches :: Res.arr encschedule_happening 118 l d.starts :: Res.arr encschedule_happening 118 m d.ends :: Res.arr encBound 49 aO a4 :: Res.box y 56 [Vi (o.At), Vi (o.Job)] :: H) w' ∧ f' 0 = Value.pointer (some ⟨i, 0, none⟩) ∧ f' 3 = aO ∧ f' 4 = Vi ((a : Int)) ∧ f' 5 = Value.pointer (some ⟨y, 0, none⟩) ∧ f' 12 = j ∧ f' 13 = Vi ((d.launches.length : Int)) ∧ f' 14 = Vi ((a : Int)) ∧ f' 23 = Vi ((d.launches.length : Int)) ∧ f' 24 = Vi ((x : Int)) ∧ f' 44 = Value.slice (some ⟨a9, 0, none⟩) 2 2 ∧ f' 45 = Vi (([h, g].length : Int)) ∧ f' 46 = Vi ((aA : Int))) a4) ?_ ?_
      ·rcases ite_some am with ⟨a0, am⟩ | ⟨a0, am⟩
       ·refine W_cond_t rfl a0 (W_dl (n0 := 8) (qs 0 4 (.e 4 [0, 1, 2] (.e 5 [0] (.e 6 [0] (.e 7 [] .done))))) hmix (by kernel_rfl) (by kernel_rfl) (DL_q rfl rfl (Zm (v := n) rfl z ⟨rfl, ?_⟩)))
        refine DL_q rfl rfl (Zp F118_0 rfl rfl rfl ⟨rfl, ?_⟩)
        refine DL_q rfl rfl (Zn ((al.drew).f4) A3 rfl rfl rfl ⟨rfl, ?_⟩)
        refine DL_q rfl rfl (Zm (v := Vi ((a : Int))) rfl ai ⟨rfl, ?_⟩)
        refine DL_e rfl rfl (Tc rfl rfl rfl (Zi rfl args_nil) (schedule_end_sim (schedule_end_tot (a : Int)) al.drew ).r ?_)
        rintro _ eW ⟨eA, cm, bi, rfl⟩
        refine ⟨(ag_cons (ag_r rfl rfl (Zm (v := n) rfl z ⟨rfl, rfl⟩)) (ag_cons (ag_r rfl rfl (Zp F118_0 rfl rfl rfl ⟨rfl, rfl⟩)) (ag_cons (ag_r rfl rfl (Zn ((bi).f4) A3 rfl rfl rfl ⟨rfl, rfl⟩)) ag_nil))), ?_⟩
        refine DL_e rfl rfl (Tc rfl rfl rfl (Zi rfl (Zi rfl (Zi rfl args_nil))) (schedule_after_sim (schedule_after_tot b.point (schedule_end_t (a : Int)) 0) bi ).r ?_)
        rintro _ eX ⟨d9, cn, bX, rfl⟩
        refine ⟨(ag_cons (ag_r rfl rfl (Zm (v := n) rfl z ⟨rfl, rfl⟩)) ag_nil), ?_⟩
        refine DL_e rfl rfl (Exec.buildSlice (Te := 49) (cs := [Vi ((schedule_after_t b.point (schedule_end_t (a : Int)) 0).A), Vi ((schedule_after_t b.point (schedule_end_t (a : Int)) 0).B), Vi ((schedule_after_t b.point (schedule_end_t (a : Int)) 0).Most)]) bX rfl (parts_cons (c := [Vi ((schedule_after_t b.point (schedule_end_t (a : Int)) 0).A), Vi ((schedule_after_t b.point (schedule_end_t (a : Int)) 0).B), Vi ((schedule_after_t b.point (schedule_end_t (a : Int)) 0).Most)]) (cells_of rfl rfl) parts_nil) (fun _ => by kernel_rfl) ?_)
        intro dR eY bY
        refine ⟨(ag_cons (ag_r rfl rfl (Zm (v := n) rfl z ⟨rfl, rfl⟩)) ag_nil), ?_⟩
        obtain ⟨e0, d2, am⟩ := Zg am
        refine DL_e rfl rfl (Exec.append_box (E := encBound) (ys := [(schedule_after_t b.point (schedule_end_t (a : Int)) 0)]) (bY).f6 S42 Z49 rfl (by decide) rfl rfl rfl rfl ⟨[Vi ((schedule_after_t b.point (schedule_end_t (a : Int)) 0).A), Vi ((schedule_after_t b.point (schedule_end_t (a : Int)) 0).B), Vi ((schedule_after_t b.point (schedule_end_t (a : Int)) 0).Most)], [], rfl, ⟨[Vi ((schedule_after_t b.point (schedule_end_t (a : Int)) 0).A)], [Vi ((schedule_after_t b.point (schedule_end_t (a : Int)) 0).B), Vi ((schedule_after_t b.point (schedule_end_t (a : Int)) 0).Most)], rfl, rfl, ⟨[Vi ((schedule_after_t b.point (schedule_end_t (a : Int)) 0).B)], [Vi ((schedule_after_t b.point (schedule_end_t (a : Int)) 0).Most)], rfl, rfl, rfl⟩⟩, rfl⟩ rfl d2 ?_)
        intro b4 eZ bZ
        refine ⟨ag_nil, ?_⟩
        refine DL_done (Za rfl rfl (Zo (v := b4) rfl rfl (Zb (Ze ?_))))
        have eb := Zu am
        subst a4
        exact ⟨d9, b4, (Zt cm cn), ((((((((bZ).f5).drop).f5).f1).f5).f5).f5).f5, ah, rfl, ai, a5, aC, aD, aE, aF, aG, a6, a7, au⟩
       refine W_cond_f rfl a0 ?_
       replace a0 := Zk a0
       refine W_skip (Ze ?_)
       have ec := Zu am
       subst a4
       exact ⟨a8, n, (Zv _), ((((((((al).f4).drop).f5).f5).f5).f5).f5).f5, ah, z, ai, a5, aC, aD, aE, aF, aG, a6, a7, au⟩
      intro em fa bJ
      obtain ⟨dA, aO, co, ca, cx, cy, cz, c0, c1, c2, c3, c4, c5, c6, c7, c8⟩ := bJ
      refine (Ze ?_)
      have ed := Zu u
      subst a3
      exact ⟨dA, aO, co, ((((((ca).f5).f5).f5).f5).f5).f5, cx, cy, cz, c0, c1, c2, c3, c4, c5, c6, c7, c8⟩
     intro en fb bK
     obtain ⟨dB, aN, cp, cb, c9, cA, cB, cC, cD, cE, cF, cG, cH, cI, cJ, cK⟩ := bK
     refine (Ze ?_)
     have ee := Zu ab
     subst a2
     exact ⟨dB, aN, cp, ((((((cb).f5).f5).f5).f5).f5).f5, c9, cA, cB, cC, cD, cE, cF, cG, cH, cI, cJ, cK⟩
    intro eo fc bL
    obtain ⟨dC, aM, cq, cc, cL, cM, cN, cO, cP, cQ, cR, cS, cT, cU, cV, cW⟩ := bL
    refine (ib_normal (ib_normal (Ze (Zd (Za rfl rfl (Exec.add rfl cW rfl (Za rfl rfl (Zm (v := Vi (IntKind.i64.wrap ((aA : Int) + 1))) rfl rfl (Zb (Ze ?_))))))))))
    have ef := Zu aa
    subst d7
    exact ⟨dC, aM, (Zt (Zt ao cj) cq), ((((((cc).f5).f5).f5).f5).f5).f5, cL, cM, cN, cO, cP, cQ, cR, cS, cT, cU, cV, (Eq.trans rfl (wrap_up ci (SliceRep.le aX)))⟩
   intro ep fd bG
   obtain ⟨dD, n, cr, cd, cX, cY, cZ, da, db, dc, dd, de, df, e3, dg, dI⟩ := bG
   refine Zc (Zd (Za rfl rfl (Zq rfl dI dg (Zb (Ze (Zc (W_false (Zx (decide_eq_false (by omega))) (W_exit (at_exit (at_exit (ib_here (ib_normal (Ze (Zd (Za rfl rfl (Exec.add rfl df rfl (Za rfl rfl (Zm (v := Vi (IntKind.i64.wrap ((x : Int) + 1))) rfl rfl (Zb (Ze ?_))))))))))))))))))))
   have eg := Zu p
   subst bv
   exact ⟨dD, n, (Zt (Zt an ar) cr), ((((((cd).f5).f5).f5).f5).f5).f5, cX, cY, cZ, da, db, dc, dd, de, (Eq.trans rfl (wrap_up bj ((av).f2).arr_le))⟩
  intro er fe bH
  obtain ⟨dE, ap, ct, ce, dh, di, e4, e5, dj, dk, dl, dm, dJ⟩ := bH
  refine Zc (Zd (Za rfl rfl (Zq rfl dJ dm (Zb (Ze (Zc (W_false (Zx (decide_eq_false (by omega))) (W_exit (at_exit (at_exit (ib_here (ib_normal (Ze (Zd (Za rfl rfl (Exec.add rfl dl rfl (Za rfl rfl (Zm (v := Vi (IntKind.i64.wrap ((a : Int) + 1))) rfl rfl (Zb (Ze ?_))))))))))))))))))))
  have eh := Zu a1
  subst d5
  exact ⟨dE, ap, (Zt aq ct), (((((((ce).f5).drop).f4).f4).f4).f4).f4, dh, di, dj, dk, (Eq.trans rfl (wrap_up ch ((hS).f1).arr_le))⟩
 intro et ff bI
 obtain ⟨eB, aj, cu, cf, e6, dn, e7, dp, dK⟩ := bI
 refine Zc (Zd (Za rfl rfl (Zq rfl dK dp (Zb (Ze (Zc (W_false (Zx (decide_eq_false (by omega))) (W_exit (at_exit (at_exit (ib_here (Ze (Zc (Zd (Za rfl rfl (Zm (v := aj) rfl dn (Za rfl rfl (Zo (v := aj) rfl rfl (Zb (Ze (W_ret ?_)))))))))))))))))))))
 have ei := Zu hm
 subst r
 refine ⟨_, ret1 rfl, ?_⟩
 obtain ⟨dF, cv, cg, d4⟩ := (cf).f4.freezeArr
 exact ⟨dF, aj, (Zt cu cv), ((((cg).f3).f3).f3).f3, rfl, d4⟩
theorem schedule_plan_repeats_sim {w0 w : World} {s : PHeap} {H : List Res} {d : schedule_plan} {j : Nat} {x : Value} {y : Value} {z : Value} {aa : Value} {i : Value} {l : Value} {m : Value} {r : (List Bound)} (hm : schedule_plan_repeats_p d = some r) (hS : St w0 s (Res.box j 88 [x, y, z, aa, i, l, m] :: Res.arr encLaunch 56 i d.launches :: Res.arr encschedule_happening 118 l d.starts :: Res.arr encschedule_happening 118 m d.ends :: H) w) (b3 : SliceRep (encInt .i64) s x d.t.Vars) (b4 : SliceRep (encInt .i64) s y d.t.Init) (b5 : SliceRep encFact s z d.t.Goal) (b6 : SliceRep encJob s aa d.t.Jobs) :
  Calls Tryz.prog 65 #[Value.pointer (some ⟨j, 0, none⟩)] w fun e w' => ∃ v, e = .returned v ∧ ((fun (b2 : (List Bound)) => ∃ (ax : PHeap) (aD : Value), PHeap.le s ax ∧ St w0 ax (Res.box j 88 [x, y, z, aa, i, l, m] :: Res.arr encLaunch 56 i d.launches :: Res.arr encschedule_happening 118 l d.starts :: Res.arr encschedule_happening 118 m d.ends :: H) w' ∧ v = aD ∧ SliceRep encBound ax aD b2) r) := by
 unfold schedule_plan_repeats_p at hm
 refine calls_of_W Tryz.func65 rfl rfl (Zc (Zd (Za rfl rfl (Zo (v := Value.slice none 0 0) rfl rfl (Zb (Ze (Zc (Zd (Za rfl rfl (Zo (v := Value.slice none 0 0) rfl rfl (Zb (Ze (Zc (Zc (Zd (Za rfl rfl (Zm (v := Value.pointer (some ⟨j, 0, none⟩)) rfl rfl (Za rfl rfl (Exec.nilCheck_ptr rfl rfl (Za rfl rfl (Zp F88_1 rfl rfl rfl (Za rfl rfl (Zn (hS) A27 rfl rfl rfl (Za rfl rfl (Exec.len_arr ((hS).f1) S27 rfl rfl (Za rfl rfl (Zm (v := Vi (0)) rfl rfl (Zb (Ze ?_)))))))))))))))))))))))))))))
 obtain ⟨aq, aF, hm⟩ := Zg hm
 refine W_block (W_forS (fun k' s' f' w' => (fun (aq : (List Bound)) => ∃ (a9 : PHeap) (n : Value), PHeap.le s a9 ∧ St w0 a9 (Res.box j 88 [x, y, z, aa, i, l, m] :: Res.arr encLaunch 56 i d.launches :: Res.arr encschedule_happening 118 l d.starts :: Res.arr encschedule_happening 118 m d.ends :: Res.arr encBound 49 n aq :: H) w' ∧ f' 0 = Value.pointer (some ⟨j, 0, none⟩) ∧ f' 3 = n ∧ f' 10 = i ∧ f' 11 = Vi ((d.launches.length : Int)) ∧ f' 12 = Vi (k' : Int)) s') aF ?_ ?_ ?_)
 ·have aL := hS.nilArr encBound 49
  exact ⟨s, (Value.slice none 0 0), (Zv _), ((((aL).f4).f4).f4).f4, rfl, rfl, rfl, rfl, rfl⟩
 ·intro a aq bu bF bX aY aH p
  obtain ⟨ay, n, ba, ao, bh, bi, a7, a8, am⟩ := aH
  refine Zc (Zd (Za rfl rfl (Zq rfl am a8 (Zb (Ze (Zc (W_true (Zx (decide_eq_true (by omega))) (W_skip (Ze (Zc (W_block (Zc (Zd (Za rfl rfl (Zm (v := Vi ((a : Int))) rfl am ?_)))))))))))))))
  obtain ⟨o, aj, p⟩ := Zg p
  obtain ⟨bJ, b8, a0⟩ := ((ao).f1).arr_at aj
  refine Za rfl rfl (Exec.index_slice S27 rfl (Eq.trans a7 a0) am (idx_some aj).1 (idx_some aj).2.1 (Za rfl rfl (Exec.load_arr (F := encLaunch) ((ao).f1) a0 A56 rfl rfl rfl aj (Sub.refl _) ?_)))
  intro bV bq
  obtain rfl := encLaunch_val.1 bq
  refine Za rfl rfl (Exec.alloc (cs := [Vi (0), Vi (0)]) ao Z56 rfl rfl ?_)
  intro af bY aM
  refine Za rfl rfl (Zo (v := Vi ((a : Int))) rfl rfl (Za rfl rfl (Exec.store_box (ds := [Vi (o.At), Vi (o.Job)]) (es := [Vi (o.At), Vi (o.Job)]) aM A56 rfl rfl rfl rfl (Zj rfl (Zj rfl one_nil)) (Nat.le_of_ble_eq_true rfl) rfl ?_)))
  intro bZ aN
  refine Zb (Ze (Zc (Zd (Za rfl rfl (Zm (v := Vi ((a : Int))) rfl rfl (Za rfl rfl (Exec.add rfl rfl rfl (Za rfl rfl (Zo (v := Vi (IntKind.i64.wrap ((a : Int) + 1))) rfl rfl (Zb (Ze ?_)))))))))))
  obtain ⟨az, aG, bL, aZ, aX⟩ := ctl_some p
  refine W_mid (M := fun f' w' => ∃ s', (az = .next s' ∨ az = .brk s') ∧ (un2 fun (a4 : Int) (a5 : (List Bound)) => ∃ (aA : PHeap) (al : Value), PHeap.le ay aA ∧ St w0 aA (Res.box j 88 [x, y, z, aa, i, l, m] :: Res.arr encLaunch 56 i d.launches :: Res.arr encschedule_happening 118 l d.starts :: Res.arr encschedule_happening 118 m d.ends :: Res.arr encBound 49 al a5 :: Res.box af 56 [Vi (o.At), Vi (o.Job)] :: H) w' ∧ f' 0 = Value.pointer (some ⟨j, 0, none⟩) ∧ f' 3 = al ∧ f' 4 = Vi ((a : Int)) ∧ f' 5 = Value.pointer (some ⟨af, 0, none⟩) ∧ f' 6 = Vi (a4) ∧ f' 10 = i ∧ f' 11 = Vi ((d.launches.length : Int)) ∧ f' 12 = Vi ((a : Int))) s') ?_ ?_
  ·refine W_block (W_while (fun s' f' w' => (un2 fun (b : Int) (a6 : (List Bound)) => ∃ (aB : PHeap) (ab : Value), PHeap.le ay aB ∧ St w0 aB (Res.box j 88 [x, y, z, aa, i, l, m] :: Res.arr encLaunch 56 i d.launches :: Res.arr encschedule_happening 118 l d.starts :: Res.arr encschedule_happening 118 m d.ends :: Res.arr encBound 49 ab a6 :: Res.box af 56 [Vi (o.At), Vi (o.Job)] :: H) w' ∧ f' 0 = Value.pointer (some ⟨j, 0, none⟩) ∧ f' 3 = ab ∧ f' 4 = Vi ((a : Int)) ∧ f' 5 = Value.pointer (some ⟨af, 0, none⟩) ∧ f' 6 = Vi (b) ∧ f' 10 = i ∧ f' 11 = Vi ((d.launches.length : Int)) ∧ f' 12 = Vi ((a : Int))) s') aG ?_ ?_)
   ·have aO := (aN).f5
    exact ⟨ay, n, (Zv _), ((((aO).f5).f5).f5).f5, bh, bi, rfl, rfl, rfl, a7, a8, am⟩
   intro bz an bG ca aI g a3
   obtain ⟨b, a6⟩ := bz
   replace g := un2_eq g
   obtain ⟨aC, ab, ap, ag, ae, ar, ah, ai, u, au, av, aw⟩ := aI
   refine Zc (Zc (Zd (Za rfl rfl (Zm (v := Vi (b)) rfl u (Za rfl rfl (Zm (v := Value.pointer (some ⟨j, 0, none⟩)) rfl ae (Za rfl rfl (Exec.nilCheck_ptr rfl rfl (Za rfl rfl (Zp F88_1 rfl rfl rfl (Za rfl rfl (Zn (ag) A27 rfl rfl rfl (Za rfl rfl (Exec.len_arr ((ag).f1) S27 rfl rfl (Za rfl rfl (Zq rfl rfl rfl (Zb (Ze ?_))))))))))))))))))
   rcases ite_some g with ⟨ac, g⟩ | ⟨ac, g⟩
   ·refine W_cond_t rfl ac (W_skip (Ze (Zc (W_block (Zc (W_dl (n0 := 11) (qs 0 11 .done) hmix (by kernel_rfl) (by kernel_rfl) ?_))))))
    have q := ag.drew
    refine DL_q rfl rfl (Zm (v := Value.pointer (some ⟨j, 0, none⟩)) rfl ae ⟨rfl, ?_⟩)
    refine DL_q rfl rfl (Exec.nilCheck_ptr rfl rfl ⟨rfl, ?_⟩)
    refine DL_q rfl rfl (Zp F88_1 rfl rfl rfl ⟨rfl, ?_⟩)
    refine DL_q rfl rfl (Zn (q) A27 rfl rfl rfl ⟨rfl, ?_⟩)
    refine DL_q rfl rfl (Zm (v := Vi (b)) rfl u ⟨rfl, ?_⟩)
    obtain ⟨ci, ak, g⟩ := Zg g
    obtain ⟨bK, b9, a1⟩ := ((q).f1).arr_at ak
    refine DL_q rfl rfl (Exec.index_slice S27 rfl a1 rfl (idx_some ak).1 (idx_some ak).2.1 ⟨rfl, ?_⟩)
    refine DL_q rfl rfl (Zp F56_1 rfl rfl rfl ⟨rfl, ?_⟩)
    refine DL_q rfl rfl (Exec.load_arr (F := (encInt .i64)) ((q).f1) a1 A3 rfl rfl rfl ak (Sub.iso (Sub.snd (Sub.refl _) rfl)) ?_)
    intro bW br
    obtain rfl := encInt_val.1 br
    refine ⟨rfl, ?_⟩
    refine DL_q rfl rfl (Zp F56_1 rfl ai rfl ⟨rfl, ?_⟩)
    refine DL_q rfl rfl (Zn ((q).f5) A3 rfl rfl rfl ⟨rfl, ?_⟩)
    refine DL_q rfl rfl (Exec.eql rfl rfl rfl ⟨rfl, ?_⟩)
    refine DL_done (Zb (Ze ?_))
    rcases ite_some g with ⟨ad, g⟩ | ⟨ad, g⟩
    ·refine W_cond_t rfl ad (Zc (Zd (Za rfl rfl (Zm (v := ab) rfl ar (Za rfl rfl (Zm (v := Vi (b)) rfl u (Za rfl rfl (Tc rfl rfl rfl (Zi rfl args_nil) (schedule_start_sim (schedule_start_tot b) q ).r ?_))))))))
     rintro _ cb ⟨bS, bb, aP, rfl⟩
     refine Za rfl rfl (Zm (v := Vi ((a : Int))) rfl ah (Za rfl rfl (Tc rfl rfl rfl (Zi rfl args_nil) (schedule_end_sim (schedule_end_tot (a : Int)) aP ).r ?_)))
     rintro _ cc ⟨bT, bc, aQ, rfl⟩
     refine Za rfl rfl (Tc rfl rfl rfl (Zi rfl (Zi rfl (Zi rfl args_nil))) (schedule_after_sim (schedule_after_tot (schedule_start_t b) (schedule_end_t (a : Int)) 1) aQ ).r ?_)
     rintro _ cd ⟨bv, bd, aR, rfl⟩
     refine Za rfl rfl (Exec.buildSlice (Te := 49) (cs := [Vi ((schedule_after_t (schedule_start_t b) (schedule_end_t (a : Int)) 1).A), Vi ((schedule_after_t (schedule_start_t b) (schedule_end_t (a : Int)) 1).B), Vi ((schedule_after_t (schedule_start_t b) (schedule_end_t (a : Int)) 1).Most)]) aR rfl (parts_cons (c := [Vi ((schedule_after_t (schedule_start_t b) (schedule_end_t (a : Int)) 1).A), Vi ((schedule_after_t (schedule_start_t b) (schedule_end_t (a : Int)) 1).B), Vi ((schedule_after_t (schedule_start_t b) (schedule_end_t (a : Int)) 1).Most)]) (cells_of rfl rfl) parts_nil) (fun _ => by kernel_rfl) ?_)
     intro b7 ce aS
     obtain ⟨bM, bs, g⟩ := Zg g
     refine Za rfl rfl (Exec.append_box (E := encBound) (ys := [(schedule_after_t (schedule_start_t b) (schedule_end_t (a : Int)) 1)]) (aS).f5 S42 Z49 rfl (by decide) rfl rfl rfl rfl ⟨[Vi ((schedule_after_t (schedule_start_t b) (schedule_end_t (a : Int)) 1).A), Vi ((schedule_after_t (schedule_start_t b) (schedule_end_t (a : Int)) 1).B), Vi ((schedule_after_t (schedule_start_t b) (schedule_end_t (a : Int)) 1).Most)], [], rfl, ⟨[Vi ((schedule_after_t (schedule_start_t b) (schedule_end_t (a : Int)) 1).A)], [Vi ((schedule_after_t (schedule_start_t b) (schedule_end_t (a : Int)) 1).B), Vi ((schedule_after_t (schedule_start_t b) (schedule_end_t (a : Int)) 1).Most)], rfl, rfl, ⟨[Vi ((schedule_after_t (schedule_start_t b) (schedule_end_t (a : Int)) 1).B)], [Vi ((schedule_after_t (schedule_start_t b) (schedule_end_t (a : Int)) 1).Most)], rfl, rfl, rfl⟩⟩, rfl⟩ rfl bs ?_)
     intro aE cf aT
     refine Za rfl rfl (Zo (v := aE) rfl rfl (Zb (Ze (W_exit (ib_exit rfl (at_exit (at_exit (ib_here (Ze ?_)))))))))
     have bA := Zu g
     subst an
     refine ⟨_, .inr (a3 (by intro _ h; cases h)), ?_⟩; exact ⟨bv, aE, (Zt (Zt (Zt ap bb) bc) bd), ((((((aT).f5).f1).f5).f5).f5).f5, ae, rfl, ah, ai, u, au, av, aw⟩
    refine W_cond_f rfl ad ?_
    replace ad := Zk ad
    refine W_skip (ib_normal (Ze (Zd (Za rfl rfl (Zm (v := Vi (b)) rfl u (Za rfl rfl (Exec.add rfl rfl rfl (Za rfl rfl (Zo (v := Vi (IntKind.i64.wrap (b + 1))) rfl rfl (Zb (Ze ?_)))))))))))
    have bB := Zu g
    subst an
    refine ⟨_, rfl, ?_⟩; exact ⟨aC, ab, ap, ((((((q).f5).f5).f5).f5).f5).f5, ae, ar, ah, ai, rfl, au, av, aw⟩
   refine W_cond_f rfl ac ?_
   replace ac := Zk ac
   refine W_exit (at_exit (at_exit (ib_here (Ze ?_))))
   have bC := Zu g
   subst an
   refine ⟨_, .inr (a3 (by intro _ h; cases h)), ?_⟩; exact ⟨aC, ab, ap, ((((((ag).f5).f5).f5).f5).f5).f5, ae, ar, ah, ai, u, au, av, aw⟩
  rintro bH cg ⟨b0, a2, aK⟩
  have p := a2.elim (aZ _) (aX _)
  clear a2
  obtain ⟨a4, a5⟩ := b0
  replace p := un2_eq p
  obtain ⟨bw, al, be, aU, bj, bk, bN, bO, bP, bl, bm, bn⟩ := aK
  refine (ib_normal (Ze (Zd (Za rfl rfl (Exec.add rfl bn rfl (Za rfl rfl (Zm (v := Vi (IntKind.i64.wrap ((a : Int) + 1))) rfl rfl (Zb (Ze ?_)))))))))
  have bD := Zu p
  subst bu
  exact ⟨bw, al, (Zt ba be), (((((((aU).f5).drop).f4).f4).f4).f4).f4, bj, bk, bl, bm, (Eq.trans rfl (wrap_up aY ((hS).f1).arr_le))⟩
 intro bI ch aJ
 obtain ⟨bU, n, bf, aV, bQ, bo, bR, bp, b1⟩ := aJ
 refine Zc (Zd (Za rfl rfl (Zq rfl b1 bp (Zb (Ze (Zc (W_false (Zx (decide_eq_false (by omega))) (W_exit (at_exit (at_exit (ib_here (Ze (Zc (Zd (Za rfl rfl (Zm (v := n) rfl bo (Za rfl rfl (Zo (v := n) rfl rfl (Zb (Ze (W_ret ?_)))))))))))))))))))))
 have bE := Zu hm
 subst r
 refine ⟨_, ret1 rfl, ?_⟩
 obtain ⟨bx, bg, aW, bt⟩ := (aV).f4.freezeArr
 exact ⟨bx, n, (Zt bf bg), ((((aW).f3).f3).f3).f3, rfl, bt⟩
theorem schedule_plan_bounds_sim {w0 w : World} {s : PHeap} {H : List Res} {b : schedule_plan} {d : Nat} {u : Value} {x : Value} {y : Value} {z : Value} {m : Value} {n : Value} {o : Value} {r : (List Bound) × (Option Int)} (hm : schedule_plan_bounds_p b = some r) (hS : St w0 s (Res.box d 88 [u, x, y, z, m, n, o] :: Res.arr encLaunch 56 m b.launches :: Res.arr encschedule_happening 118 n b.starts :: Res.arr encschedule_happening 118 o b.ends :: H) w) (i : SliceRep (encInt .i64) s u b.t.Vars) (j : SliceRep (encInt .i64) s x b.t.Init) (k : SliceRep encFact s y b.t.Goal) (l : SliceRep encJob s z b.t.Jobs) :
  Calls Tryz.prog 39 #[Value.pointer (some ⟨d, 0, none⟩)] w fun e w' => ∃ v, e = .returned v ∧ ((un2 fun (a3 : (List Bound)) (a4 : (Option Int)) => ∃ (q : PHeap) (ab : Value), PHeap.le s q ∧ St w0 q (Res.box d 88 [u, x, y, z, m, n, o] :: Res.arr encLaunch 56 m b.launches :: Res.arr encschedule_happening 118 n b.starts :: Res.arr encschedule_happening 118 o b.ends :: H) w' ∧ v = Value.tuple #[ab, errV 60 (a4)] ∧ SliceRep encBound q ab a3) r) := by
 unfold schedule_plan_bounds_p at hm
 refine calls_of_W Tryz.func39 rfl rfl (Zc (Zd (Za rfl rfl (Zo (v := Value.slice none 0 0) rfl rfl (Za rfl rfl (Zo (v := errV 60 (none)) rfl rfl (Zb (Ze (Zc (Zd (Za rfl rfl (Zm (v := Value.pointer (some ⟨d, 0, none⟩)) rfl rfl ?_))))))))))))
 obtain ⟨a2, an, hm⟩ := Zg hm
 obtain ⟨a5, f⟩ := a2
 replace hm := un2_eq hm
 refine Za rfl rfl (Tc rfl rfl rfl (Zi rfl args_nil) (schedule_plan_orders_sim an ((((hS).f3).f3).f3).f3 i j k l).r ?_)
 rintro _ aK ⟨a0, p, a, aa, rfl, aw⟩
 refine Za rfl rfl (Zm (v := Value.tuple #[p, errV 60 (f)]) rfl rfl (Za rfl rfl (Exec.extract (v := p) rfl rfl rfl (Za rfl rfl (Exec.extract (v := errV 60 (f)) rfl rfl rfl (Za rfl rfl (Zo (v := p) rfl rfl (Za rfl rfl (Zo (v := errV 60 (f)) rfl rfl (Zb (Ze (Zc (Zc (Zd (Za rfl rfl (Zm (v := errV 60 (f)) rfl rfl (Za rfl rfl (Exec.err_neq_nil (T := 60) Tryz.underlying31 rfl rfl rfl (Zb (Ze ?_))))))))))))))))))))
 rcases ite_some hm with ⟨g, hm⟩ | ⟨g, hm⟩
 ·refine W_cond_t rfl g (Zc (Zd (Za rfl rfl (Zm (v := errV 60 (f)) rfl rfl (Za rfl rfl (Zo (v := Value.slice none 0 0) rfl rfl (Za rfl rfl (Zo (v := errV 60 (f)) rfl rfl (Zb (Ze (W_ret (at_ret ?_))))))))))))
  have a8 := Zu hm
  subst r
  refine ⟨_, ret2 rfl, ?_⟩
  exact ⟨a0, (Value.slice none 0 0), a, ((((aa).f3).f3).f3).f3, (tup2 rfl rfl), (SliceRep.nil _ _)⟩
 refine W_cond_f rfl g ?_
 replace g := Zk g
 refine W_skip (Ze (Zc (Zd (Za rfl rfl (Zm (v := Value.pointer (some ⟨d, 0, none⟩)) rfl rfl ?_)))))
 obtain ⟨aR, ao, hm⟩ := Zg hm
 refine Za rfl rfl (Tc rfl rfl rfl (Zi rfl args_nil) (schedule_plan_durations_sim ao ((((aa).f3).f3).f3).f3 (i.mono a) (j.mono a) (k.mono a) (l.mono a)).r ?_)
 rintro aG aL ⟨aD, _, c, ae, rfl⟩
 refine Za rfl rfl (Zm (v := p) rfl rfl ?_)
 obtain ⟨aA, ap, hm⟩ := Zg hm
 refine Za rfl rfl (Exec.append_rep (E := encBound) (ys := a5) (ae).f4 S42 Z49 rfl (by decide) rfl rfl rfl (aw.mono c) ap ?_)
 intro ac aM af
 refine Za rfl rfl (Zo (v := ac) rfl rfl (Zb (Ze (Zc (Zd (Za rfl rfl (Zm (v := ac) rfl rfl (Za rfl rfl (Zm (v := Value.pointer (some ⟨d, 0, none⟩)) rfl rfl ?_)))))))))
 obtain ⟨a6, aq, hm⟩ := Zg hm
 refine Za rfl rfl (Tc rfl rfl rfl (Zi rfl args_nil) (schedule_plan_overs_sim aq ((((af).f4).f4).f4).f4 (i.mono (Zt a c)) (j.mono (Zt a c)) (k.mono (Zt a c)) (l.mono (Zt a c))).r ?_)
 rintro aH aN ⟨aE, _, h, ag, rfl, ax⟩
 obtain ⟨aB, ar, hm⟩ := Zg hm
 refine Za rfl rfl (Exec.append_rep (E := encBound) (ys := a6) (ag).f4 S42 Z49 rfl (by decide) rfl rfl rfl ax ar ?_)
 intro aI aO ah
 refine Za rfl rfl (Zm (v := Value.pointer (some ⟨d, 0, none⟩)) rfl rfl ?_)
 obtain ⟨a7, au, hm⟩ := Zg hm
 refine Za rfl rfl (Tc rfl rfl rfl (Zi rfl args_nil) (schedule_plan_repeats_sim au ((((ah).f4).f4).f4).f4 (i.mono (Zt (Zt a c) h)) (j.mono (Zt (Zt a c) h)) (k.mono (Zt (Zt a c) h)) (l.mono (Zt (Zt a c) h))).r ?_)
 rintro aJ aP ⟨aF, _, al, ai, rfl, ay⟩
 obtain ⟨aC, av, hm⟩ := Zg hm
 refine Za rfl rfl (Exec.append_rep (E := encBound) (ys := a7) (ai).f4 S42 Z49 rfl (by decide) rfl rfl rfl ay av ?_)
 intro ad aQ aj
 refine Za rfl rfl (Zo (v := ad) rfl rfl (Za rfl rfl (Zo (v := errV 60 (none)) rfl rfl (Zb (Ze (W_ret ?_))))))
 have a9 := Zu hm
 subst r
 refine ⟨_, ret2 rfl, ?_⟩
 obtain ⟨a1, am, ak, az⟩ := aj.freezeArr
 exact ⟨a1, ad, (Zt (Zt (Zt (Zt a c) h) al) am), ((((ak).f3).f3).f3).f3, (tup2 rfl rfl), az⟩
theorem F101_0 : tyField Tryz.prog 101 0 = some 0 := by kernel_rfl
theorem A79 : tyAgg Tryz.prog 79 = some (false, 1) := by kernel_rfl
theorem S79 : tySlice Tryz.prog 79 = some (22, 1, 24) := by kernel_rfl
theorem Z22 : tyZero Tryz.prog 22 = some (Value.slice none 0 0) := by kernel_rfl
theorem stn_New_sim {w0 w : World} {s : PHeap} {H : List Res} {a : Int}  {r : (Option stn_Network) × (Option Int)} (hm : stn_New_p a = some r) (hS : St w0 s (H) w)  :
  Calls Tryz.prog 45 #[Vi (a)] w fun e w' => ∃ v, e = .returned v ∧ ((un2 fun (a6 : (Option stn_Network)) (aG : (Option Int)) => (∃ aq : stn_Network, a6 = some aq ∧ ∃ (a8 : PHeap) (ap : Nat) (aF : Value) (av : List Value), PHeap.le s a8 ∧ St w0 a8 (Res.box ap 101 [aF] :: Res.arr encRaw 22 aF av :: Res.rows (encInt .i64) 3 av aq.d :: H) w' ∧ v = Value.tuple #[Value.pointer (some ⟨ap, 0, none⟩), errV 60 (aG)]) ∨ (a6 = none ∧ ∃ (a9 : PHeap) , PHeap.le s a9 ∧ St w0 a9 (H) w' ∧ v = Value.tuple #[Value.pointer none, errV 60 (aG)])) r) := by
 unfold stn_New_p at hm
 refine calls_of_W Tryz.func45 rfl rfl (Zc (Zd (Za rfl rfl (Zo (v := Value.pointer none) rfl rfl (Za rfl rfl (Zo (v := errV 60 (none)) rfl rfl (Zb (Ze (Zc (Zc (W_mid (M := fun f' w' => ∃ (aA : PHeap) , PHeap.le s aA ∧ St w0 aA (H) w' ∧ f' 0 = Vi (a) ∧ f' 13 = Value.bool (((decide (a < 1)) || decide (128 < a)))) ?_ ?_)))))))))))
 ·refine Zd (Za rfl rfl (Zm (v := Vi (a)) rfl rfl (Za rfl rfl (Zq rfl rfl rfl (Za rfl rfl (Zm (v := Value.bool (decide (a < 1))) rfl rfl ?_))))))
  by_cases m : (decide (a < 1)) = true
  ·refine WL_passes 3 (by rw [m]; rfl) ?_
   refine Zb (Ze ?_)
   exact ⟨s, (Zv _), hS, rfl, (Zx (or_t m)).symm⟩
  replace m := Zk m
  refine WL_run rfl (Zf rfl (Zx m)) rfl (Zm (v := Vi (a)) rfl rfl (WL_run rfl (Zf rfl (Zx m)) rfl (Exec.gtr rfl rfl rfl (Za rfl rfl (Exec.pick_f (v := Value.bool (decide (128 < a))) rfl (Zx m) rfl (Zb (Ze ?_)))))))
  exact ⟨s, (Zv _), hS, rfl, (Zx (or_f m)).symm⟩
 intro bF bR aN
 obtain ⟨al, aw, au, ay, az⟩ := aN
 refine (Ze ?_)
 rcases ite_some hm with ⟨q, hm⟩ | ⟨q, hm⟩
 ·refine W_cond_t az q (Zc (Zd (Za rfl rfl (Exec.makeInterface C60 rfl rfl (Za rfl rfl (Zo (v := Value.pointer none) rfl rfl (Za rfl rfl (Zo (v := errV 60 (some 1)) rfl rfl (Zb (Ze (W_ret (at_ret ?_))))))))))))
  have b9 := Zu hm
  subst r
  refine ⟨_, ret2 rfl, ?_⟩
  refine (Or.inr ⟨rfl, ?_⟩); exact ⟨al, aw, au, (tup2 rfl rfl)⟩
 refine W_cond_f az q ?_
 replace q := Zk q
 refine W_skip (Ze (Zc (Zd (Za rfl rfl (Exec.build rfl parts_nil (v := Value.agg #[Value.slice none 0 0]) (fun _ => by kernel_rfl) (Za rfl rfl (Exec.box (cs := [Value.slice none 0 0]) au rfl rfl rfl ?_)))))))
 intro b bS aP
 refine Za rfl rfl (Zo (v := Value.pointer (some ⟨b, 0, none⟩)) rfl rfl (Zb (Ze (Zc (Zc (Zd (Za rfl rfl (Zm (v := Vi (a)) rfl ay (Za rfl rfl (Zm (v := Vi (0)) rfl rfl (Zb (Ze ?_))))))))))))
 obtain ⟨bQ, bw, hm⟩ := Zg hm
 obtain ⟨x, aH, hm⟩ := Zg hm
 refine W_block (W_forS (fun k' s' f' w' => (fun (x : (List (List Int))) => ∃ (aB : PHeap) (l : Value) (i : List Value), PHeap.le al aB ∧ St w0 aB (Res.box b 101 [l] :: Res.arr encRaw 22 l i :: Res.rows (encInt .i64) 3 i x :: H) w' ∧ f' 0 = Vi (a) ∧ f' 4 = Value.pointer (some ⟨b, 0, none⟩) ∧ f' 17 = Vi (a) ∧ f' 18 = Vi (k' : Int)) s') aH ?_ ?_ ?_)
 ·have aQ := (aP.rows_nil (encInt .i64) 3).nilArr encRaw 22
  exact ⟨al, (Value.slice none 0 0), [], (Zv _), (aQ).f2, ay, rfl, rfl, rfl⟩
 ·intro n x b0 bG bT aZ aJ o
  obtain ⟨aC, l, i, bb, aR, a0, bg, a1, ao⟩ := aJ
  refine Zc (Zd (Za rfl rfl (Zq rfl ao a1 (Zb (Ze (Zc (W_true (Zx (decide_eq_true (by omega))) (W_skip (Ze (Zc (W_block (Zc (Zd (Za rfl rfl (Zm (v := Vi ((n : Int))) rfl ao (Za rfl rfl (Zo (v := Vi ((n : Int))) rfl rfl (Zb (Ze (Zc (Zd (Za rfl rfl (Zm (v := Vi (a)) rfl a0 ?_)))))))))))))))))))))))
  obtain ⟨ax, bx, o⟩ := Zg o
  refine Za rfl rfl (Exec.make (E := (encInt .i64)) aR S22 Z3 rfl rfl rfl rfl bx ?_)
  intro g bU aa
  refine Za rfl rfl (Zo (v := g) rfl rfl (Zb (Ze (Zc (Zc (Zd (Za rfl rfl (Zm (v := g) rfl rfl (Za rfl rfl (Exec.len_arr (aa) S22 rfl rfl (Za rfl rfl (Zm (v := Vi (0)) rfl rfl (Zb (Ze ?_))))))))))))))
  obtain ⟨af, aI, o⟩ := Zg o
  refine W_block (W_forS (fun k' s' f' w' => (fun (af : (List Int)) => ∃ (aD : PHeap) , PHeap.le aC aD ∧ St w0 aD (Res.box b 101 [l] :: Res.arr (encInt .i64) 3 g af :: Res.arr encRaw 22 l i :: Res.rows (encInt .i64) 3 i x :: H) w' ∧ f' 0 = Vi (a) ∧ f' 4 = Value.pointer (some ⟨b, 0, none⟩) ∧ f' 5 = Vi ((n : Int)) ∧ f' 6 = g ∧ f' 17 = Vi (a) ∧ f' 18 = Vi ((n : Int)) ∧ f' 24 = Vi ((ax.length : Int)) ∧ f' 25 = Vi (k' : Int)) s') aI ?_ ?_ ?_)
  ·have aS := ((aa).f3).f3
   exact ⟨aC, (Zv _), ((aS).f2).f3, a0, bg, rfl, rfl, a1, ao, rfl, rfl⟩
  ·intro p af b1 bH bV ba aK ae
   obtain ⟨am, bc, ab, a2, a3, ag, ah, a4, a5, ai, z⟩ := aK
   refine Zc (Zd (Za rfl rfl (Zq rfl z ai (Zb (Ze (Zc (W_true (Zx (decide_eq_true (by omega))) (W_skip (Ze (Zc (W_block (Zc (Zd (Za rfl rfl (Zm (v := Vi ((p : Int))) rfl z (Za rfl rfl (Zo (v := Vi ((p : Int))) rfl rfl (Zb (Ze (Zc (Zd (Za rfl rfl (Zm (v := Vi ((p : Int))) rfl rfl (Za rfl rfl (Zm (v := Vi ((n : Int))) rfl ag (Za rfl rfl (Exec.neq rfl rfl rfl (Zb (Ze ?_)))))))))))))))))))))))))))))
   obtain ⟨u, j, ae⟩ := Zg ae
   refine W_mid (M := fun f' w' => (fun (u : (List Int)) => ∃ (aE : PHeap) , PHeap.le am aE ∧ St w0 aE (Res.box b 101 [l] :: Res.arr (encInt .i64) 3 g u :: Res.arr encRaw 22 l i :: Res.rows (encInt .i64) 3 i x :: H) w' ∧ f' 0 = Vi (a) ∧ f' 4 = Value.pointer (some ⟨b, 0, none⟩) ∧ f' 5 = Vi ((n : Int)) ∧ f' 6 = g ∧ f' 17 = Vi (a) ∧ f' 18 = Vi ((n : Int)) ∧ f' 24 = Vi ((ax.length : Int)) ∧ f' 25 = Vi ((p : Int))) u) ?_ ?_
   ·rcases ite_some j with ⟨t, j⟩ | ⟨t, j⟩
    ·refine W_cond_t rfl t (Zd (Za rfl rfl (Zm (v := g) rfl ah (Za rfl rfl (Zm (v := Vi ((p : Int))) rfl rfl ?_)))))
     obtain ⟨cd, ak, j⟩ := Zg j
     obtain ⟨bL, b8, ar⟩ := ((ab).f1).arr_at ak
     refine Za rfl rfl (Exec.index_slice S22 rfl ar rfl (idx_some ak).1 (idx_some ak).2.1 ?_)
     obtain ⟨bM, bz, j⟩ := Zg j
     refine Za rfl rfl (Exec.store_arr (ab).f1 ar A3 rfl rfl rfl rfl (encInt_val.2 rfl) bz ?_)
     intro bW aT
     refine Zb (Ze ?_)
     have bA := Zu j
     subst u
     exact ⟨am, (Zv _), ((((aT).f3).f3).f2).f3, a2, a3, ag, ah, a4, a5, ai, z⟩
    refine W_cond_f rfl t ?_
    replace t := Zk t
    refine W_skip (Ze ?_)
    have bB := Zu j
    subst u
    exact ⟨am, (Zv _), ((((ab).f3).f3).f3).f3, a2, a3, ag, ah, a4, a5, ai, z⟩
   intro bI bX aO
   obtain ⟨b2, bd, aU, bh, bi, bj, bk, bl, bm, bn, bo⟩ := aO
   refine (ib_normal (Ze (Zd (Za rfl rfl (Exec.add rfl bo rfl (Za rfl rfl (Zm (v := Vi (IntKind.i64.wrap ((p : Int) + 1))) rfl rfl (Zb (Ze ?_)))))))))
   have bC := Zu ae
   subst b1
   exact ⟨b2, (Zt bc bd), ((((aU).f3).f3).f3).f3, bh, bi, bj, bk, bl, bm, bn, (Eq.trans rfl (wrap_up ba (aa).arr_le))⟩
  intro bJ bY aL
  obtain ⟨b3, be, ac, bp, aj, bO, bq, br, bs, bt, b5⟩ := aL
  refine Zc (Zd (Za rfl rfl (Zq rfl b5 bt (Zb (Ze (Zc (W_false (Zx (decide_eq_false (by omega))) (W_exit (at_exit (at_exit (ib_here (Ze (Zd (Za rfl rfl (Zm (v := Value.pointer (some ⟨b, 0, none⟩)) rfl aj (Za rfl rfl (Zm (v := Value.pointer (some ⟨b, 0, none⟩)) rfl aj (Za rfl rfl (Exec.nilCheck_ptr rfl rfl (Za rfl rfl (Zp F101_0 rfl rfl rfl (Za rfl rfl (Zn (ac) A79 rfl rfl rfl (Za rfl rfl (Zm (v := g) rfl bq (Za rfl rfl (Exec.buildSlice (Te := 22) (cs := [g]) ac rfl (parts_cons (c := [g]) (cells_of rfl (cells_one ((ac).f1).arr_one)) parts_nil) (fun _ => by kernel_rfl) ?_)))))))))))))))))))))))))))
  intro b7 bZ aV
  obtain ⟨bN, a7, o⟩ := Zg o
  have ad := ((((((aV).f2).f1).f4).f4).f2).f1
  refine Za rfl rfl (Exec.append_grid (E := encRaw) (ys := [g]) ad S79 Z22 rfl (by decide) rfl rfl rfl rfl (reps_one ⟨rfl, ((ad).f3).arr_one⟩) rfl rfl ((ad).f2).rows_len a7 ?_)
  intro an ca aW
  have y := ((aW).f1.f2.rows_push).f1
  rw [← (app_some a7).2] at y
  refine Za rfl rfl (Exec.nilCheck_ptr rfl rfl (Za rfl rfl (Zp F101_0 rfl rfl rfl (Za rfl rfl (Exec.store_box (ds := [an]) (es := [an]) (y).f2 A79 rfl rfl rfl (cells_one ((((y).f2).f2).f2).arr_one) (Zj ((((y).f2).f2).f2).arr_one one_nil) (Nat.le_of_ble_eq_true rfl) rfl ?_)))))
  intro cb aX
  refine Zb (ib_normal (Ze (Zd (Za rfl rfl (Exec.add rfl bs rfl (Za rfl rfl (Zm (v := Vi (IntKind.i64.wrap ((n : Int) + 1))) rfl rfl (Zb (Ze ?_)))))))))
  have bD := Zu o
  subst b0
  exact ⟨b3, an, (i ++ [g]), (Zt bb be), (((aX).f2).f2).f2, bp, aj, br, (Eq.trans rfl (wrap_up aZ (by have h := must_some bw; simp at h; simp only [maxLen]; omega)))⟩
 intro bK cc aM
 obtain ⟨b4, l, i, bf, aY, bP, bu, bv, b6⟩ := aM
 refine Zc (Zd (Za rfl rfl (Zq rfl b6 bv (Zb (Ze (Zc (W_false (Zx (decide_eq_false (by omega))) (W_exit (at_exit (at_exit (ib_here (Ze (Zc (Zd (Za rfl rfl (Zm (v := Value.pointer (some ⟨b, 0, none⟩)) rfl bu (Za rfl rfl (Zo (v := Value.pointer (some ⟨b, 0, none⟩)) rfl rfl (Za rfl rfl (Zo (v := errV 60 (none)) rfl rfl (Zb (Ze (W_ret ?_)))))))))))))))))))))))
 have bE := Zu hm
 subst r
 refine ⟨_, ret2 rfl, ?_⟩
 refine (Or.inl ⟨_, rfl, ?_⟩); exact ⟨b4, b, l, i, (Zt aw bf), (((aY).f2).f2).f2, (tup2 rfl rfl)⟩
theorem F49_0 : tyField Tryz.prog 49 0 = some 0 := by kernel_rfl
theorem stn_Network_point_sim {w0 w : World} {s : PHeap} {H : List Res} {i : stn_Network} {b : Int} {h : Nat} {g : Value} {c : List Value} {r : Bool} (hm : stn_Network_point_p i b = some r) (hS : St w0 s (Res.box h 101 [g] :: Res.arr encRaw 22 g c :: Res.rows (encInt .i64) 3 c i.d :: H) w)  :
  Calls Tryz.prog 46 #[Value.pointer (some ⟨h, 0, none⟩), Vi (b)] w fun e w' => ∃ v, e = .returned v ∧ ((fun (q : Bool) => ∃ (j : PHeap) , PHeap.le s j ∧ St w0 j (Res.box h 101 [g] :: Res.arr encRaw 22 g c :: Res.rows (encInt .i64) 3 c i.d :: H) w' ∧ v = Value.bool (q)) r) := by
 unfold stn_Network_point_p at hm
 refine calls_of_W Tryz.func46 rfl rfl (Zc (Zd (Za rfl rfl (Zo (v := Value.bool (false)) rfl rfl (Zb (Ze (Zc (W_mid (M := fun f' w' => ∃ (k : PHeap) , PHeap.le s k ∧ St w0 k (Res.box h 101 [g] :: Res.arr encRaw 22 g c :: Res.rows (encInt .i64) 3 c i.d :: H) w' ∧ f' 4 = Value.bool (((decide (0 ≤ b)) && decide (b < (i.d.length : Int))))) ?_ ?_))))))))
 ·refine Zd (Za rfl rfl (Zm (v := Vi (b)) rfl rfl (Za rfl rfl (Exec.geq rfl rfl rfl (Za rfl rfl (Zm (v := Value.bool (decide (0 ≤ b))) rfl rfl ?_))))))
  by_cases a : (decide (0 ≤ b)) = true
  ·refine WL_run rfl (Zf rfl (Zx a)) rfl (Zm (v := Vi (b)) rfl rfl (WL_run rfl (Zf rfl (Zx a)) rfl (Zm (v := Value.pointer (some ⟨h, 0, none⟩)) rfl rfl (WL_run rfl (Zf rfl (Zx a)) rfl (Exec.nilCheck_ptr rfl rfl (WL_run rfl (Zf rfl (Zx a)) rfl (Zp F101_0 rfl rfl rfl (WL_run rfl (Zf rfl (Zx a)) rfl (Zn (hS) A79 rfl rfl rfl (WL_run rfl (Zf rfl (Zx a)) rfl (Exec.len_grid (((hS).f2).f2) (((hS).f2).f2).f1.rows_len S79 rfl rfl (WL_run rfl (Zf rfl (Zx a)) rfl (Zq rfl rfl rfl ?_)))))))))))))
   refine WL_passes 2 (by rw [a]; rfl) ?_
   refine Zb (Ze ?_)
   exact ⟨s, (Zv _), (((hS).f2).f2).f2, (Zx (and_t a)).symm⟩
  replace a := Zk a
  refine WL_passes 9 (by rw [a]; rfl) ?_
  refine Zb (Ze ?_)
  exact ⟨s, (Zv _), (((hS).f2).f2).f2, (Zx (and_f a)).symm⟩
 intro u x l
 obtain ⟨p, n, m, o⟩ := l
 refine (Ze (W_ret ?_))
 have t := Zu hm
 subst r
 refine ⟨_, ret1 rfl, ?_⟩
 exact ⟨p, n, (((m).f2).f2).f2, o⟩
theorem F49_1 : tyField Tryz.prog 49 1 = some 1 := by kernel_rfl
theorem F49_2 : tyField Tryz.prog 49 2 = some 2 := by kernel_rfl
end Go.Pw
