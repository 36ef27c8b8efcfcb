/-
  The walks (printed by my generator).
-/
import Derived.Test.YthbgcahoknmmmaaGreatL29
import Derived.Test.YthbgcahoknmmmaaGreatL27
import Derived.Test.YthbgcahoknmmmaaGreatRz1
import Derived.Test.YthbgcahoknmmmaaGreatRzX
set_option maxRecDepth 100000
set_option maxHeartbeats 4000000
set_option linter.unusedVariables false
namespace Go.Pw
open Go.Proofs
theorem simulate_run_events_sim {w0 w : World} {s : PHeap} {H : List Res} {d : simulate_run} {b : Nat} {x : Value} {y : Value} {z : Value} {aa : Value} {p : Value} {ak : Value} {m : Value} {n : Value} {r : Int × (List simulate_Event)} (hm : simulate_run_events_p d = some r) (hS : St w0 s (Res.box b 70 [x, y, z, aa, p, ak, m, n, Vi (d.out.Makespan)] :: Res.arr encsimulate_Event 49 ak d.out.Events :: Res.arr (encSlice (encInt .i64)) 22 m d.out.States :: Res.arr encsimulate_Problem 52 n d.out.Problems :: H) w) (al : SliceRep (encInt .i64) s x d.t.Vars) (am : SliceRep (encInt .i64) s y d.t.Init) (an : SliceRep encFact s z d.t.Goal) (ao : SliceRep encJob s aa d.t.Jobs) (ac : SliceRep encLaunch s p d.l) :
  Calls Tryz.prog 17 #[Value.pointer (some ⟨b, 0, none⟩)] w fun e w' => ∃ v, e = .returned v ∧ ((un2 fun (aT : Int) (aB : (List simulate_Event)) => ∃ (ay : PHeap) (a0 : Value), PHeap.le s ay ∧ St w0 ay (Res.box b 70 [x, y, z, aa, p, a0, m, n, Vi (aT)] :: Res.arr encsimulate_Event 49 a0 aB :: Res.arr (encSlice (encInt .i64)) 22 m d.out.States :: Res.arr encsimulate_Problem 52 n d.out.Problems :: H) w' ∧ v = Value.tuple #[]) r) := by
 unfold simulate_run_events_p at hm
 refine calls_of_W Tryz.func17 rfl rfl (Zc (Zc (Zd (Za rfl rfl (Zm (v := Value.pointer (some ⟨b, 0, none⟩)) rfl rfl (Za rfl rfl (Exec.nilCheck_ptr rfl rfl (Za rfl rfl (Zp F70_1 rfl rfl rfl (Za rfl rfl (Zn (hS) A27 rfl rfl rfl (Za rfl rfl (Zr S27 rfl rfl ac (Za rfl rfl (Zm (v := Vi (0)) rfl rfl (Zb (Ze ?_)))))))))))))))))
 obtain ⟨aQ, a3, hm⟩ := Zg hm
 refine W_block (W_forS (fun k' s' f' w' => (un2 fun (ab : Int) (aj : (List simulate_Event)) => ∃ (az : PHeap) (ad : Value), PHeap.le s az ∧ St w0 az (Res.box b 70 [x, y, z, aa, p, ad, m, n, Vi (ab)] :: Res.arr encsimulate_Event 49 ad aj :: Res.arr (encSlice (encInt .i64)) 22 m d.out.States :: Res.arr encsimulate_Problem 52 n d.out.Problems :: H) w' ∧ f' 0 = Value.pointer (some ⟨b, 0, none⟩) ∧ f' 7 = p ∧ f' 8 = Vi ((d.l.length : Int)) ∧ f' 9 = Vi (k' : Int)) s') a3 ?_ ?_ ?_)
 ·have a6 := (hS).f3
  exact ⟨s, ak, (Zv _), (((a6).f3).f3).f3, rfl, rfl, rfl, rfl⟩
 ·intro a aR aN aZ bj aA a4 j
  obtain ⟨ab, aj⟩ := aR
  replace j := un2_eq j
  obtain ⟨bf, ad, i, ap, g, aw, ax, af⟩ := a4
  refine Zc (Zd (Za rfl rfl (Zq rfl af ax (Zb (Ze (Zc (W_true (Zx (decide_eq_true (by omega))) (W_skip (Ze (Zc (W_block (Zc (Zd (Za rfl rfl (Zm (v := Vi ((a : Int))) rfl af ?_)))))))))))))))
  obtain ⟨h, aH, j⟩ := Zg j
  refine Za rfl rfl (Exec.index_rep S27 rfl aw af (ac.mono i) aH ?_)
  intro aU bd a2
  refine Za rfl rfl (Zw (E := encLaunch) ap A64 rfl rfl rfl a2 ?_)
  intro bi aI
  obtain rfl := encLaunch_val.1 aI
  refine Za rfl rfl (Exec.alloc (cs := [Vi (0), Vi (0)]) ap Z64 rfl rfl ?_)
  intro aV bk a7
  refine Za rfl rfl (Zo (v := Vi ((a : Int))) rfl rfl (Za rfl rfl (Exec.store_box (ds := [Vi (h.At), Vi (h.Job)]) (es := [Vi (h.At), Vi (h.Job)]) a7 A64 rfl rfl rfl rfl (Zj rfl (Zj rfl one_nil)) (Nat.le_of_ble_eq_true rfl) rfl ?_)))
  intro bl ag
  refine Zb (Ze (Zc (W_dl (n0 := 17) (qs 0 12 (.q 13 (.e 12 [0, 1, 2, 3, 4, 5, 6, 7, 8, 9, 13] (.q 14 (.e 15 [0, 1, 2, 3, 4, 5] (.e 16 [0] .done)))))) hmix (by kernel_rfl) (by kernel_rfl) (DL_q rfl rfl (Zm (v := Value.pointer (some ⟨b, 0, none⟩)) rfl g ⟨rfl, ?_⟩)))))
  refine DL_q rfl rfl (Zm (v := Value.pointer (some ⟨b, 0, none⟩)) rfl g ⟨rfl, ?_⟩)
  refine DL_q rfl rfl (Exec.nilCheck_ptr rfl rfl ⟨rfl, ?_⟩)
  refine DL_q rfl rfl (Zp F70_2 rfl rfl rfl ⟨rfl, ?_⟩)
  refine DL_q rfl rfl (Zp F34_0 rfl rfl rfl ⟨rfl, ?_⟩)
  refine DL_q rfl rfl (Zn ((ag.drew).f1) A30 rfl rfl rfl ⟨rfl, ?_⟩)
  refine DL_q rfl rfl (Zp F64_0 rfl rfl rfl ⟨rfl, ?_⟩)
  refine DL_q rfl rfl (Zn (ag.drew) A3 rfl rfl rfl ⟨rfl, ?_⟩)
  refine DL_q rfl rfl (Zm (v := Vi ((a : Int))) rfl rfl ⟨rfl, ?_⟩)
  refine DL_q rfl rfl (Exec.build rfl (parts_cons (c := [Vi (h.At)]) (cells_of rfl rfl) (parts_cons (c := [Vi ((a : Int))]) (cells_of rfl rfl) parts_nil)) (v := Value.agg #[Vi (h.At), Vi ((a : Int)), Value.bool (false)]) (fun _ => by kernel_rfl) ⟨rfl, ?_⟩)
  refine DL_q rfl rfl (Zm (v := Value.pointer (some ⟨b, 0, none⟩)) rfl g ⟨rfl, ?_⟩)
  refine DL_q rfl rfl (Zm (v := Vi ((a : Int))) rfl rfl ⟨rfl, ?_⟩)
  refine DL_q rfl rfl (Zm (v := Vi ((a : Int))) rfl rfl ⟨rfl, ?_⟩)
  obtain ⟨o, aJ, j⟩ := Zg j
  refine DL_e rfl rfl (Tc rfl rfl rfl (Zi rfl (Zi rfl args_nil)) (simulate_run_end_sim aJ ((((ag.drew).f4).f4).f4).f4 (al.mono i) (am.mono i) (an.mono i) (ao.mono i) (ac.mono i)).r ?_)
  rintro _ bm ⟨bg, u, ah, rfl⟩
  refine ⟨(ag_cons (ag_r rfl rfl (Zm (v := Value.pointer (some ⟨b, 0, none⟩)) rfl g ⟨rfl, rfl⟩)) (ag_cons (ag_r rfl rfl (Zm (v := Value.pointer (some ⟨b, 0, none⟩)) rfl g ⟨rfl, rfl⟩)) (ag_cons (ag_r rfl rfl (Exec.nilCheck_ptr rfl rfl ⟨rfl, rfl⟩)) (ag_cons (ag_r rfl rfl (Zp F70_2 rfl rfl rfl ⟨rfl, rfl⟩)) (ag_cons (ag_r rfl rfl (Zp F34_0 rfl rfl rfl ⟨rfl, rfl⟩)) (ag_cons (ag_r rfl rfl (Zn (ah) A30 rfl rfl rfl ⟨rfl, rfl⟩)) (ag_cons (ag_r rfl rfl (Zp F64_0 rfl rfl rfl ⟨rfl, rfl⟩)) (ag_cons (ag_r rfl rfl (Zn ((ah).f4) A3 rfl rfl rfl ⟨rfl, rfl⟩)) (ag_cons (ag_r rfl rfl (Zm (v := Vi ((a : Int))) rfl rfl ⟨rfl, rfl⟩)) (ag_cons (ag_r rfl rfl (Exec.build rfl (parts_cons (c := [Vi (h.At)]) (cells_of rfl rfl) (parts_cons (c := [Vi ((a : Int))]) (cells_of rfl rfl) parts_nil)) (v := Value.agg #[Vi (h.At), Vi ((a : Int)), Value.bool (false)]) (fun _ => by kernel_rfl) ⟨rfl, rfl⟩)) (ag_cons (ag_r rfl rfl (Zm (v := Vi ((a : Int))) rfl rfl ⟨rfl, rfl⟩)) ag_nil))))))))))), ?_⟩
  refine DL_q rfl rfl (Exec.build rfl (parts_cons (c := [Vi (o)]) (cells_of rfl rfl) (parts_cons (c := [Vi ((a : Int))]) (cells_of rfl rfl) (parts_cons (c := [Value.bool (true)]) (cells_of rfl rfl) parts_nil))) (v := Value.agg #[Vi (o), Vi ((a : Int)), Value.bool (true)]) (fun _ => by kernel_rfl) ⟨rfl, ?_⟩)
  refine DL_e rfl rfl (Exec.buildSlice (Te := 49) (cs := [Vi (h.At), Vi ((a : Int)), Value.bool (false), Vi (o), Vi ((a : Int)), Value.bool (true)]) ah rfl (parts_cons (c := [Vi (h.At), Vi ((a : Int)), Value.bool (false)]) (cells_of rfl rfl) (parts_cons (c := [Vi (o), Vi ((a : Int)), Value.bool (true)]) (cells_of rfl rfl) parts_nil)) (fun _ => by kernel_rfl) ?_)
  intro aW bn aq
  refine ⟨(ag_cons (ag_r rfl rfl (Zm (v := Value.pointer (some ⟨b, 0, none⟩)) rfl g ⟨rfl, rfl⟩)) (ag_cons (ag_r rfl rfl (Zm (v := Value.pointer (some ⟨b, 0, none⟩)) rfl g ⟨rfl, rfl⟩)) (ag_cons (ag_r rfl rfl (Exec.nilCheck_ptr rfl rfl ⟨rfl, rfl⟩)) (ag_cons (ag_r rfl rfl (Zp F70_2 rfl rfl rfl ⟨rfl, rfl⟩)) (ag_cons (ag_r rfl rfl (Zp F34_0 rfl rfl rfl ⟨rfl, rfl⟩)) (ag_cons (ag_r rfl rfl (Zn ((aq).f1) A30 rfl rfl rfl ⟨rfl, rfl⟩)) ag_nil)))))), ?_⟩
  obtain ⟨bb, aK, j⟩ := Zg j
  refine DL_e rfl rfl (Exec.append_box (E := encsimulate_Event) (ys := [(⟨h.At, (a : Int), false⟩ : simulate_Event), (⟨o, (a : Int), true⟩ : simulate_Event)]) (aq).f2 S30 Z49 rfl (by decide) rfl rfl rfl rfl ⟨[Vi (h.At), Vi ((a : Int)), Value.bool (false)], [Vi (o), Vi ((a : Int)), Value.bool (true)], rfl, ⟨[Vi (h.At)], [Vi ((a : Int)), Value.bool (false)], rfl, rfl, ⟨[Vi ((a : Int))], [Value.bool (false)], rfl, rfl, rfl⟩⟩, ⟨[Vi (o), Vi ((a : Int)), Value.bool (true)], [], rfl, ⟨[Vi (o)], [Vi ((a : Int)), Value.bool (true)], rfl, rfl, ⟨[Vi ((a : Int))], [Value.bool (true)], rfl, rfl, rfl⟩⟩, rfl⟩⟩ rfl aK ?_)
  intro ae bo ai
  refine ⟨(ag_cons (ag_r rfl rfl (Zm (v := Value.pointer (some ⟨b, 0, none⟩)) rfl g ⟨rfl, rfl⟩)) ag_nil), ?_⟩
  refine DL_done (Za rfl rfl (Exec.nilCheck_ptr rfl rfl (Za rfl rfl (Zp F70_2 rfl rfl rfl (Za rfl rfl (Zp F34_0 rfl rfl rfl (Za rfl rfl (Exec.store_box (ds := [ae]) (es := [x, y, z, aa, p, ae, m, n, Vi (ab)]) (ai).f1 A30 rfl rfl rfl (cells_one (((ai).f1).f1).arr_one) (Zj (((ai).f1).f1).arr_one one_nil) (Nat.le_of_ble_eq_true rfl) rfl ?_))))))))
  intro bp ar
  refine Zb (Ze (W_dl (n0 := 10) (qs 0 8 (.e 8 [0, 1, 2, 3, 4, 5] (.q 9 .done))) hmix (by kernel_rfl) (by kernel_rfl) (DL_q rfl rfl (Zm (v := Value.pointer (some ⟨b, 0, none⟩)) rfl g ⟨rfl, ?_⟩))))
  refine DL_q rfl rfl (Zm (v := Value.pointer (some ⟨b, 0, none⟩)) rfl g ⟨rfl, ?_⟩)
  refine DL_q rfl rfl (Exec.nilCheck_ptr rfl rfl ⟨rfl, ?_⟩)
  refine DL_q rfl rfl (Zp F70_2 rfl rfl rfl ⟨rfl, ?_⟩)
  refine DL_q rfl rfl (Zp F34_3 rfl rfl rfl ⟨rfl, ?_⟩)
  refine DL_q rfl rfl (Zn (ar.drew) A3 rfl rfl rfl ⟨rfl, ?_⟩)
  refine DL_q rfl rfl (Zm (v := Value.pointer (some ⟨b, 0, none⟩)) rfl g ⟨rfl, ?_⟩)
  refine DL_q rfl rfl (Zm (v := Vi ((a : Int))) rfl rfl ⟨rfl, ?_⟩)
  obtain ⟨a1, aL, j⟩ := Zg j
  refine DL_e rfl rfl (Tc rfl rfl rfl (Zi rfl (Zi rfl args_nil)) (simulate_run_end_sim aL ((((ar.drew).f3).f3).f3).f3 (al.mono (Zt i u)) (am.mono (Zt i u)) (an.mono (Zt i u)) (ao.mono (Zt i u)) (ac.mono (Zt i u))).r ?_)
  rintro _ bq ⟨aO, aC, au, rfl⟩
  refine ⟨(ag_cons (ag_r rfl rfl (Zm (v := Value.pointer (some ⟨b, 0, none⟩)) rfl g ⟨rfl, rfl⟩)) (ag_cons (ag_r rfl rfl (Zm (v := Value.pointer (some ⟨b, 0, none⟩)) rfl g ⟨rfl, rfl⟩)) (ag_cons (ag_r rfl rfl (Exec.nilCheck_ptr rfl rfl ⟨rfl, rfl⟩)) (ag_cons (ag_r rfl rfl (Zp F70_2 rfl rfl rfl ⟨rfl, rfl⟩)) (ag_cons (ag_r rfl rfl (Zp F34_3 rfl rfl rfl ⟨rfl, rfl⟩)) (ag_cons (ag_r rfl rfl (Zn (au) A3 rfl rfl rfl ⟨rfl, rfl⟩)) ag_nil)))))), ?_⟩
  refine DL_q rfl rfl (Exec.max2 rfl rfl rfl ⟨rfl, ?_⟩)
  refine DL_done (Za rfl rfl (Exec.nilCheck_ptr rfl rfl (Za rfl rfl (Zp F70_2 rfl rfl rfl (Za rfl rfl (Zp F34_3 rfl rfl rfl (Za rfl rfl (Exec.store_box (ds := [Vi (max ab a1)]) (es := [x, y, z, aa, p, ae, m, n, Vi (max ab a1)]) au A3 rfl rfl rfl rfl (Zj rfl one_nil) (Nat.le_of_ble_eq_true rfl) rfl ?_))))))))
  intro br a8
  refine Zb (ib_normal (Ze (Zd (Za rfl rfl (Exec.add rfl af rfl (Za rfl rfl (Zm (v := Vi (IntKind.i64.wrap ((a : Int) + 1))) rfl rfl (Zb (Ze ?_)))))))))
  have aX := Zu j
  subst aN
  exact ⟨aO, ae, (Zt (Zt i u) aC), ((((((a8).f4).drop).f3).f3).f3).f3, g, aw, ax, (Eq.trans rfl (wrap_up aA (SliceRep.le ac)))⟩
 intro ba bs a5
 obtain ⟨ab, aj⟩ := aQ
 replace hm := un2_eq hm
 obtain ⟨bh, ad, aD, av, aF, be, aG, aS⟩ := a5
 refine Zc (Zd (Za rfl rfl (Zq rfl aS aG (Zb (Ze (Zc (W_false (Zx (decide_eq_false (by omega))) (W_exit (at_exit (at_exit (ib_here (Ze (Zd (Za rfl rfl (Zm (v := Value.pointer (some ⟨b, 0, none⟩)) rfl aF (Za rfl rfl (Exec.nilCheck_ptr rfl rfl (Za rfl rfl (Zp F70_2 rfl rfl rfl (Za rfl rfl (Zp F34_0 rfl rfl rfl (Za rfl rfl (Zn (av) A30 rfl rfl rfl ?_)))))))))))))))))))))))
 obtain ⟨bc, aM, hm⟩ := Zg hm
 refine Za rfl rfl (Tc rfl rfl rfl (Zi rfl (Zi rfl args_nil)) (sortEvent_sim aM (av).f1 ).r ?_)
 rintro _ bt ⟨aP, aE, a9, rfl⟩
 refine Zb ?_
 have aY := Zu hm
 subst r
 refine ⟨_, retG0 rfl, ?_⟩
 exact ⟨aP, ad, (Zt aD aE), ((((a9).f3).f3).f2).f3, rfl⟩
theorem simulate_run_end_43_sim {w0 w : World} {s : PHeap} {H : List Res} {a : simulate_run} {c : Int} {b : Nat} {g : Value} {h : Value} {i : Value} {j : Value} {k : Value} {m : Value} {d : Value} {f : Value} {r : Int} (hm : simulate_run_end_43_p a c = some r) (hS : St w0 s (Res.box b 70 [g, h, i, j, k, m, d, f, Vi (a.out.Makespan)] :: Res.arr (encSlice (encInt .i64)) 22 d a.out.States :: Res.arr encsimulate_Problem 52 f a.out.Problems :: H) w) (aj : SliceRep (encInt .i64) s g a.t.Vars) (ak : SliceRep (encInt .i64) s h a.t.Init) (al : SliceRep encFact s i a.t.Goal) (x : SliceRep encJob s j a.t.Jobs) (o : SliceRep encLaunch s k a.l) (am : SliceRep encsimulate_Event s m a.out.Events) :
  Calls Tryz.prog 43 #[Value.pointer (some ⟨b, 0, none⟩), Vi (c)] w fun e w' => ∃ v, e = .returned v ∧ ((fun (ai : Int) => ∃ (q : PHeap) , PHeap.le s q ∧ St w0 q (Res.box b 70 [g, h, i, j, k, m, d, f, Vi (a.out.Makespan)] :: Res.arr (encSlice (encInt .i64)) 22 d a.out.States :: Res.arr encsimulate_Problem 52 f a.out.Problems :: H) w' ∧ v = Vi (ai)) r) := by
 unfold simulate_run_end_43_p at hm
 refine calls_of_W Tryz.func43 rfl rfl (Zc (Zd (Za rfl rfl (Zo (v := Vi (0)) rfl rfl (Zb (Ze (Zc (W_dl (n0 := 25) (qs 0 25 .done) hmix (by kernel_rfl) (by kernel_rfl) (DL_q rfl rfl (Zm (v := Value.pointer (some ⟨b, 0, none⟩)) rfl rfl ⟨rfl, ?_⟩))))))))))
 refine DL_q rfl rfl (Exec.nilCheck_ptr rfl rfl ⟨rfl, ?_⟩)
 refine DL_q rfl rfl (Zp F70_1 rfl rfl rfl ⟨rfl, ?_⟩)
 refine DL_q rfl rfl (Zn (hS.drew) A27 rfl rfl rfl ⟨rfl, ?_⟩)
 refine DL_q rfl rfl (Zm (v := Vi (c)) rfl rfl ⟨rfl, ?_⟩)
 obtain ⟨n, p, hm⟩ := Zg hm
 refine DL_q rfl rfl (Exec.index_repE S27 rfl rfl rfl o p ?_)
 intro an aw y aq
 refine ⟨rfl, ?_⟩
 refine DL_q rfl rfl (Zp F64_0 rfl rfl rfl ⟨rfl, ?_⟩)
 refine DL_q rfl rfl (Zw (E := (encInt .i64)) hS.drew A3 rfl rfl rfl (y.sub (Sub.iso (Sub.fst (Sub.refl _))) rfl) ?_)
 intro af ab
 obtain rfl : af = Vi (n.At) := encInt_val.1 ab
 refine ⟨rfl, ?_⟩
 refine DL_q rfl rfl (Zm (v := Value.pointer (some ⟨b, 0, none⟩)) rfl rfl ⟨rfl, ?_⟩)
 refine DL_q rfl rfl (Exec.nilCheck_ptr rfl rfl ⟨rfl, ?_⟩)
 refine DL_q rfl rfl (Zp F70_0 rfl rfl rfl ⟨rfl, ?_⟩)
 refine DL_q rfl rfl (Zp F26_3 rfl rfl rfl ⟨rfl, ?_⟩)
 refine DL_q rfl rfl (Zn (hS.drew) A24 rfl rfl rfl ⟨rfl, ?_⟩)
 refine DL_q rfl rfl (Zm (v := Value.pointer (some ⟨b, 0, none⟩)) rfl rfl ⟨rfl, ?_⟩)
 refine DL_q rfl rfl (Exec.nilCheck_ptr rfl rfl ⟨rfl, ?_⟩)
 refine DL_q rfl rfl (Zp F70_1 rfl rfl rfl ⟨rfl, ?_⟩)
 refine DL_q rfl rfl (Zn (hS.drew) A27 rfl rfl rfl ⟨rfl, ?_⟩)
 refine DL_q rfl rfl (Zm (v := Vi (c)) rfl rfl ⟨rfl, ?_⟩)
 refine DL_q rfl rfl (Exec.index_repE S27 rfl rfl rfl o p ?_)
 intro ao ax z ar
 refine ⟨rfl, ?_⟩
 refine DL_q rfl rfl (Zp F64_1 rfl rfl rfl ⟨rfl, ?_⟩)
 refine DL_q rfl rfl (Zw (E := (encInt .i64)) hS.drew A3 rfl rfl rfl (z.sub (Sub.iso (Sub.snd (Sub.refl _) rfl)) rfl) ?_)
 intro ag ac
 obtain rfl : ag = Vi (n.Job) := encInt_val.1 ac
 refine ⟨rfl, ?_⟩
 obtain ⟨u, ad, hm⟩ := Zg hm
 refine DL_q rfl rfl (Exec.index_repE S24 rfl rfl rfl x ad ?_)
 intro ap ay aa au
 refine ⟨rfl, ?_⟩
 refine DL_q rfl rfl (Zp F59_1 rfl rfl rfl ⟨rfl, ?_⟩)
 refine DL_q rfl rfl (Zw (E := (encInt .i64)) hS.drew A3 rfl rfl rfl (aa.sub (Sub.iso (Sub.snd (Sub.fst (Sub.refl _)) rfl)) rfl) ?_)
 intro ah ae
 obtain rfl : ah = Vi (u.Duration) := encInt_val.1 ae
 refine ⟨rfl, ?_⟩
 refine DL_q rfl rfl (Exec.add rfl rfl rfl ⟨rfl, ?_⟩)
 refine DL_done (Za rfl rfl (Zo (v := Vi (IntKind.i64.wrap (n.At + u.Duration))) rfl rfl (Zb (Ze (W_ret ?_)))))
 have av := Zu hm
 subst r
 refine ⟨_, ret1 rfl, ?_⟩
 exact ⟨s, (Zv _), (((hS.drew).f2).f2).f2, rfl⟩
theorem F34_2 : tyField Tryz.prog 34 2 = some 2 := by kernel_rfl
theorem A32 : tyAgg Tryz.prog 32 = some (false, 1) := by kernel_rfl
theorem S32 : tySlice Tryz.prog 32 = some (52, 5, 40) := by kernel_rfl
theorem Z52 : tyZero Tryz.prog 52 = some (Value.agg #[Vi (0), Vi (0), Vi (0), Vi (0), Vi (0)]) := by kernel_rfl
theorem simulate_run_report_sim {w0 w : World} {s : PHeap} {H : List Res} {d : simulate_run} {h : Int} {g : Int} {f : Int} {a : Int} {b : Int} {i : Nat} {k : Value} {m : Value} {n : Value} {o : Value} {p : Value} {q : Value} {j : Value} {z : Value} {r : (List simulate_Problem)} (hm : simulate_run_report_p d h g f a b = some r) (hS : St w0 s (Res.box i 70 [k, m, n, o, p, q, j, z, Vi (d.out.Makespan)] :: Res.arr (encSlice (encInt .i64)) 22 j d.out.States :: Res.arr encsimulate_Problem 52 z d.out.Problems :: H) w) (af : SliceRep (encInt .i64) s k d.t.Vars) (ag : SliceRep (encInt .i64) s m d.t.Init) (ah : SliceRep encFact s n d.t.Goal) (ai : SliceRep encJob s o d.t.Jobs) (aj : SliceRep encLaunch s p d.l) (ak : SliceRep encsimulate_Event s q d.out.Events) :
  Calls Tryz.prog 21 #[Value.pointer (some ⟨i, 0, none⟩), Vi (h), Vi (g), Vi (f), Vi (a), Vi (b)] w fun e w' => ∃ v, e = .returned v ∧ ((fun (ad : (List simulate_Problem)) => ∃ (y : PHeap) (aa : Value), PHeap.le s y ∧ St w0 y (Res.box i 70 [k, m, n, o, p, q, j, aa, Vi (d.out.Makespan)] :: Res.arr (encSlice (encInt .i64)) 22 j d.out.States :: Res.arr encsimulate_Problem 52 aa ad :: H) w' ∧ v = Value.tuple #[]) r) := by
 unfold simulate_run_report_p at hm
 refine calls_of_W Tryz.func21 rfl rfl (Zd (Za rfl rfl (Zm (v := Value.pointer (some ⟨i, 0, none⟩)) rfl rfl (Za rfl rfl (Zm (v := Value.pointer (some ⟨i, 0, none⟩)) rfl rfl (Za rfl rfl (Exec.nilCheck_ptr rfl rfl (Za rfl rfl (Zp F70_2 rfl rfl rfl (Za rfl rfl (Zp F34_2 rfl rfl rfl (Za rfl rfl (Zn (hS) A32 rfl rfl rfl (Za rfl rfl (Zm (v := Vi (h)) rfl rfl (Za rfl rfl (Zm (v := Vi (g)) rfl rfl (Za rfl rfl (Zm (v := Vi (f)) rfl rfl (Za rfl rfl (Zm (v := Vi (a)) rfl rfl (Za rfl rfl (Zm (v := Vi (b)) rfl rfl (Za rfl rfl (Exec.build rfl (parts_cons (c := [Vi (h)]) (cells_of rfl rfl) (parts_cons (c := [Vi (g)]) (cells_of rfl rfl) (parts_cons (c := [Vi (f)]) (cells_of rfl rfl) (parts_cons (c := [Vi (a)]) (cells_of rfl rfl) (parts_cons (c := [Vi (b)]) (cells_of rfl rfl) parts_nil))))) (v := Value.agg #[Vi (h), Vi (g), Vi (f), Vi (a), Vi (b)]) (fun _ => by kernel_rfl) (Za rfl rfl (Exec.buildSlice (Te := 52) (cs := [Vi (h), Vi (g), Vi (f), Vi (a), Vi (b)]) hS rfl (parts_cons (c := [Vi (h), Vi (g), Vi (f), Vi (a), Vi (b)]) (cells_of rfl rfl) parts_nil) (fun _ => by kernel_rfl) ?_)))))))))))))))))))))))))))
 intro al ao ab
 obtain ⟨an, ae, hm⟩ := Zg hm
 refine Za rfl rfl (Exec.append_box (E := encsimulate_Problem) (ys := [(⟨h, g, f, a, b⟩ : simulate_Problem)]) (ab).f3 S32 Z52 rfl (by decide) rfl rfl rfl rfl ⟨[Vi (h), Vi (g), Vi (f), Vi (a), Vi (b)], [], rfl, ⟨[Vi (h)], [Vi (g), Vi (f), Vi (a), Vi (b)], rfl, rfl, ⟨[Vi (g)], [Vi (f), Vi (a), Vi (b)], rfl, rfl, ⟨[Vi (f)], [Vi (a), Vi (b)], rfl, rfl, ⟨[Vi (a)], [Vi (b)], rfl, rfl, rfl⟩⟩⟩⟩, rfl⟩ rfl ae ?_)
 intro x ap u
 refine Za rfl rfl (Exec.nilCheck_ptr rfl rfl (Za rfl rfl (Zp F70_2 rfl rfl rfl (Za rfl rfl (Zp F34_2 rfl rfl rfl (Za rfl rfl (Exec.store_box (ds := [x]) (es := [k, m, n, o, p, q, j, x, Vi (d.out.Makespan)]) (u).f1 A32 rfl rfl rfl (cells_one (((u).f1).f1).arr_one) (Zj (((u).f1).f1).arr_one one_nil) (Nat.le_of_ble_eq_true rfl) rfl ?_)))))))
 intro aq ac
 refine Zb ?_
 have am := Zu hm
 subst r
 refine ⟨_, retG0 rfl, ?_⟩
 exact ⟨s, x, (Zv _), (((ac).f1).f2).f2, rfl⟩
theorem simulate_run_overlaps_sim {w0 w : World} {s : PHeap} {H : List Res} {b : simulate_run} {g : Int} {j : Nat} {au : Value} {av : Value} {aw : Value} {ax : Value} {n : Value} {ay : Value} {q : Value} {aG : Value} {r : (List simulate_Problem)} (hm : simulate_run_overlaps_p b g = some r) (hS : St w0 s (Res.box j 70 [au, av, aw, ax, n, ay, q, aG, Vi (b.out.Makespan)] :: Res.arr (encSlice (encInt .i64)) 22 q b.out.States :: Res.arr encsimulate_Problem 52 aG b.out.Problems :: H) w) (aH : SliceRep (encInt .i64) s au b.t.Vars) (aI : SliceRep (encInt .i64) s av b.t.Init) (aJ : SliceRep encFact s aw b.t.Goal) (aK : SliceRep encJob s ax b.t.Jobs) (ah : SliceRep encLaunch s n b.l) (aL : SliceRep encsimulate_Event s ay b.out.Events) :
  Calls Tryz.prog 49 #[Value.pointer (some ⟨j, 0, none⟩), Vi (g)] w fun e w' => ∃ v, e = .returned v ∧ ((fun (b5 : (List simulate_Problem)) => ∃ (bb : PHeap) (bi : Value), PHeap.le s bb ∧ St w0 bb (Res.box j 70 [au, av, aw, ax, n, ay, q, bi, Vi (b.out.Makespan)] :: Res.arr (encSlice (encInt .i64)) 22 q b.out.States :: Res.arr encsimulate_Problem 52 bi b5 :: H) w' ∧ v = Value.tuple #[]) r) := by
 unfold simulate_run_overlaps_p at hm
 refine calls_of_W Tryz.func49 rfl rfl (Zc (Zd (Za rfl rfl (Zm (v := Value.pointer (some ⟨j, 0, none⟩)) rfl rfl (Za rfl rfl (Exec.nilCheck_ptr rfl rfl (Za rfl rfl (Zp F70_1 rfl rfl rfl (Za rfl rfl (Zn (hS) A27 rfl rfl rfl (Za rfl rfl (Zr S27 rfl rfl ah (Za rfl rfl (Zm (v := Vi (0)) rfl rfl (Zb (Ze ?_))))))))))))))))
 obtain ⟨aA, bm, hm⟩ := Zg hm
 refine W_block (W_forS (fun k' s' f' w' => (fun (aA : (List simulate_Problem)) => ∃ (bc : PHeap) (a2 : Value), PHeap.le s bc ∧ St w0 bc (Res.box j 70 [au, av, aw, ax, n, ay, q, a2, Vi (b.out.Makespan)] :: Res.arr (encSlice (encInt .i64)) 22 q b.out.States :: Res.arr encsimulate_Problem 52 a2 aA :: H) w' ∧ f' 0 = Value.pointer (some ⟨j, 0, none⟩) ∧ f' 1 = Vi (g) ∧ f' 11 = n ∧ f' 12 = Vi ((b.l.length : Int)) ∧ f' 13 = Vi (k' : Int)) s') bm ?_ ?_ ?_)
 ·have bu := (hS).f2
  exact ⟨s, aG, (Zv _), ((bu).f2).f2, rfl, rfl, rfl, rfl, rfl⟩
 ·intro d aA bZ cz cG b3 bo a4
  obtain ⟨bd, a2, i, aM, aQ, bA, aR, aS, a9⟩ := bo
  refine Zc (Zd (Za rfl rfl (Zq rfl a9 aS (Zb (Ze (Zc (W_true (Zx (decide_eq_true (by omega))) (W_skip (Ze (Zc (W_block (Zc (Zd (Za rfl rfl (Zm (v := Vi ((d : Int))) rfl a9 ?_)))))))))))))))
  obtain ⟨y, bT, a4⟩ := Zg a4
  refine Za rfl rfl (Exec.index_rep S27 rfl aR a9 (ah.mono i) bT ?_)
  intro ci c6 bk
  refine Za rfl rfl (Zw (E := encLaunch) aM A64 rfl rfl rfl bk ?_)
  intro cE bU
  obtain rfl := encLaunch_val.1 bU
  refine Za rfl rfl (Exec.alloc (cs := [Vi (0), Vi (0)]) aM Z64 rfl rfl ?_)
  intro a0 cH bv
  refine Za rfl rfl (Zo (v := Vi ((d : Int))) rfl rfl (Za rfl rfl (Exec.store_box (ds := [Vi (y.At), Vi (y.Job)]) (es := [Vi (y.At), Vi (y.Job)]) bv A64 rfl rfl rfl rfl (Zj rfl (Zj rfl one_nil)) (Nat.le_of_ble_eq_true rfl) rfl ?_)))
  intro cI aN
  refine Zb (Ze (Zc (Zd (Za rfl rfl (Zm (v := Value.pointer (some ⟨j, 0, none⟩)) rfl aQ (Za rfl rfl (Exec.nilCheck_ptr rfl rfl (Za rfl rfl (Zp F70_1 rfl rfl rfl (Za rfl rfl (Zn ((aN).f1) A27 rfl rfl rfl (Za rfl rfl (Zr S27 rfl rfl (ah.mono i) (Za rfl rfl (Zm (v := Vi (0)) rfl rfl (Zb (Ze ?_)))))))))))))))))
  obtain ⟨a7, bn, a4⟩ := Zg a4
  refine W_block (W_forS (fun k' s' f' w' => (fun (a7 : (List simulate_Problem)) => ∃ (be : PHeap) (ao : Value), PHeap.le bd be ∧ St w0 be (Res.box j 70 [au, av, aw, ax, n, ay, q, ao, Vi (b.out.Makespan)] :: Res.arr (encSlice (encInt .i64)) 22 q b.out.States :: Res.arr encsimulate_Problem 52 ao a7 :: Res.box a0 64 [Vi (y.At), Vi (y.Job)] :: H) w' ∧ f' 0 = Value.pointer (some ⟨j, 0, none⟩) ∧ f' 1 = Vi (g) ∧ f' 4 = Vi ((d : Int)) ∧ f' 5 = Value.pointer (some ⟨a0, 0, none⟩) ∧ f' 11 = n ∧ f' 12 = Vi ((b.l.length : Int)) ∧ f' 13 = Vi ((d : Int)) ∧ f' 21 = n ∧ f' 22 = Vi ((b.l.length : Int)) ∧ f' 23 = Vi (k' : Int)) s') bn ?_ ?_ ?_)
  ·have bw := (aN).f3
   exact ⟨bd, a2, (Zv _), ((bw).f3).f3, aQ, bA, rfl, rfl, aR, aS, a9, rfl, rfl, rfl⟩
  ·intro h a7 ca c0 cJ b4 bp ap
   obtain ⟨a1, ao, m, aO, ae, p, x, ad, al, am, an, af, ag, z⟩ := bp
   refine Zc (Zd (Za rfl rfl (Zq rfl z ag (Zb (Ze (Zc (W_true (Zx (decide_eq_true (by omega))) (W_skip (Ze (Zc (W_block (Zc (Zd (Za rfl rfl (Zm (v := Vi ((h : Int))) rfl z ?_)))))))))))))))
   obtain ⟨az, bV, ap⟩ := Zg ap
   refine Za rfl rfl (Exec.index_rep S27 rfl af z (ah.mono (Zt i m)) bV ?_)
   intro cj c7 bl
   refine Za rfl rfl (Zw (E := encLaunch) aO A64 rfl rfl rfl bl ?_)
   intro cF bW
   obtain rfl := encLaunch_val.1 bW
   refine Za rfl rfl (Exec.alloc (cs := [Vi (0), Vi (0)]) aO Z64 rfl rfl ?_)
   intro ck cK bx
   refine Za rfl rfl (Zo (v := Vi ((h : Int))) rfl rfl (Za rfl rfl (Exec.store_box (ds := [Vi (az.At), Vi (az.Job)]) (es := [Vi (az.At), Vi (az.Job)]) bx A64 rfl rfl rfl rfl (Zj rfl (Zj rfl one_nil)) (Nat.le_of_ble_eq_true rfl) rfl ?_)))
   intro cL u
   refine Zb (Ze (Zc ?_))
   obtain ⟨aa, a, ap⟩ := Zg ap
   refine W_mid (M := fun f' w' => (fun (aa : Bool) => ∃ (bf : PHeap) , PHeap.le a1 bf ∧ St w0 bf (Res.box j 70 [au, av, aw, ax, n, ay, q, ao, Vi (b.out.Makespan)] :: Res.arr (encSlice (encInt .i64)) 22 q b.out.States :: Res.arr encsimulate_Problem 52 ao a7 :: Res.box a0 64 [Vi (y.At), Vi (y.Job)] :: H) w' ∧ f' 0 = Value.pointer (some ⟨j, 0, none⟩) ∧ f' 1 = Vi (g) ∧ f' 4 = Vi ((d : Int)) ∧ f' 5 = Value.pointer (some ⟨a0, 0, none⟩) ∧ f' 6 = Vi ((h : Int)) ∧ f' 11 = n ∧ f' 12 = Vi ((b.l.length : Int)) ∧ f' 13 = Vi ((d : Int)) ∧ f' 21 = n ∧ f' 22 = Vi ((b.l.length : Int)) ∧ f' 23 = Vi ((h : Int)) ∧ f' 67 = Value.bool (aa)) aa) ?_ ?_
   ·refine Zd (Za rfl rfl (Zp F64_0 rfl ad rfl (Za rfl rfl (Zn ((u).f4) A3 rfl rfl rfl (Za rfl rfl (Zm (v := Vi (g)) rfl p (Za rfl rfl (Exec.eql rfl rfl rfl (Za rfl rfl (Zm (v := Value.bool (decide (y.At = g))) rfl rfl ?_))))))))))
    rcases ite_some a with ⟨ai, a⟩ | ⟨ai, a⟩
    ·refine WL_run rfl (Zf rfl (Zx ai)) rfl (Zm (v := Vi ((h : Int))) rfl rfl (WL_run rfl (Zf rfl (Zx ai)) rfl (Zm (v := Vi ((d : Int))) rfl x (WL_run rfl (Zf rfl (Zx ai)) rfl (Exec.neq rfl rfl rfl ?_)))))
     refine WL_passes 2 (by rw [ai]; rfl) ?_
     rcases ite_some a with ⟨ab, a⟩ | ⟨ab, a⟩
     ·refine WL_run rfl (Zf rfl (Zx ab)) rfl (Zp F64_1 rfl ad rfl (WL_run rfl (Zf rfl (Zx ab)) rfl (Zn ((u).f4) A3 rfl rfl rfl (WL_run rfl (Zf rfl (Zx ab)) rfl (Zp F64_1 rfl rfl rfl (WL_run rfl (Zf rfl (Zx ab)) rfl (Zn (u) A3 rfl rfl rfl (WL_run rfl (Zf rfl (Zx ab)) rfl (Exec.eql rfl rfl rfl ?_)))))))))
      refine WL_passes 2 (by rw [ab]; rfl) ?_
      rcases ite_some a with ⟨c, a⟩ | ⟨c, a⟩
      ·refine WL_run rfl (Zf rfl (Zx c)) rfl (Zp F64_0 rfl rfl rfl (WL_run rfl (Zf rfl (Zx c)) rfl (Zn (u) A3 rfl rfl rfl (WL_run rfl (Zf rfl (Zx c)) rfl (Zm (v := Vi (g)) rfl p (WL_run rfl (Zf rfl (Zx c)) rfl (Zq rfl rfl rfl (WL_run rfl (Zf rfl (Zx c)) rfl (Zm (v := Value.bool (decide (az.At < g))) rfl rfl ?_)))))))))
       rcases ite_some a with ⟨ac, a⟩ | ⟨ac, a⟩
       ·refine WL_run rfl (Zf rfl (Zx ac)) rfl (Zm (v := Value.pointer (some ⟨j, 0, none⟩)) rfl ae (WL_run rfl (Zf rfl (Zx ac)) rfl (Zm (v := Vi ((h : Int))) rfl rfl ?_)))
        obtain ⟨bj, bX, a⟩ := Zg a
        refine WL_run rfl (Zf rfl (Zx ac)) rfl (Tc rfl rfl rfl (Zi rfl (Zi rfl args_nil)) (simulate_run_end_43_sim bX (((u).f3).f3).f3 (aH.mono (Zt i m)) (aI.mono (Zt i m)) (aJ.mono (Zt i m)) (aK.mono (Zt i m)) (ah.mono (Zt i m)) (aL.mono (Zt i m))).r ?_)
        rintro _ cM ⟨aF, aB, a6, rfl⟩
        refine WL_run rfl (Zf rfl (Zx ac)) rfl (Zm (v := Vi (g)) rfl p (WL_run rfl (Zf rfl (Zx ac)) rfl (Exec.geq rfl rfl rfl (WL_run rfl (Zf rfl (Zx c)) rfl (Zs (v := Value.bool (decide (g ≤ bj))) rfl (Zx ac) rfl (WL_run rfl (Zf rfl (Zx c)) rfl (Zm (v := Value.bool (decide (g ≤ bj))) rfl rfl ?_)))))))
        rcases ite_some a with ⟨o, a⟩ | ⟨o, a⟩
        ·refine WL_passes 9 (by rw [o]; rfl) ?_
         refine WL_run rfl (Zf rfl (Zx c)) rfl (Zs (v := Value.bool (true)) rfl rfl rfl (Za rfl rfl (Zs (v := Value.bool (true)) rfl (Zx c) rfl (Zb (Ze ?_)))))
         have cl := Zu a
         subst aa
         exact ⟨aF, aB, ((((((a6).f3).drop).f3).f3).f3).f3, ae, p, x, ad, rfl, al, am, an, af, ag, z, rfl⟩
        replace o := Zk o
        refine WL_run rfl (Zf rfl (Zx o)) rfl (Zp F64_0 rfl rfl rfl (WL_run rfl (Zf rfl (Zx o)) rfl (Zn ((a6).f3) A3 rfl rfl rfl (WL_run rfl (Zf rfl (Zx o)) rfl (Zm (v := Vi (g)) rfl p (WL_run rfl (Zf rfl (Zx o)) rfl (Exec.eql rfl rfl rfl (WL_run rfl (Zf rfl (Zx o)) rfl (Zm (v := Value.bool (decide (az.At = g))) rfl rfl ?_)))))))))
        rcases ite_some a with ⟨aj, a⟩ | ⟨aj, a⟩
        ·refine WL_run rfl (Zf rfl (Zx aj)) rfl (Zm (v := Vi ((h : Int))) rfl rfl (WL_run rfl (Zf rfl (Zx aj)) rfl (Zm (v := Vi ((d : Int))) rfl x (WL_run rfl (Zf rfl (Zx aj)) rfl (Zq rfl rfl rfl (WL_run rfl (Zf rfl (Zx o)) rfl (Zs (v := Value.bool (decide ((h : Int) < (d : Int)))) rfl (Zx aj) rfl (WL_run rfl (Zf rfl (Zx c)) rfl (Exec.pick_f (v := Value.bool (decide ((h : Int) < (d : Int)))) rfl (Zx o) rfl (Za rfl rfl (Zs (v := Value.bool (decide ((h : Int) < (d : Int)))) rfl (Zx c) rfl (Zb (Ze ?_)))))))))))))
         have cm := Zu a
         subst aa
         exact ⟨aF, aB, ((((((a6).f3).drop).f3).f3).f3).f3, ae, p, x, ad, rfl, al, am, an, af, ag, z, rfl⟩
        replace aj := Zk aj
        refine WL_passes 3 (by rw [aj]; rfl) ?_
        refine WL_run rfl (Zf rfl (Zx o)) rfl (Exec.pick_f (v := Value.bool (false)) rfl rfl rfl (WL_run rfl (Zf rfl (Zx c)) rfl (Exec.pick_f (v := Value.bool (false)) rfl (Zx o) rfl (Za rfl rfl (Zs (v := Value.bool (false)) rfl (Zx c) rfl (Zb (Ze ?_)))))))
        have cn := Zu a
        subst aa
        exact ⟨aF, aB, ((((((a6).f3).drop).f3).f3).f3).f3, ae, p, x, ad, rfl, al, am, an, af, ag, z, rfl⟩
       replace ac := Zk ac
       refine WL_passes 5 (by rw [ac]; rfl) ?_
       refine WL_run rfl (Zf rfl (Zx c)) rfl (Exec.pick_f (v := Value.bool (false)) rfl rfl rfl (WL_run rfl (Zf rfl (Zx c)) rfl (Zm (v := Value.bool (false)) rfl rfl (WL_run rfl (Zf rfl rfl) rfl (Zp F64_0 rfl rfl rfl (WL_run rfl (Zf rfl rfl) rfl (Zn (u) A3 rfl rfl rfl (WL_run rfl (Zf rfl rfl) rfl (Zm (v := Vi (g)) rfl p (WL_run rfl (Zf rfl rfl) rfl (Exec.eql rfl rfl rfl (WL_run rfl (Zf rfl rfl) rfl (Zm (v := Value.bool (decide (az.At = g))) rfl rfl ?_)))))))))))))
       rcases ite_some a with ⟨ak, a⟩ | ⟨ak, a⟩
       ·refine WL_run rfl (Zf rfl (Zx ak)) rfl (Zm (v := Vi ((h : Int))) rfl rfl (WL_run rfl (Zf rfl (Zx ak)) rfl (Zm (v := Vi ((d : Int))) rfl x (WL_run rfl (Zf rfl (Zx ak)) rfl (Zq rfl rfl rfl (WL_run rfl (Zf rfl rfl) rfl (Zs (v := Value.bool (decide ((h : Int) < (d : Int)))) rfl (Zx ak) rfl (WL_run rfl (Zf rfl (Zx c)) rfl (Exec.pick_f (v := Value.bool (decide ((h : Int) < (d : Int)))) rfl rfl rfl (Za rfl rfl (Zs (v := Value.bool (decide ((h : Int) < (d : Int)))) rfl (Zx c) rfl (Zb (Ze ?_)))))))))))))
        have co := Zu a
        subst aa
        exact ⟨a1, (Zv _), (((((u).drop).f3).f3).f3).f3, ae, p, x, ad, rfl, al, am, an, af, ag, z, rfl⟩
       replace ak := Zk ak
       refine WL_passes 3 (by rw [ak]; rfl) ?_
       refine WL_run rfl (Zf rfl rfl) rfl (Exec.pick_f (v := Value.bool (false)) rfl rfl rfl (WL_run rfl (Zf rfl (Zx c)) rfl (Exec.pick_f (v := Value.bool (false)) rfl rfl rfl (Za rfl rfl (Zs (v := Value.bool (false)) rfl (Zx c) rfl (Zb (Ze ?_)))))))
       have cp := Zu a
       subst aa
       exact ⟨a1, (Zv _), (((((u).drop).f3).f3).f3).f3, ae, p, x, ad, rfl, al, am, an, af, ag, z, rfl⟩
      replace c := Zk c
      refine WL_passes 23 (by rw [c]; rfl) ?_
      refine Zb (Ze ?_)
      have cq := Zu a
      subst aa
      exact ⟨a1, (Zv _), (((((u).drop).f3).f3).f3).f3, ae, p, x, ad, rfl, al, am, an, af, ag, z, rfl⟩
     replace ab := Zk ab
     refine WL_passes 30 (by rw [ab]; rfl) ?_
     refine Zb (Ze ?_)
     have cr := Zu a
     subst aa
     exact ⟨a1, (Zv _), (((((u).drop).f3).f3).f3).f3, ae, p, x, ad, rfl, al, am, an, af, ag, z, rfl⟩
    replace ai := Zk ai
    refine WL_passes 35 (by rw [ai]; rfl) ?_
    refine Zb (Ze ?_)
    have ct := Zu a
    subst aa
    exact ⟨a1, (Zv _), (((((u).drop).f3).f3).f3).f3, ae, p, x, ad, rfl, al, am, an, af, ag, z, rfl⟩
   intro c1 cN bs
   obtain ⟨bg, ar, aP, aC, aD, aE, aT, bB, aU, aV, aW, aX, aY, aZ, ba⟩ := bs
   refine (Ze ?_)
   obtain ⟨a5, aq, ap⟩ := Zg ap
   refine W_mid (M := fun f' w' => (fun (a5 : (List simulate_Problem)) => ∃ (bh : PHeap) (a8 : Value), PHeap.le bg bh ∧ St w0 bh (Res.box j 70 [au, av, aw, ax, n, ay, q, a8, Vi (b.out.Makespan)] :: Res.arr (encSlice (encInt .i64)) 22 q b.out.States :: Res.arr encsimulate_Problem 52 a8 a5 :: Res.box a0 64 [Vi (y.At), Vi (y.Job)] :: H) w' ∧ f' 0 = Value.pointer (some ⟨j, 0, none⟩) ∧ f' 1 = Vi (g) ∧ f' 4 = Vi ((d : Int)) ∧ f' 5 = Value.pointer (some ⟨a0, 0, none⟩) ∧ f' 11 = n ∧ f' 12 = Vi ((b.l.length : Int)) ∧ f' 13 = Vi ((d : Int)) ∧ f' 21 = n ∧ f' 22 = Vi ((b.l.length : Int)) ∧ f' 23 = Vi ((h : Int))) a5) ?_ ?_
   ·rcases ite_some aq with ⟨a3, aq⟩ | ⟨a3, aq⟩
    ·refine W_cond_t ba a3 (Zd (Za rfl rfl (Zm (v := Value.pointer (some ⟨j, 0, none⟩)) rfl aC (Za rfl rfl (Zm (v := Vi (g)) rfl aD (Za rfl rfl (Zm (v := Vi ((d : Int))) rfl aE (Za rfl rfl (Zm (v := Vi ((h : Int))) rfl bB ?_)))))))))
     obtain ⟨c5, bY, aq⟩ := Zg aq
     refine Za rfl rfl (Tc rfl rfl rfl (Zi rfl (Zi rfl (Zi rfl (Zi rfl (Zi rfl (Zi rfl args_nil)))))) (simulate_run_report_sim bY (((aP).f2).f2).f2 (aH.mono (Zt (Zt i m) ar)) (aI.mono (Zt (Zt i m) ar)) (aJ.mono (Zt (Zt i m) ar)) (aK.mono (Zt (Zt i m) ar)) (ah.mono (Zt (Zt i m) ar)) (aL.mono (Zt (Zt i m) ar))).r ?_)
     rintro _ cO ⟨cb, cf, b6, bz, rfl⟩
     refine Zb (Ze ?_)
     have cu := Zu aq
     subst a5
     exact ⟨cb, cf, b6, ((((bz).f3).f3).f3).f3, aC, aD, aE, aT, aU, aV, aW, aX, aY, aZ⟩
    refine W_cond_f ba a3 ?_
    replace a3 := Zk a3
    refine W_skip (Ze ?_)
    have cv := Zu aq
    subst a5
    exact ⟨bg, ao, (Zv _), ((((aP).f3).f3).f3).f3, aC, aD, aE, aT, aU, aV, aW, aX, aY, aZ⟩
   intro c2 cP bt
   obtain ⟨cc, a8, b7, b0, bC, bD, bE, bF, bG, bH, bI, bJ, bK, bL⟩ := bt
   refine (ib_normal (Ze (Zd (Za rfl rfl (Exec.add rfl bL rfl (Za rfl rfl (Zm (v := Vi (IntKind.i64.wrap ((h : Int) + 1))) rfl rfl (Zb (Ze ?_)))))))))
   have cw := Zu ap
   subst ca
   exact ⟨cc, a8, (Zt (Zt m ar) b7), ((((b0).f3).f3).f3).f3, bC, bD, bE, bF, bG, bH, bI, bJ, bK, (Eq.trans rfl (wrap_up b4 (SliceRep.le (ah.mono i))))⟩
  intro c3 cQ bq
  obtain ⟨cd, ao, b8, b1, bM, bN, c8, c9, bO, bP, bQ, cA, bR, cg⟩ := bq
  refine Zc (Zd (Za rfl rfl (Zq rfl cg bR (Zb (Ze (Zc (W_false (Zx (decide_eq_false (by omega))) (W_exit (at_exit (at_exit (ib_here (ib_normal (Ze (Zd (Za rfl rfl (Exec.add rfl bQ rfl (Za rfl rfl (Zm (v := Vi (IntKind.i64.wrap ((d : Int) + 1))) rfl rfl (Zb (Ze ?_))))))))))))))))))))
  have cx := Zu a4
  subst bZ
  exact ⟨cd, ao, (Zt i b8), (((((b1).f3).drop).f2).f2).f2, bM, bN, bO, bP, (Eq.trans rfl (wrap_up b3 (SliceRep.le ah)))⟩
 intro c4 cR br
 obtain ⟨ce, a2, b9, b2, cB, cC, cD, bS, ch⟩ := br
 refine Zc (Zd (Za rfl rfl (Zq rfl ch bS (Zb (Ze (Zc (W_false (Zx (decide_eq_false (by omega))) (W_exit (at_exit (at_exit (ib_here ?_)))))))))))
 have cy := Zu hm
 subst r
 refine ⟨_, retG0 rfl, ?_⟩
 exact ⟨ce, a2, b9, (((b2).f2).f2).f2, rfl⟩
theorem A49 : tyAgg Tryz.prog 49 = some (true, 3) := by kernel_rfl
theorem simulate_run_job_sim {w0 w : World} {s : PHeap} {H : List Res} {a : simulate_run} {b : simulate_Event} {g : Nat} {q : Value} {u : Value} {x : Value} {y : Value} {z : Value} {aa : Value} {h : Value} {i : Value} {r : Job} (hm : simulate_run_job_p a b = some r) (hS : St w0 s (Res.box g 70 [q, u, x, y, z, aa, h, i, Vi (a.out.Makespan)] :: Res.arr (encSlice (encInt .i64)) 22 h a.out.States :: Res.arr encsimulate_Problem 52 i a.out.Problems :: H) w) (a0 : SliceRep (encInt .i64) s q a.t.Vars) (a1 : SliceRep (encInt .i64) s u a.t.Init) (a2 : SliceRep encFact s x a.t.Goal) (am : SliceRep encJob s y a.t.Jobs) (an : SliceRep encLaunch s z a.l) (a3 : SliceRep encsimulate_Event s aa a.out.Events) :
  Calls Tryz.prog 51 #[Value.pointer (some ⟨g, 0, none⟩), Value.agg #[Vi (b.At), Vi (b.Launch), Value.bool (b.End)]] w fun e w' => ∃ v, e = .returned v ∧ ((fun (d : Job) => ∃ (c : PHeap) (ah : Value) (ai : Value) (aj : Value) (ak : Value) (al : Value), PHeap.le s c ∧ St w0 c (Res.box g 70 [q, u, x, y, z, aa, h, i, Vi (a.out.Makespan)] :: Res.arr (encSlice (encInt .i64)) 22 h a.out.States :: Res.arr encsimulate_Problem 52 i a.out.Problems :: H) w' ∧ v = Value.agg #[Value.string (d.Name), Vi (d.Duration), ah, ai, aj, ak, al] ∧ SliceRep encFact c ah d.Start ∧ SliceRep encFact c ai d.Over ∧ SliceRep encFact c aj d.End ∧ SliceRep encFact c ak d.AtStart ∧ SliceRep encFact c al d.AtEnd) r) := by
 unfold simulate_run_job_p at hm
 refine calls_of_W Tryz.func51 rfl rfl (Zc (Zd (Za rfl rfl (Exec.box (cs := [Vi (b.At), Vi (b.Launch), Value.bool (b.End)]) hS rfl rfl rfl ?_))))
 intro a4 aE aq
 refine Za rfl rfl (Exec.alloc (cs := [Value.string (⟨#[]⟩), Vi (0), Value.slice none 0 0, Value.slice none 0 0, Value.slice none 0 0, Value.slice none 0 0, Value.slice none 0 0]) aq Z59 rfl rfl ?_)
 intro a5 aF ar
 refine Zb (Ze (Zc (W_dl (n0 := 16) (qs 0 16 .done) hmix (by kernel_rfl) (by kernel_rfl) ?_)))
 have f := ar.drew
 refine DL_q rfl rfl (Zm (v := Value.pointer (some ⟨g, 0, none⟩)) rfl rfl ⟨rfl, ?_⟩)
 refine DL_q rfl rfl (Exec.nilCheck_ptr rfl rfl ⟨rfl, ?_⟩)
 refine DL_q rfl rfl (Zp F70_0 rfl rfl rfl ⟨rfl, ?_⟩)
 refine DL_q rfl rfl (Zp F26_3 rfl rfl rfl ⟨rfl, ?_⟩)
 refine DL_q rfl rfl (Zn ((f).f2) A24 rfl rfl rfl ⟨rfl, ?_⟩)
 refine DL_q rfl rfl (Zm (v := Value.pointer (some ⟨g, 0, none⟩)) rfl rfl ⟨rfl, ?_⟩)
 refine DL_q rfl rfl (Exec.nilCheck_ptr rfl rfl ⟨rfl, ?_⟩)
 refine DL_q rfl rfl (Zp F70_1 rfl rfl rfl ⟨rfl, ?_⟩)
 refine DL_q rfl rfl (Zn ((f).f2) A27 rfl rfl rfl ⟨rfl, ?_⟩)
 refine DL_q rfl rfl (Zp F49_1 rfl rfl rfl ⟨rfl, ?_⟩)
 refine DL_q rfl rfl (Zn ((f).f1) A3 rfl rfl rfl ⟨rfl, ?_⟩)
 obtain ⟨az, au, hm⟩ := Zg hm
 refine DL_q rfl rfl (Exec.index_repE S27 rfl rfl rfl an au ?_)
 intro a6 aB ao a8
 refine ⟨rfl, ?_⟩
 refine DL_q rfl rfl (Zp F64_1 rfl rfl rfl ⟨rfl, ?_⟩)
 refine DL_q rfl rfl (Zw (E := (encInt .i64)) f A3 rfl rfl rfl (ao.sub (Sub.iso (Sub.snd (Sub.refl _) rfl)) rfl) ?_)
 intro ay av
 obtain rfl : ay = Vi (az.Job) := encInt_val.1 av
 refine ⟨rfl, ?_⟩
 obtain ⟨j, aw, hm⟩ := Zg hm
 refine DL_q rfl rfl (Exec.index_repE S24 rfl rfl rfl am aw ?_)
 intro a7 aC ap a9
 refine ⟨rfl, ?_⟩
 refine DL_q rfl rfl (Zw (E := encJob) f A59 rfl rfl rfl ap ?_)
 intro aD ax
 obtain ⟨k, m, n, o, p, rfl, ac, ad, ae, af, ag⟩ := encJob_val.1 ax
 refine ⟨rfl, ?_⟩
 refine DL_done (Za rfl rfl (Exec.store_box (ds := [Value.string (j.Name), Vi (j.Duration), k, m, n, o, p]) (es := [Value.string (j.Name), Vi (j.Duration), k, m, n, o, p]) f A59 rfl rfl rfl rfl (Zj rfl (Zj rfl (Zj (ac).one (Zj (ad).one (Zj (ae).one (Zj (af).one (Zj (ag).one one_nil))))))) (Nat.le_of_ble_eq_true rfl) rfl ?_))
 intro aG ab
 refine Zb (Ze (W_ret ?_))
 have aA := Zu hm
 subst r
 refine ⟨_, retG1 rfl ⟨_, _, rfl, cellRes (ab) A59⟩, ?_⟩
 exact ⟨s, k, m, n, o, p, (Zv _), (((((ab).drop).drop).f2).f2).f2, rfl, ac, ad, ae, af, ag⟩
theorem simulate_happening_sim {w0 w : World} {s : PHeap} {H : List Res} {a : Job} {j : Bool} {d : Value} {k : Value} {f : Value} {g : Value} {h : Value} {r : (List Fact) × (List Fact)} (hm : simulate_happening_p a j = some r) (hS : St w0 s (H) w) (n : SliceRep encFact s d a.Start) (x : SliceRep encFact s k a.Over) (o : SliceRep encFact s f a.End) (p : SliceRep encFact s g a.AtStart) (q : SliceRep encFact s h a.AtEnd) :
  Calls Tryz.prog 52 #[Value.agg #[Value.string (a.Name), Vi (a.Duration), d, k, f, g, h], Value.bool (j)] w fun e w' => ∃ v, e = .returned v ∧ ((un2 fun (t : (List Fact)) (u : (List Fact)) => ∃ (i : PHeap) (l : Value) (m : Value), PHeap.le s i ∧ St w0 i (H) w' ∧ v = Value.tuple #[l, m] ∧ SliceRep encFact i l t ∧ SliceRep encFact i m u) r) := by
 unfold simulate_happening_p at hm
 refine calls_of_W Tryz.func52 rfl rfl (Zc (Zd (Za rfl rfl (Exec.box (cs := [Value.string (a.Name), Vi (a.Duration), d, k, f, g, h]) hS rfl rfl rfl ?_))))
 intro y ab b
 refine Za rfl rfl (Zo (v := Value.slice none 0 0) rfl rfl (Za rfl rfl (Zo (v := Value.slice none 0 0) rfl rfl (Zb (Ze (Zc (Zc (Zd (Za rfl rfl (Zm (v := Value.bool (j)) rfl rfl (Zb (Ze ?_))))))))))))
 rcases ite_some hm with ⟨c, hm⟩ | ⟨c, hm⟩
 ·refine W_cond_t rfl c (Zc (W_dl (n0 := 5) (qs 0 5 .done) hmix (by kernel_rfl) (by kernel_rfl) (DL_q rfl rfl (Zp F59_4 rfl rfl rfl ⟨rfl, ?_⟩))))
  refine DL_q rfl rfl (Zn (b.drew) A23 rfl rfl rfl ⟨rfl, ?_⟩)
  refine DL_q rfl rfl (Zp F59_6 rfl rfl rfl ⟨rfl, ?_⟩)
  refine DL_q rfl rfl (Zn (b.drew) A23 rfl rfl rfl ⟨rfl, ?_⟩)
  refine DL_q rfl rfl (Zo (v := f) rfl rfl ⟨rfl, ?_⟩)
  refine DL_done (Za rfl rfl (Zo (v := h) rfl rfl (Zb (Ze (W_ret (at_ret ?_))))))
  have z := Zu hm
  subst r
  refine ⟨_, ret2 rfl, ?_⟩
  exact ⟨s, f, h, (Zv _), (b.drew).drop, (tup2 rfl rfl), o, q⟩
 refine W_cond_f rfl c ?_
 replace c := Zk c
 refine W_skip (Ze (Zc (W_dl (n0 := 5) (qs 0 5 .done) hmix (by kernel_rfl) (by kernel_rfl) (DL_q rfl rfl (Zp F59_2 rfl rfl rfl ⟨rfl, ?_⟩)))))
 refine DL_q rfl rfl (Zn (b.drew) A23 rfl rfl rfl ⟨rfl, ?_⟩)
 refine DL_q rfl rfl (Zp F59_5 rfl rfl rfl ⟨rfl, ?_⟩)
 refine DL_q rfl rfl (Zn (b.drew) A23 rfl rfl rfl ⟨rfl, ?_⟩)
 refine DL_q rfl rfl (Zo (v := d) rfl rfl ⟨rfl, ?_⟩)
 refine DL_done (Za rfl rfl (Zo (v := g) rfl rfl (Zb (Ze (W_ret ?_)))))
 have aa := Zu hm
 subst r
 refine ⟨_, ret2 rfl, ?_⟩
 exact ⟨s, d, g, (Zv _), (b.drew).drop, (tup2 rfl rfl), n, p⟩
theorem simulate_shared_sim {w0 w : World} {s : PHeap} {H : List Res} {j : (List Fact)} {n : (List Fact)} {h : Value} {g : Value} {r : Int} (hm : simulate_shared_p j n = some r) (hS : St w0 s (H) w) (ag : SliceRep encFact s h j) (ah : SliceRep encFact s g n) :
  Calls Tryz.prog 66 #[h, g] w fun e w' => ∃ v, e = .returned v ∧ ((fun (b4 : Int) => ∃ (a7 : PHeap) , PHeap.le s a7 ∧ St w0 a7 (H) w' ∧ v = Vi (b4)) r) := by
 unfold simulate_shared_p at hm
 refine calls_of_W Tryz.func66 rfl rfl (Zc (Zd (Za rfl rfl (Zo (v := Vi (0)) rfl rfl (Zb (Ze (Zc (Zd (Za rfl rfl (Zo (v := Vi ((-1))) rfl rfl (Zb (Ze (Zc (Zc (Zd (Za rfl rfl (Zm (v := h) rfl rfl (Za rfl rfl (Zr S23 rfl rfl ag (Za rfl rfl (Zm (v := Vi (0)) rfl rfl (Zb (Ze ?_)))))))))))))))))))))))
 obtain ⟨x, aF, hm⟩ := Zg hm
 refine W_block (W_forS (fun k' s' f' w' => (fun (x : Int) => ∃ (a8 : PHeap) , PHeap.le s a8 ∧ St w0 a8 (H) w' ∧ f' 1 = g ∧ f' 5 = Vi (x) ∧ f' 10 = h ∧ f' 11 = Vi ((j.length : Int)) ∧ f' 12 = Vi (k' : Int)) s') aF ?_ ?_ ?_)
 ·exact ⟨s, (Zv _), hS, rfl, rfl, rfl, rfl, rfl⟩
 ·intro ac x bw bD bR aT aH p
  obtain ⟨a9, u, ar, aw, aZ, ax, ay, aq⟩ := aH
  refine Zc (Zd (Za rfl rfl (Zq rfl aq ay (Zb (Ze (Zc (W_true (Zx (decide_eq_true (by omega))) (W_skip (Ze (Zc (W_block (Zc (Zd ?_)))))))))))))
  obtain ⟨a, bs, p⟩ := Zg p
  refine Za rfl rfl (Exec.index_rep S23 rfl ax aq (ag.mono u) bs ?_)
  intro b5 bJ aD
  refine Za rfl rfl (Zw (E := encFact) ar A75 rfl rfl rfl aD ?_)
  intro bP bt
  obtain rfl := encFact_val.1 bt
  refine Za rfl rfl (Exec.alloc (cs := [Vi (0), Vi (0)]) ar Z75 rfl rfl ?_)
  intro l bS aN
  refine Za rfl rfl (Exec.store_box (ds := [Vi (a.Var), Vi (a.Val)]) (es := [Vi (a.Var), Vi (a.Val)]) aN A75 rfl rfl rfl rfl (Zj rfl (Zj rfl one_nil)) (Nat.le_of_ble_eq_true rfl) rfl ?_)
  intro bT aO
  refine Zb (Ze (Zc (Zd (Za rfl rfl (Zm (v := g) rfl aw (Za rfl rfl (Zr S23 rfl rfl (ah.mono u) (Za rfl rfl (Zm (v := Vi (0)) rfl rfl (Zb (Ze ?_)))))))))))
  obtain ⟨c, aG, p⟩ := Zg p
  refine W_block (W_forS (fun k' s' f' w' => (fun (c : Int) => ∃ (aA : PHeap) , PHeap.le a9 aA ∧ St w0 aA (Res.box l 75 [Vi (a.Var), Vi (a.Val)] :: H) w' ∧ f' 1 = g ∧ f' 5 = Vi (c) ∧ f' 7 = Value.pointer (some ⟨l, 0, none⟩) ∧ f' 10 = h ∧ f' 11 = Vi ((j.length : Int)) ∧ f' 12 = Vi ((ac : Int)) ∧ f' 16 = g ∧ f' 17 = Vi ((n.length : Int)) ∧ f' 18 = Vi (k' : Int)) s') aG ?_ ?_ ?_)
  ·exact ⟨a9, (Zv _), aO, aw, aZ, rfl, ax, ay, aq, rfl, rfl, rfl⟩
  ·intro aj c bx bE bU aU aI q
   obtain ⟨af, av, au, ak, z, aa, al, am, an, ad, ae, ab⟩ := aI
   refine Zc (Zd (Za rfl rfl (Zq rfl ab ae (Zb (Ze (Zc (W_true (Zx (decide_eq_true (by omega))) (W_skip (Ze (Zc (W_block (Zc (Zd ?_)))))))))))))
   obtain ⟨i, bu, q⟩ := Zg q
   refine Za rfl rfl (Exec.index_rep S23 rfl ad ab (ah.mono (Zt u av)) bu ?_)
   intro b6 bK aE
   refine Za rfl rfl (Zw (E := encFact) au A75 rfl rfl rfl aE ?_)
   intro bQ bv
   obtain rfl := encFact_val.1 bv
   refine Za rfl rfl (Exec.alloc (cs := [Vi (0), Vi (0)]) au Z75 rfl rfl ?_)
   intro b7 bV aP
   refine Za rfl rfl (Exec.store_box (ds := [Vi (i.Var), Vi (i.Val)]) (es := [Vi (i.Var), Vi (i.Val)]) aP A75 rfl rfl rfl rfl (Zj rfl (Zj rfl one_nil)) (Nat.le_of_ble_eq_true rfl) rfl ?_)
   intro bW m
   refine Zb (Ze (Zc (W_mid (M := fun f' w' => ∃ (aB : PHeap) , PHeap.le af aB ∧ St w0 aB (Res.box l 75 [Vi (a.Var), Vi (a.Val)] :: H) w' ∧ f' 1 = g ∧ f' 5 = Vi (c) ∧ f' 7 = Value.pointer (some ⟨l, 0, none⟩) ∧ f' 10 = h ∧ f' 11 = Vi ((j.length : Int)) ∧ f' 12 = Vi ((ac : Int)) ∧ f' 16 = g ∧ f' 17 = Vi ((n.length : Int)) ∧ f' 18 = Vi ((aj : Int)) ∧ f' 36 = Value.bool (((decide (a.Var = i.Var)) && ((decide (c < 0)) || decide (a.Var < c))))) ?_ ?_)))
   ·refine Zd (Za rfl rfl (Zp F75_0 rfl aa rfl (Za rfl rfl (Zn ((m).f1) A3 rfl rfl rfl (Za rfl rfl (Zp F75_0 rfl rfl rfl (Za rfl rfl (Zn (m) A3 rfl rfl rfl (Za rfl rfl (Exec.eql rfl rfl rfl (Za rfl rfl (Zm (v := Value.bool (decide (a.Var = i.Var))) rfl rfl ?_))))))))))))
    by_cases b : (decide (a.Var = i.Var)) = true
    ·refine WL_run rfl (Zf rfl (Zx b)) rfl (Zm (v := Vi (c)) rfl z (WL_run rfl (Zf rfl (Zx b)) rfl (Zq rfl rfl rfl (WL_run rfl (Zf rfl (Zx b)) rfl (Zm (v := Value.bool (decide (c < 0))) rfl rfl ?_)))))
     by_cases d : (decide (c < 0)) = true
     ·refine WL_passes 4 (by rw [d]; rfl) ?_
      refine WL_run rfl (Zf rfl (Zx b)) rfl (Zs (v := Value.bool (true)) rfl rfl rfl (Za rfl rfl (Zs (v := Value.bool (true)) rfl (Zx b) rfl (Zb (Ze ?_)))))
      exact ⟨af, (Zv _), (m).drop, ak, z, aa, al, am, an, ad, ae, ab, (Zx (Eq.trans (and_t b) (or_t d))).symm⟩
     replace d := Zk d
     refine WL_run rfl (Zf rfl (Zx d)) rfl (Zp F75_0 rfl aa rfl (WL_run rfl (Zf rfl (Zx d)) rfl (Zn ((m).f1) A3 rfl rfl rfl (WL_run rfl (Zf rfl (Zx d)) rfl (Zm (v := Vi (c)) rfl z (WL_run rfl (Zf rfl (Zx d)) rfl (Zq rfl rfl rfl (WL_run rfl (Zf rfl (Zx b)) rfl (Exec.pick_f (v := Value.bool (decide (a.Var < c))) rfl (Zx d) rfl (Za rfl rfl (Zs (v := Value.bool (decide (a.Var < c))) rfl (Zx b) rfl (Zb (Ze ?_)))))))))))))
     exact ⟨af, (Zv _), (m).drop, ak, z, aa, al, am, an, ad, ae, ab, (Zx (Eq.trans (and_t b) (or_f d))).symm⟩
    replace b := Zk b
    refine WL_passes 9 (by rw [b]; rfl) ?_
    refine Zb (Ze ?_)
    exact ⟨af, (Zv _), (m).drop, ak, z, aa, al, am, an, ad, ae, ab, (Zx (and_f b)).symm⟩
   intro bF bX aL
   obtain ⟨ap, aV, ai, az, ba, ao, a0, a1, a2, a3, a4, a5, a6⟩ := aL
   refine (Ze ?_)
   obtain ⟨y, t, q⟩ := Zg q
   refine W_mid (M := fun f' w' => (fun (y : Int) => ∃ (aC : PHeap) , PHeap.le ap aC ∧ St w0 aC (Res.box l 75 [Vi (a.Var), Vi (a.Val)] :: H) w' ∧ f' 1 = g ∧ f' 5 = Vi (y) ∧ f' 7 = Value.pointer (some ⟨l, 0, none⟩) ∧ f' 10 = h ∧ f' 11 = Vi ((j.length : Int)) ∧ f' 12 = Vi ((ac : Int)) ∧ f' 16 = g ∧ f' 17 = Vi ((n.length : Int)) ∧ f' 18 = Vi ((aj : Int))) y) ?_ ?_
   ·rcases ite_some t with ⟨o, t⟩ | ⟨o, t⟩
    ·refine W_cond_t a6 o (Zd (Za rfl rfl (Zp F75_0 rfl ao rfl (Za rfl rfl (Zn (ai) A3 rfl rfl rfl (Za rfl rfl (Zo (v := Vi (a.Var)) rfl rfl (Zb (Ze ?_)))))))))
     have b8 := Zu t
     subst y
     exact ⟨ap, (Zv _), ai, az, rfl, ao, a0, a1, a2, a3, a4, a5⟩
    refine W_cond_f a6 o ?_
    replace o := Zk o
    refine W_skip (Ze ?_)
    have b9 := Zu t
    subst y
    exact ⟨ap, (Zv _), ai, az, ba, ao, a0, a1, a2, a3, a4, a5⟩
   intro bG bY aM
   obtain ⟨bz, aW, aQ, bb, bc, bd, be, bf, bg, bh, bi, bj⟩ := aM
   refine (ib_normal (Ze (Zd (Za rfl rfl (Exec.add rfl bj rfl (Za rfl rfl (Zm (v := Vi (IntKind.i64.wrap ((aj : Int) + 1))) rfl rfl (Zb (Ze ?_)))))))))
   have bA := Zu q
   subst bx
   exact ⟨bz, (Zt (Zt av aV) aW), aQ, bb, bc, bd, be, bf, bg, bh, bi, (Eq.trans rfl (wrap_up aU (SliceRep.le (ah.mono u))))⟩
  intro bH bZ aJ
  obtain ⟨b0, aX, aR, bk, bl, bL, bm, bn, bo, bM, bp, b2⟩ := aJ
  refine Zc (Zd (Za rfl rfl (Zq rfl b2 bp (Zb (Ze (Zc (W_false (Zx (decide_eq_false (by omega))) (W_exit (at_exit (at_exit (ib_here (ib_normal (Ze (Zd (Za rfl rfl (Exec.add rfl bo rfl (Za rfl rfl (Zm (v := Vi (IntKind.i64.wrap ((ac : Int) + 1))) rfl rfl (Zb (Ze ?_))))))))))))))))))))
  have bB := Zu p
  subst bw
  exact ⟨b0, (Zt u aX), (aR).drop, bk, bl, bm, bn, (Eq.trans rfl (wrap_up aT (SliceRep.le ag)))⟩
 intro bI ca aK
 obtain ⟨b1, aY, aS, bN, bq, bO, br, b3⟩ := aK
 refine Zc (Zd (Za rfl rfl (Zq rfl b3 br (Zb (Ze (Zc (W_false (Zx (decide_eq_false (by omega))) (W_exit (at_exit (at_exit (ib_here (Ze (Zc (Zd (Za rfl rfl (Zm (v := Vi (x)) rfl bq (Za rfl rfl (Zo (v := Vi (x)) rfl rfl (Zb (Ze (W_ret ?_)))))))))))))))))))))
 have bC := Zu hm
 subst r
 refine ⟨_, ret1 rfl, ?_⟩
 exact ⟨b1, aY, aS, rfl⟩
theorem simulate_meeting_sim {w0 w : World} {s : PHeap} {H : List Res} {b : Job} {ab : Bool} {d : Job} {ac : Bool} {ai : Value} {aj : Value} {ak : Value} {al : Value} {am : Value} {an : Value} {ao : Value} {ap : Value} {aq : Value} {ar : Value} {r : Int} (hm : simulate_meeting_p b ab d ac = some r) (hS : St w0 s (H) w) (aG : SliceRep encFact s ai b.Start) (aH : SliceRep encFact s aj b.Over) (aI : SliceRep encFact s ak b.End) (aJ : SliceRep encFact s al b.AtStart) (aK : SliceRep encFact s am b.AtEnd) (aL : SliceRep encFact s an d.Start) (aM : SliceRep encFact s ao d.Over) (aN : SliceRep encFact s ap d.End) (aO : SliceRep encFact s aq d.AtStart) (aP : SliceRep encFact s ar d.AtEnd) :
  Calls Tryz.prog 50 #[Value.agg #[Value.string (b.Name), Vi (b.Duration), ai, aj, ak, al, am], Value.bool (ab), Value.agg #[Value.string (d.Name), Vi (d.Duration), an, ao, ap, aq, ar], Value.bool (ac)] w fun e w' => ∃ v, e = .returned v ∧ ((fun (b7 : Int) => ∃ (aB : PHeap) , PHeap.le s aB ∧ St w0 aB (H) w' ∧ v = Vi (b7)) r) := by
 unfold simulate_meeting_p at hm
 refine calls_of_W Tryz.func50 rfl rfl (Zc (Zd (Za rfl rfl (Exec.box (cs := [Value.string (b.Name), Vi (b.Duration), ai, aj, ak, al, am]) hS rfl rfl rfl ?_))))
 intro b8 bR aW
 refine Za rfl rfl (Exec.box (cs := [Value.string (d.Name), Vi (d.Duration), an, ao, ap, aq, ar]) aW rfl rfl rfl ?_)
 intro b9 bS a1
 refine Za rfl rfl (Zo (v := Vi (0)) rfl rfl (Zb (Ze (Zc (Zd (Za rfl rfl (Exec.load_box_agg (ds := [Value.string (b.Name), Vi (b.Duration), ai, aj, ak, al, am]) ((a1).f1) A59 rfl rfl rfl (Za rfl rfl (Zm (v := Value.bool (ab)) rfl rfl (Za rfl rfl (Tc rfl rfl rfl (Zi rfl (Zi rfl args_nil)) (simulate_happening_sim (simulate_happening_tot b ab) a1 aG aH aI aJ aK).r ?_)))))))))))
 rintro _ bT ⟨bL, au, y, n, a2, rfl, b1, a9⟩
 refine Za rfl rfl (Zm (v := Value.tuple #[au, y]) rfl rfl (Za rfl rfl (Exec.extract (v := au) rfl rfl rfl (Za rfl rfl (Exec.extract (v := y) rfl rfl rfl (Za rfl rfl (Zo (v := au) rfl rfl (Za rfl rfl (Zo (v := y) rfl rfl (Zb (Ze (Zc (Zd (Za rfl rfl (Exec.load_box_agg (ds := [Value.string (d.Name), Vi (d.Duration), an, ao, ap, aq, ar]) (a2) A59 rfl rfl rfl (Za rfl rfl (Zm (v := Value.bool (ac)) rfl rfl (Za rfl rfl (Tc rfl rfl rfl (Zi rfl (Zi rfl args_nil)) (simulate_happening_sim (simulate_happening_tot d ac) a2 (aL.mono n) (aM.mono n) (aN.mono n) (aO.mono n) (aP.mono n)).r ?_)))))))))))))))))))
 rintro _ bU ⟨bM, av, z, ae, aX, rfl, b2, aA⟩
 refine Za rfl rfl (Zm (v := Value.tuple #[av, z]) rfl rfl (Za rfl rfl (Exec.extract (v := av) rfl rfl rfl (Za rfl rfl (Exec.extract (v := z) rfl rfl rfl (Za rfl rfl (Zo (v := av) rfl rfl (Za rfl rfl (Zo (v := z) rfl rfl (Zb (Ze (Zc (Zd (Za rfl rfl (Zo (v := Vi ((-1))) rfl rfl (Zb (Ze (Zc (Zc (Zd (Za rfl rfl (Zm (v := y) rfl rfl (Za rfl rfl (Zm (v := z) rfl rfl ?_))))))))))))))))))))))))
 obtain ⟨m, bv, hm⟩ := Zg hm
 refine Za rfl rfl (Tc rfl rfl rfl (Zi rfl (Zi rfl args_nil)) (simulate_shared_sim bv aX (a9.mono ae) aA).r ?_)
 rintro _ bV ⟨bN, t, aY, rfl⟩
 refine Za rfl rfl (Zm (v := y) rfl rfl (Za rfl rfl (Zm (v := av) rfl rfl ?_)))
 obtain ⟨l, bw, hm⟩ := Zg hm
 refine Za rfl rfl (Tc rfl rfl rfl (Zi rfl (Zi rfl args_nil)) (simulate_shared_sim bw aY (a9.mono (Zt ae t)) (b2.mono t)).r ?_)
 rintro _ bW ⟨bO, ay, aZ, rfl⟩
 refine Za rfl rfl (Zm (v := z) rfl rfl (Za rfl rfl (Zm (v := au) rfl rfl ?_)))
 obtain ⟨j, bx, hm⟩ := Zg hm
 refine Za rfl rfl (Tc rfl rfl rfl (Zi rfl (Zi rfl args_nil)) (simulate_shared_sim bx aZ (aA.mono (Zt t ay)) (b1.mono (Zt (Zt ae t) ay))).r ?_)
 rintro _ bX ⟨bP, bi, ba, rfl⟩
 refine Za rfl rfl (Exec.buildSlice (Te := 3) (cs := [Vi (m), Vi (l), Vi (j)]) ba rfl (parts_cons (c := [Vi (m)]) (cells_of rfl rfl) (parts_cons (c := [Vi (l)]) (cells_of rfl rfl) (parts_cons (c := [Vi (j)]) (cells_of rfl rfl) parts_nil))) (fun _ => by kernel_rfl) ?_)
 intro aw bY bb
 have bc := St.boxArr (E := (encInt .i64)) (xs := [m, l, j]) bb ⟨[Vi (m)], [Vi (l), Vi (j)], rfl, rfl, ⟨[Vi (l)], [Vi (j)], rfl, rfl, ⟨[Vi (j)], [], rfl, rfl, rfl⟩⟩⟩ (by simp [maxLen])
 obtain ⟨aC, bj, bd, az⟩ := bc.freezeArr
 refine Za rfl rfl (Zr S22 rfl rfl az (Za rfl rfl (Zm (v := Vi (0)) rfl rfl (Zb (Ze ?_)))))
 obtain ⟨a, aR, hm⟩ := Zg hm
 refine W_block (W_forS (fun k' s' f' w' => (fun (a : Int) => ∃ (aD : PHeap) , PHeap.le aC aD ∧ St w0 aD (H) w' ∧ f' 13 = Vi (a) ∧ f' 37 = Value.slice (some ⟨aw, 0, none⟩) 3 3 ∧ f' 38 = Vi (([m, l, j].length : Int)) ∧ f' 39 = Vi (k' : Int)) s') aR ?_ ?_ ?_)
 ·have be := (bd).drop
  exact ⟨aC, (Zv _), (be).drop, rfl, rfl, rfl, rfl⟩
 ·intro ax a b3 bF bZ bh aS p
  obtain ⟨ah, a4, ad, x, af, ag, aa⟩ := aS
  refine Zc (Zd (Za rfl rfl (Zq rfl aa ag (Zb (Ze (Zc (W_true (Zx (decide_eq_true (by omega))) (W_skip (Ze (Zc (W_block (Zc (Zd ?_)))))))))))))
  obtain ⟨h, bz, p⟩ := Zg p
  refine Za rfl rfl (Exec.index_rep S22 rfl af aa (az.mono a4) bz ?_)
  intro bA bJ aQ
  refine Za rfl rfl (Zw (E := (encInt .i64)) ad A3 rfl rfl rfl aQ ?_)
  intro bQ b0
  obtain rfl := encInt_val.1 b0
  refine Za rfl rfl (Zo (v := Vi (h)) rfl rfl (Zb (Ze (Zc (W_mid (M := fun f' w' => ∃ (aE : PHeap) , PHeap.le ah aE ∧ St w0 aE (H) w' ∧ f' 13 = Vi (a) ∧ f' 15 = Vi (h) ∧ f' 37 = Value.slice (some ⟨aw, 0, none⟩) 3 3 ∧ f' 38 = Vi (([m, l, j].length : Int)) ∧ f' 39 = Vi ((ax : Int)) ∧ f' 53 = Value.bool (((decide (0 ≤ h)) && ((decide (a < 0)) || decide (h < a))))) ?_ ?_)))))
  ·refine Zd (Za rfl rfl (Zm (v := Vi (h)) rfl rfl (Za rfl rfl (Exec.geq rfl rfl rfl (Za rfl rfl (Zm (v := Value.bool (decide (0 ≤ h))) rfl rfl ?_))))))
   by_cases g : (decide (0 ≤ h)) = true
   ·refine WL_run rfl (Zf rfl (Zx g)) rfl (Zm (v := Vi (a)) rfl x (WL_run rfl (Zf rfl (Zx g)) rfl (Zq rfl rfl rfl (WL_run rfl (Zf rfl (Zx g)) rfl (Zm (v := Value.bool (decide (a < 0))) rfl rfl ?_)))))
    by_cases i : (decide (a < 0)) = true
    ·refine WL_passes 3 (by rw [i]; rfl) ?_
     refine WL_run rfl (Zf rfl (Zx g)) rfl (Zs (v := Value.bool (true)) rfl rfl rfl (Za rfl rfl (Zs (v := Value.bool (true)) rfl (Zx g) rfl (Zb (Ze ?_)))))
     exact ⟨ah, (Zv _), ad, x, rfl, af, ag, aa, (Zx (Eq.trans (and_t g) (or_t i))).symm⟩
    replace i := Zk i
    refine WL_run rfl (Zf rfl (Zx i)) rfl (Zm (v := Vi (h)) rfl rfl (WL_run rfl (Zf rfl (Zx i)) rfl (Zm (v := Vi (a)) rfl x (WL_run rfl (Zf rfl (Zx i)) rfl (Zq rfl rfl rfl (WL_run rfl (Zf rfl (Zx g)) rfl (Exec.pick_f (v := Value.bool (decide (h < a))) rfl (Zx i) rfl (Za rfl rfl (Zs (v := Value.bool (decide (h < a))) rfl (Zx g) rfl (Zb (Ze ?_)))))))))))
    exact ⟨ah, (Zv _), ad, x, rfl, af, ag, aa, (Zx (Eq.trans (and_t g) (or_f i))).symm⟩
   replace g := Zk g
   refine WL_passes 8 (by rw [g]; rfl) ?_
   refine Zb (Ze ?_)
   exact ⟨ah, (Zv _), ad, x, rfl, af, ag, aa, (Zx (and_f g)).symm⟩
  intro bG ca aU
  obtain ⟨a0, bk, a3, bn, bo, a5, a6, a7, a8⟩ := aU
  refine (Ze ?_)
  obtain ⟨u, q, p⟩ := Zg p
  refine W_mid (M := fun f' w' => (fun (u : Int) => ∃ (aF : PHeap) , PHeap.le a0 aF ∧ St w0 aF (H) w' ∧ f' 13 = Vi (u) ∧ f' 37 = Value.slice (some ⟨aw, 0, none⟩) 3 3 ∧ f' 38 = Vi (([m, l, j].length : Int)) ∧ f' 39 = Vi ((ax : Int))) u) ?_ ?_
  ·rcases ite_some q with ⟨o, q⟩ | ⟨o, q⟩
   ·refine W_cond_t a8 o (Zd (Za rfl rfl (Zm (v := Vi (h)) rfl bo (Za rfl rfl (Zo (v := Vi (h)) rfl rfl (Zb (Ze ?_)))))))
    have bB := Zu q
    subst u
    exact ⟨a0, (Zv _), a3, rfl, a5, a6, a7⟩
   refine W_cond_f a8 o ?_
   replace o := Zk o
   refine W_skip (Ze ?_)
   have bC := Zu q
   subst u
   exact ⟨a0, (Zv _), a3, bn, a5, a6, a7⟩
  intro bH cb aV
  obtain ⟨b4, bl, bf, bp, bq, br, bs⟩ := aV
  refine (ib_normal (Ze (Zd (Za rfl rfl (Exec.add rfl bs rfl (Za rfl rfl (Zm (v := Vi (IntKind.i64.wrap ((ax : Int) + 1))) rfl rfl (Zb (Ze ?_)))))))))
  have bD := Zu p
  subst b3
  exact ⟨b4, (Zt (Zt a4 bk) bl), bf, bp, bq, br, (Eq.trans rfl (wrap_up bh (SliceRep.le az)))⟩
 intro bI cc aT
 obtain ⟨b5, bm, bg, bt, bK, bu, b6⟩ := aT
 refine Zc (Zd (Za rfl rfl (Zq rfl b6 bu (Zb (Ze (Zc (W_false (Zx (decide_eq_false (by omega))) (W_exit (at_exit (at_exit (ib_here (Ze (Zc (Zd (Za rfl rfl (Zm (v := Vi (a)) rfl bt (Za rfl rfl (Zo (v := Vi (a)) rfl rfl (Zb (Ze (W_ret ?_)))))))))))))))))))))
 have bE := Zu hm
 subst r
 refine ⟨_, ret1 rfl, ?_⟩
 exact ⟨b5, (Zt (Zt (Zt (Zt (Zt (Zt n ae) t) ay) bi) bj) bm), bg, rfl⟩
theorem simulate_missing_sim {w0 w : World} {s : PHeap} {H : List Res} {m : (List Fact)} {aj : (List Int)} {j : Value} {l : Value} {r : (List Fact)} (hm : simulate_missing_p m aj = some r) (hS : St w0 s (H) w) (p : SliceRep encFact s j m) (am : SliceRep (encInt .i64) s l aj) :
  Calls Tryz.prog 20 #[j, l] w fun e w' => ∃ v, e = .returned v ∧ ((fun (aQ : (List Fact)) => ∃ (aa : PHeap) (ak : Value), PHeap.le s aa ∧ St w0 aa (H) w' ∧ v = ak ∧ SliceRep encFact aa ak aQ) r) := by
 unfold simulate_missing_p at hm
 refine calls_of_W Tryz.func20 rfl rfl (Zc (Zd (Za rfl rfl (Zo (v := Value.slice none 0 0) rfl rfl (Zb (Ze (Zc (Zd (Za rfl rfl (Zo (v := Value.slice none 0 0) rfl rfl (Zb (Ze (Zc (Zc (Zd (Za rfl rfl (Zm (v := j) rfl rfl (Za rfl rfl (Zr S23 rfl rfl p (Za rfl rfl (Zm (v := Vi (0)) rfl rfl (Zb (Ze ?_)))))))))))))))))))))))
 obtain ⟨u, ao, hm⟩ := Zg hm
 refine W_block (W_forS (fun k' s' f' w' => (fun (u : (List Fact)) => ∃ (ah : PHeap) (b : Value), PHeap.le s ah ∧ St w0 ah (Res.arr encFact 75 b u :: H) w' ∧ f' 1 = l ∧ f' 5 = b ∧ f' 8 = j ∧ f' 9 = Vi ((m.length : Int)) ∧ f' 10 = Vi (k' : Int)) s') ao ?_ ?_ ?_)
 ·have au := hS.nilArr encFact 75
  exact ⟨s, (Value.slice none 0 0), (Zv _), au, rfl, rfl, rfl, rfl, rfl⟩
 ·intro ae u aM aZ bk a4 ap d
  obtain ⟨bg, b, t, ac, x, ag, y, z, o⟩ := ap
  refine Zc (Zd (Za rfl rfl (Zq rfl o z (Zb (Ze (Zc (W_true (Zx (decide_eq_true (by omega))) (W_skip (Ze (Zc (W_block (Zc (Zd ?_)))))))))))))
  obtain ⟨a, aG, d⟩ := Zg d
  refine Za rfl rfl (Exec.index_rep S23 rfl y o (p.mono t) aG ?_)
  intro aR bd an
  refine Za rfl rfl (Zw (E := encFact) ac A75 rfl rfl rfl an ?_)
  intro bj aH
  obtain rfl := encFact_val.1 aH
  refine Za rfl rfl (Exec.alloc (cs := [Vi (0), Vi (0)]) ac Z75 rfl rfl ?_)
  intro aS bl av
  refine Za rfl rfl (Exec.store_box (ds := [Vi (a.Var), Vi (a.Val)]) (es := [Vi (a.Var), Vi (a.Val)]) av A75 rfl rfl rfl rfl (Zj rfl (Zj rfl one_nil)) (Nat.le_of_ble_eq_true rfl) rfl ?_)
  intro bm ad
  refine Zb (Ze (Zc (Zd (Za rfl rfl (Exec.load_box_agg (ds := [Vi (a.Var), Vi (a.Val)]) (ad) A75 rfl rfl rfl (Za rfl rfl (Exec.buildSlice (Te := 75) (cs := [Vi (a.Var), Vi (a.Val)]) ad rfl (parts_cons (c := [Vi (a.Var), Vi (a.Val)]) (cells_of rfl rfl) parts_nil) (fun _ => by kernel_rfl) ?_)))))))
  intro aT bn aw
  refine Za rfl rfl (Zm (v := l) rfl x ?_)
  have ax := St.boxArr (E := encFact) (xs := [a]) aw ⟨[Vi (a.Var), Vi (a.Val)], [], rfl, ⟨[Vi (a.Var)], [Vi (a.Val)], rfl, rfl, rfl⟩, rfl⟩ (by simp [maxLen])
  obtain ⟨bh, af, ay, aK⟩ := ax.freezeArr
  obtain ⟨bt, aI, d⟩ := Zg d
  refine Za rfl rfl (Tc rfl rfl rfl (Zi rfl (Zi rfl args_nil)) (task_Holds_sim aI ay aK (am.mono (Zt t af))).r ?_)
  rintro _ bo ⟨ab, a5, q, rfl⟩
  refine Za rfl rfl (Exec.not rfl rfl (Zb (Ze ?_)))
  obtain ⟨i, g, d⟩ := Zg d
  refine W_mid (M := fun f' w' => (fun (i : (List Fact)) => ∃ (ai : PHeap) (n : Value), PHeap.le ab ai ∧ St w0 ai (Res.arr encFact 75 n i :: H) w' ∧ f' 1 = l ∧ f' 5 = n ∧ f' 8 = j ∧ f' 9 = Vi ((m.length : Int)) ∧ f' 10 = Vi ((ae : Int))) i) ?_ ?_
  ·rcases ite_some g with ⟨h, g⟩ | ⟨h, g⟩
   ·refine W_cond_t rfl h (Zd (Za rfl rfl (Zm (v := b) rfl ag (Za rfl rfl (Exec.load_box_agg (ds := [Vi (a.Var), Vi (a.Val)]) (q) A75 rfl rfl rfl (Za rfl rfl (Exec.buildSlice (Te := 75) (cs := [Vi (a.Var), Vi (a.Val)]) q rfl (parts_cons (c := [Vi (a.Var), Vi (a.Val)]) (cells_of rfl rfl) parts_nil) (fun _ => by kernel_rfl) ?_)))))))
    intro aU bp az
    obtain ⟨bc, aJ, g⟩ := Zg g
    refine Za rfl rfl (Exec.append_box (E := encFact) (ys := [a]) (az).f2 S23 Z75 rfl (by decide) rfl rfl rfl rfl ⟨[Vi (a.Var), Vi (a.Val)], [], rfl, ⟨[Vi (a.Var)], [Vi (a.Val)], rfl, rfl, rfl⟩, rfl⟩ rfl aJ ?_)
    intro al bq a0
    refine Za rfl rfl (Zo (v := al) rfl rfl (Zb (Ze ?_)))
    have aV := Zu g
    subst i
    exact ⟨ab, al, (Zv _), ((a0).f1).drop, x, rfl, y, z, o⟩
   refine W_cond_f rfl h ?_
   replace h := Zk h
   refine W_skip (Ze ?_)
   have aW := Zu g
   subst i
   exact ⟨ab, b, (Zv _), (q).drop, x, ag, y, z, o⟩
  intro ba br ar
  obtain ⟨aN, n, a6, a1, a9, aA, aB, aC, aD⟩ := ar
  refine (ib_normal (Ze (Zd (Za rfl rfl (Exec.add rfl aD rfl (Za rfl rfl (Zm (v := Vi (IntKind.i64.wrap ((ae : Int) + 1))) rfl rfl (Zb (Ze ?_)))))))))
  have aX := Zu d
  subst aM
  exact ⟨aN, n, (Zt (Zt (Zt t af) a5) a6), a1, a9, aA, aB, aC, (Eq.trans rfl (wrap_up a4 (SliceRep.le p)))⟩
 intro bb bs aq
 obtain ⟨bi, b, a7, a2, be, aE, bf, aF, aP⟩ := aq
 refine Zc (Zd (Za rfl rfl (Zq rfl aP aF (Zb (Ze (Zc (W_false (Zx (decide_eq_false (by omega))) (W_exit (at_exit (at_exit (ib_here (Ze (Zc (Zd (Za rfl rfl (Zm (v := b) rfl aE (Za rfl rfl (Zo (v := b) rfl rfl (Zb (Ze (W_ret ?_)))))))))))))))))))))
 have aY := Zu hm
 subst r
 refine ⟨_, ret1 rfl, ?_⟩
 obtain ⟨aO, a8, a3, aL⟩ := a2.freezeArr
 exact ⟨aO, b, (Zt a7 a8), a3, rfl, aL⟩
theorem slices_Clone_simulateEvent_sim {w0 w : World} {s : PHeap} {H : List Res} {b : (List simulate_Event)} {c : Value} {r : (List simulate_Event)} (hm : slices_Clone_simulateEvent_p b = some r) (hS : St w0 s (H) w) (d : SliceRep encsimulate_Event s c b) :
  Calls Tryz.prog 78 #[c] w fun e w' => ∃ v, e = .returned v ∧ ((fun (u : (List simulate_Event)) => ∃ (g : PHeap) (h : Value), PHeap.le s g ∧ St w0 g (Res.arr encsimulate_Event 49 h u :: H) w' ∧ v = h) r) := by
 unfold slices_Clone_simulateEvent_p at hm
 refine calls_of_W Tryz.func78 rfl rfl (Zc (Zd (Za rfl rfl (Zo (v := Value.slice none 0 0) rfl rfl (Zb (Ze (Zc (Zc (Zd (Za rfl rfl (Zm (v := c) rfl rfl ?_)))))))))))
 obtain ⟨j, ab, y, k, p⟩ := (d).nilShape
 refine Za rfl rfl (Exec.slice_eql_nil Tryz.underlying30 rfl k rfl (Zb (Ze ?_)))
 by_cases a : j.isNone = true
 ·have q := p a
  replace hm := (show (some []) = ((app 24 [] b).bind fun f => some f) from by simp [q, app]).trans hm
  refine W_true ((Zx a)) (Zc (Zd (Za rfl rfl (Zo (v := Value.slice none 0 0) rfl rfl (Zb (Ze (W_ret (at_ret ?_))))))))
  have z := Zu hm
  subst r
  refine ⟨_, ret1 rfl, ?_⟩
  have l := hS.nilArr encsimulate_Event 49
  exact ⟨s, (Value.slice none 0 0), (Zv _), l, rfl⟩
 replace a := Zk a
 refine W_false ((Zx a)) (W_skip (Ze (Zc (Zd (Za rfl rfl (Exec.buildSlice (Te := 49) (cs := []) hS rfl parts_nil (fun _ => by kernel_rfl) ?_))))))
 intro x ac m
 refine Za rfl rfl (Zm (v := c) rfl rfl ?_)
 have n := St.boxArr (E := encsimulate_Event) (xs := []) m rfl (by simp [maxLen])
 obtain ⟨f, t, hm⟩ := Zg hm
 refine Za rfl rfl (Exec.append_rep (E := encsimulate_Event) (ys := b) n S30 Z49 rfl (by decide) rfl rfl rfl d t ?_)
 intro i ad o
 refine Za rfl rfl (Zo (v := i) rfl rfl (Zb (Ze (W_ret ?_))))
 have aa := Zu hm
 subst r
 refine ⟨_, ret1 rfl, ?_⟩
 exact ⟨s, i, (Zv _), o, rfl⟩
theorem A68 : tyAgg Tryz.prog 68 = some (false, 1) := by kernel_rfl
theorem N80 : (Tryz.f80.name == "runtime.NumGoroutine") = false := by kernel_rfl
theorem simulate_run_write_c1_sim {w0 w : World} {s : PHeap} {H : List Res} {a : simulate_Event} {b : simulate_Event} {d : simulate_run} {z : Nat} {u : Nat} {ad : Value} {ae : Value} {af : Value} {ag : Value} {ah : Value} {ai : Value} {x : Value} {y : Value} {r : Int} (hm : simulate_run_write_c1_p a b d = some r) (hS : St w0 s (Res.box z 68 [Value.pointer (some ⟨u, 0, none⟩)] :: Res.box u 70 [ad, ae, af, ag, ah, ai, x, y, Vi (d.out.Makespan)] :: Res.arr (encSlice (encInt .i64)) 22 x d.out.States :: Res.arr encsimulate_Problem 52 y d.out.Problems :: H) w) (a8 : SliceRep (encInt .i64) s ad d.t.Vars) (a9 : SliceRep (encInt .i64) s ae d.t.Init) (aA : SliceRep encFact s af d.t.Goal) (aB : SliceRep encJob s ag d.t.Jobs) (aj : SliceRep encLaunch s ah d.l) (aC : SliceRep encsimulate_Event s ai d.out.Events) :
  Calls Tryz.prog 80 #[Value.agg #[Vi (a.At), Vi (a.Launch), Value.bool (a.End)], Value.agg #[Vi (b.At), Vi (b.Launch), Value.bool (b.End)], Value.pointer (some ⟨z, 0, none⟩)] w fun e w' => ∃ v, e = .returned v ∧ ((fun (a6 : Int) => ∃ (ak : PHeap) , PHeap.le s ak ∧ St w0 ak (Res.box z 68 [Value.pointer (some ⟨u, 0, none⟩)] :: Res.box u 70 [ad, ae, af, ag, ah, ai, x, y, Vi (d.out.Makespan)] :: Res.arr (encSlice (encInt .i64)) 22 x d.out.States :: Res.arr encsimulate_Problem 52 y d.out.Problems :: H) w' ∧ v = Vi (a6)) r) := by
 unfold simulate_run_write_c1_p at hm
 refine calls_of_W Tryz.func80 rfl rfl (Zc (Zd (Za rfl rfl (Exec.box (cs := [Vi (a.At), Vi (a.Launch), Value.bool (a.End)]) hS rfl rfl rfl ?_))))
 intro aD aQ al
 refine Za rfl rfl (Exec.box (cs := [Vi (b.At), Vi (b.Launch), Value.bool (b.End)]) al rfl rfl rfl ?_)
 intro aE aR am
 refine Za rfl rfl (Zo (v := Vi (0)) rfl rfl (Zb (Ze (Zc (W_dl (n0 := 28) (.q 0 (.q 1 (.q 3 (.q 4 (qs 7 18 (.e 2 [3, 4, 7, 8, 9, 10, 11, 12, 13, 14, 15, 16, 17, 18, 19, 20, 21, 22, 23, 24] (.e 5 [7, 8, 9, 10, 11, 12, 13, 14, 15, 16, 17, 18, 19, 20, 21, 22, 23, 24] (.e 6 [7, 8, 9, 10, 11, 12, 13, 14, 15, 16, 17, 18, 19, 20, 21, 22, 23, 24] (.e 25 [] (.e 26 [] (.e 27 [] .done))))))))))) hmix (by kernel_rfl) (by kernel_rfl) ?_)))))
 have f := am.drew
 refine DL_q rfl rfl (Zp F49_2 rfl rfl rfl ⟨rfl, ?_⟩)
 refine DL_q rfl rfl (Zn ((f).f1) A4 rfl rfl rfl ⟨rfl, ?_⟩)
 refine DL_q rfl rfl (Zp F49_2 rfl rfl rfl ⟨rfl, ?_⟩)
 refine DL_q rfl rfl (Zn (f) A4 rfl rfl rfl ⟨rfl, ?_⟩)
 refine DL_q rfl rfl (Zn ((f).f2) A68 rfl rfl rfl ⟨rfl, ?_⟩)
 refine DL_q rfl rfl (Exec.nilCheck_ptr rfl rfl ⟨rfl, ?_⟩)
 refine DL_q rfl rfl (Zp F70_1 rfl rfl rfl ⟨rfl, ?_⟩)
 refine DL_q rfl rfl (Zn ((f).f3) A27 rfl rfl rfl ⟨rfl, ?_⟩)
 refine DL_q rfl rfl (Zp F49_1 rfl rfl rfl ⟨rfl, ?_⟩)
 refine DL_q rfl rfl (Zn ((f).f1) A3 rfl rfl rfl ⟨rfl, ?_⟩)
 obtain ⟨k, ax, hm⟩ := Zg hm
 refine DL_q rfl rfl (Exec.index_repE S27 rfl rfl rfl aj ax ?_)
 intro aF aJ o aa
 refine ⟨rfl, ?_⟩
 refine DL_q rfl rfl (Zp F64_1 rfl rfl rfl ⟨rfl, ?_⟩)
 refine DL_q rfl rfl (Zw (E := (encInt .i64)) f A3 rfl rfl rfl (o.sub (Sub.iso (Sub.snd (Sub.refl _) rfl)) rfl) ?_)
 intro a4 ay
 obtain rfl : a4 = Vi (k.Job) := encInt_val.1 ay
 refine ⟨rfl, ?_⟩
 refine DL_q rfl rfl (Zn ((f).f2) A68 rfl rfl rfl ⟨rfl, ?_⟩)
 refine DL_q rfl rfl (Exec.nilCheck_ptr rfl rfl ⟨rfl, ?_⟩)
 refine DL_q rfl rfl (Zp F70_1 rfl rfl rfl ⟨rfl, ?_⟩)
 refine DL_q rfl rfl (Zn ((f).f3) A27 rfl rfl rfl ⟨rfl, ?_⟩)
 refine DL_q rfl rfl (Zp F49_1 rfl rfl rfl ⟨rfl, ?_⟩)
 refine DL_q rfl rfl (Zn (f) A3 rfl rfl rfl ⟨rfl, ?_⟩)
 obtain ⟨m, az, hm⟩ := Zg hm
 refine DL_q rfl rfl (Exec.index_repE S27 rfl rfl rfl aj az ?_)
 intro aG aK p ab
 refine ⟨rfl, ?_⟩
 refine DL_q rfl rfl (Zp F64_1 rfl rfl rfl ⟨rfl, ?_⟩)
 refine DL_q rfl rfl (Zw (E := (encInt .i64)) f A3 rfl rfl rfl (p.sub (Sub.iso (Sub.snd (Sub.refl _) rfl)) rfl) ?_)
 intro a5 a0
 obtain rfl : a5 = Vi (m.Job) := encInt_val.1 a0
 refine ⟨rfl, ?_⟩
 refine DL_e rfl rfl (Tc rfl rfl rfl (Zi rfl args_nil) (simulate_rank_sim (simulate_rank_tot a.End) f ).r ?_)
 rintro _ aS ⟨aL, j, g, rfl⟩
 refine ⟨(ag_cons (ag_r rfl rfl (Zp F49_2 rfl rfl rfl ⟨rfl, rfl⟩)) (ag_cons (ag_r rfl rfl (Zn (g) A4 rfl rfl rfl ⟨rfl, rfl⟩)) (ag_cons (ag_r rfl rfl (Zn ((g).f2) A68 rfl rfl rfl ⟨rfl, rfl⟩)) (ag_cons (ag_r rfl rfl (Exec.nilCheck_ptr rfl rfl ⟨rfl, rfl⟩)) (ag_cons (ag_r rfl rfl (Zp F70_1 rfl rfl rfl ⟨rfl, rfl⟩)) (ag_cons (ag_r rfl rfl (Zn ((g).f3) A27 rfl rfl rfl ⟨rfl, rfl⟩)) (ag_cons (ag_r rfl rfl (Zp F49_1 rfl rfl rfl ⟨rfl, rfl⟩)) (ag_cons (ag_r rfl rfl (Zn ((g).f1) A3 rfl rfl rfl ⟨rfl, rfl⟩)) (ag_cons (ag_r rfl rfl (Exec.index_run rfl rfl rfl aa ⟨rfl, rfl⟩)) (ag_cons (ag_r rfl rfl (Zp F64_1 rfl rfl rfl ⟨rfl, rfl⟩)) (ag_cons (ag_r rfl rfl (Zw (E := (encInt .i64)) g A3 rfl rfl rfl ((o.sub (Sub.iso (Sub.snd (Sub.refl _) rfl)) rfl).mono j) (fun _ q => ⟨rfl, encInt_val.1 q⟩))) (ag_cons (ag_r rfl rfl (Zn ((g).f2) A68 rfl rfl rfl ⟨rfl, rfl⟩)) (ag_cons (ag_r rfl rfl (Exec.nilCheck_ptr rfl rfl ⟨rfl, rfl⟩)) (ag_cons (ag_r rfl rfl (Zp F70_1 rfl rfl rfl ⟨rfl, rfl⟩)) (ag_cons (ag_r rfl rfl (Zn ((g).f3) A27 rfl rfl rfl ⟨rfl, rfl⟩)) (ag_cons (ag_r rfl rfl (Zp F49_1 rfl rfl rfl ⟨rfl, rfl⟩)) (ag_cons (ag_r rfl rfl (Zn (g) A3 rfl rfl rfl ⟨rfl, rfl⟩)) (ag_cons (ag_r rfl rfl (Exec.index_run rfl rfl rfl ab ⟨rfl, rfl⟩)) (ag_cons (ag_r rfl rfl (Zp F64_1 rfl rfl rfl ⟨rfl, rfl⟩)) (ag_cons (ag_r rfl rfl (Zw (E := (encInt .i64)) g A3 rfl rfl rfl ((p.sub (Sub.iso (Sub.snd (Sub.refl _) rfl)) rfl).mono j) (fun _ q => ⟨rfl, encInt_val.1 q⟩))) ag_nil)))))))))))))))))))), ?_⟩
 refine DL_e rfl rfl (Tc rfl rfl rfl (Zi rfl args_nil) (simulate_rank_sim (simulate_rank_tot b.End) g ).r ?_)
 rintro _ aT ⟨aM, n, h, rfl⟩
 refine ⟨(ag_cons (ag_r rfl rfl (Zn ((h).f2) A68 rfl rfl rfl ⟨rfl, rfl⟩)) (ag_cons (ag_r rfl rfl (Exec.nilCheck_ptr rfl rfl ⟨rfl, rfl⟩)) (ag_cons (ag_r rfl rfl (Zp F70_1 rfl rfl rfl ⟨rfl, rfl⟩)) (ag_cons (ag_r rfl rfl (Zn ((h).f3) A27 rfl rfl rfl ⟨rfl, rfl⟩)) (ag_cons (ag_r rfl rfl (Zp F49_1 rfl rfl rfl ⟨rfl, rfl⟩)) (ag_cons (ag_r rfl rfl (Zn ((h).f1) A3 rfl rfl rfl ⟨rfl, rfl⟩)) (ag_cons (ag_r rfl rfl (Exec.index_run rfl rfl rfl aa ⟨rfl, rfl⟩)) (ag_cons (ag_r rfl rfl (Zp F64_1 rfl rfl rfl ⟨rfl, rfl⟩)) (ag_cons (ag_r rfl rfl (Zw (E := (encInt .i64)) h A3 rfl rfl rfl ((o.sub (Sub.iso (Sub.snd (Sub.refl _) rfl)) rfl).mono (Zt j n)) (fun _ q => ⟨rfl, encInt_val.1 q⟩))) (ag_cons (ag_r rfl rfl (Zn ((h).f2) A68 rfl rfl rfl ⟨rfl, rfl⟩)) (ag_cons (ag_r rfl rfl (Exec.nilCheck_ptr rfl rfl ⟨rfl, rfl⟩)) (ag_cons (ag_r rfl rfl (Zp F70_1 rfl rfl rfl ⟨rfl, rfl⟩)) (ag_cons (ag_r rfl rfl (Zn ((h).f3) A27 rfl rfl rfl ⟨rfl, rfl⟩)) (ag_cons (ag_r rfl rfl (Zp F49_1 rfl rfl rfl ⟨rfl, rfl⟩)) (ag_cons (ag_r rfl rfl (Zn (h) A3 rfl rfl rfl ⟨rfl, rfl⟩)) (ag_cons (ag_r rfl rfl (Exec.index_run rfl rfl rfl ab ⟨rfl, rfl⟩)) (ag_cons (ag_r rfl rfl (Zp F64_1 rfl rfl rfl ⟨rfl, rfl⟩)) (ag_cons (ag_r rfl rfl (Zw (E := (encInt .i64)) h A3 rfl rfl rfl ((p.sub (Sub.iso (Sub.snd (Sub.refl _) rfl)) rfl).mono (Zt j n)) (fun _ q => ⟨rfl, encInt_val.1 q⟩))) ag_nil)))))))))))))))))), ?_⟩
 refine DL_e rfl rfl (Tc rfl rfl rfl (Zi rfl (Zi rfl args_nil)) (cmp_Compare_int_sim (cmp_Compare_int_tot (simulate_rank_t a.End) (simulate_rank_t b.End)) h ).r ?_)
 rintro _ aU ⟨aN, ac, i, rfl⟩
 refine ⟨(ag_cons (ag_r rfl rfl (Zn ((i).f2) A68 rfl rfl rfl ⟨rfl, rfl⟩)) (ag_cons (ag_r rfl rfl (Exec.nilCheck_ptr rfl rfl ⟨rfl, rfl⟩)) (ag_cons (ag_r rfl rfl (Zp F70_1 rfl rfl rfl ⟨rfl, rfl⟩)) (ag_cons (ag_r rfl rfl (Zn ((i).f3) A27 rfl rfl rfl ⟨rfl, rfl⟩)) (ag_cons (ag_r rfl rfl (Zp F49_1 rfl rfl rfl ⟨rfl, rfl⟩)) (ag_cons (ag_r rfl rfl (Zn ((i).f1) A3 rfl rfl rfl ⟨rfl, rfl⟩)) (ag_cons (ag_r rfl rfl (Exec.index_run rfl rfl rfl aa ⟨rfl, rfl⟩)) (ag_cons (ag_r rfl rfl (Zp F64_1 rfl rfl rfl ⟨rfl, rfl⟩)) (ag_cons (ag_r rfl rfl (Zw (E := (encInt .i64)) i A3 rfl rfl rfl ((o.sub (Sub.iso (Sub.snd (Sub.refl _) rfl)) rfl).mono (Zt (Zt j n) ac)) (fun _ q => ⟨rfl, encInt_val.1 q⟩))) (ag_cons (ag_r rfl rfl (Zn ((i).f2) A68 rfl rfl rfl ⟨rfl, rfl⟩)) (ag_cons (ag_r rfl rfl (Exec.nilCheck_ptr rfl rfl ⟨rfl, rfl⟩)) (ag_cons (ag_r rfl rfl (Zp F70_1 rfl rfl rfl ⟨rfl, rfl⟩)) (ag_cons (ag_r rfl rfl (Zn ((i).f3) A27 rfl rfl rfl ⟨rfl, rfl⟩)) (ag_cons (ag_r rfl rfl (Zp F49_1 rfl rfl rfl ⟨rfl, rfl⟩)) (ag_cons (ag_r rfl rfl (Zn (i) A3 rfl rfl rfl ⟨rfl, rfl⟩)) (ag_cons (ag_r rfl rfl (Exec.index_run rfl rfl rfl ab ⟨rfl, rfl⟩)) (ag_cons (ag_r rfl rfl (Zp F64_1 rfl rfl rfl ⟨rfl, rfl⟩)) (ag_cons (ag_r rfl rfl (Zw (E := (encInt .i64)) i A3 rfl rfl rfl ((p.sub (Sub.iso (Sub.snd (Sub.refl _) rfl)) rfl).mono (Zt (Zt j n) ac)) (fun _ q => ⟨rfl, encInt_val.1 q⟩))) ag_nil)))))))))))))))))), ?_⟩
 refine DL_e rfl rfl (Tc rfl rfl rfl (Zi rfl (Zi rfl args_nil)) (cmp_Compare_int_sim (cmp_Compare_int_tot k.Job m.Job) i ).r ?_)
 rintro _ aV ⟨aO, au, an, rfl⟩
 refine ⟨ag_nil, ?_⟩
 refine DL_e rfl rfl (Exec.buildSlice (Te := 3) (cs := [Vi ((cmp_Compare_int_t (simulate_rank_t a.End) (simulate_rank_t b.End))), Vi ((cmp_Compare_int_t k.Job m.Job))]) an rfl (parts_cons (c := [Vi ((cmp_Compare_int_t (simulate_rank_t a.End) (simulate_rank_t b.End)))]) (cells_of rfl rfl) (parts_cons (c := [Vi ((cmp_Compare_int_t k.Job m.Job))]) (cells_of rfl rfl) parts_nil)) (fun _ => by kernel_rfl) ?_)
 intro aH aW ao
 refine ⟨ag_nil, ?_⟩
 have ap := St.boxArr (E := (encInt .i64)) (xs := [(cmp_Compare_int_t (simulate_rank_t a.End) (simulate_rank_t b.End)), (cmp_Compare_int_t k.Job m.Job)]) ao ⟨[Vi ((cmp_Compare_int_t (simulate_rank_t a.End) (simulate_rank_t b.End)))], [Vi ((cmp_Compare_int_t k.Job m.Job))], rfl, rfl, ⟨[Vi ((cmp_Compare_int_t k.Job m.Job))], [], rfl, rfl, rfl⟩⟩ (by simp [maxLen])
 obtain ⟨aP, av, aq, a2⟩ := ap.freezeArr
 obtain ⟨a7, a1, hm⟩ := Zg hm
 refine DL_e rfl rfl (Tc rfl rfl rfl (Zi rfl args_nil) (cmp_Or_int_sim a1 aq a2).r ?_)
 rintro _ aX ⟨a3, aw, ar, rfl⟩
 refine ⟨ag_nil, ?_⟩
 refine DL_done (Za rfl rfl (Zo (v := Vi (a7)) rfl rfl (Zb (Ze (W_ret ?_)))))
 have aI := Zu hm
 subst r
 refine ⟨_, ret1 rfl, ?_⟩
 exact ⟨a3, (Zt (Zt (Zt (Zt (Zt j n) ac) au) av) aw), ((((((ar).drop).drop).f3).f3).f3).f3, rfl⟩
theorem slices_insertionSortCmpFunc_simulateEvent_o_write_c1_sim {w0 w : World} {s : PHeap} {H : List Res} {a6 : (List simulate_Event)} {n : Int} {x : Int} {a : simulate_run} {b : Value} {g : Nat} {i : Nat} {aa : Value} {ab : Value} {ac : Value} {ad : Value} {ae : Value} {af : Value} {k : Value} {m : Value} {r : (List simulate_Event)} (hm : slices_insertionSortCmpFunc_simulateEvent_o_write_c1_p a6 n x a = some r) (hS : St w0 s (Res.arr encsimulate_Event 49 b a6 :: Res.box g 68 [Value.pointer (some ⟨i, 0, none⟩)] :: Res.box i 70 [aa, ab, ac, ad, ae, af, k, m, Vi (a.out.Makespan)] :: Res.arr (encSlice (encInt .i64)) 22 k a.out.States :: Res.arr encsimulate_Problem 52 m a.out.Problems :: H) w) (bf : SliceRep (encInt .i64) s aa a.t.Vars) (bg : SliceRep (encInt .i64) s ab a.t.Init) (bh : SliceRep encFact s ac a.t.Goal) (bi : SliceRep encJob s ad a.t.Jobs) (bj : SliceRep encLaunch s ae a.l) (bk : SliceRep encsimulate_Event s af a.out.Events) :
  Calls Tryz.prog 85 #[b, Vi (n), Vi (x), Value.func (.func 80) #[] #[Value.pointer (some ⟨g, 0, none⟩)]] w fun e w' => ∃ v, e = .returned v ∧ ((fun (b5 : (List simulate_Event)) => ∃ (aX : PHeap) , PHeap.le s aX ∧ St w0 aX (Res.arr encsimulate_Event 49 b b5 :: Res.box g 68 [Value.pointer (some ⟨i, 0, none⟩)] :: Res.box i 70 [aa, ab, ac, ad, ae, af, k, m, Vi (a.out.Makespan)] :: Res.arr (encSlice (encInt .i64)) 22 k a.out.States :: Res.arr encsimulate_Problem 52 m a.out.Problems :: H) w' ∧ v = Value.tuple #[]) r) := by
 unfold slices_insertionSortCmpFunc_simulateEvent_o_write_c1_p at hm
 refine calls_of_W Tryz.func85 rfl rfl (Zc (Zd (Za rfl rfl (Zm (v := Vi (n)) rfl rfl (Za rfl rfl (Exec.add rfl rfl rfl (Za rfl rfl (Zo (v := Vi (IntKind.i64.wrap (n + 1))) rfl rfl (Zb (Ze ?_))))))))))
 obtain ⟨a2, bl, cr, b1, bz⟩ := ctl_some hm
 refine W_mid (M := fun f' w' => ∃ s', (a2 = .next s' ∨ a2 = .brk s') ∧ (un2 fun (aH : Int) (aJ : (List simulate_Event)) => ∃ (aY : PHeap) , PHeap.le s aY ∧ St w0 aY (Res.arr encsimulate_Event 49 b aJ :: Res.box g 68 [Value.pointer (some ⟨i, 0, none⟩)] :: Res.box i 70 [aa, ab, ac, ad, ae, af, k, m, Vi (a.out.Makespan)] :: Res.arr (encSlice (encInt .i64)) 22 k a.out.States :: Res.arr encsimulate_Problem 52 m a.out.Problems :: H) w' ∧ f' 0 = b ∧ f' 1 = Vi (n) ∧ f' 2 = Vi (x) ∧ f' 3 = Value.func (.func 80) #[] #[Value.pointer (some ⟨g, 0, none⟩)] ∧ f' 8 = Vi (aH)) s') ?_ ?_
 ·refine W_block (W_while (fun s' f' w' => (un2 fun (u : Int) (aK : (List simulate_Event)) => ∃ (aZ : PHeap) , PHeap.le s aZ ∧ St w0 aZ (Res.arr encsimulate_Event 49 b aK :: Res.box g 68 [Value.pointer (some ⟨i, 0, none⟩)] :: Res.box i 70 [aa, ab, ac, ad, ae, af, k, m, Vi (a.out.Makespan)] :: Res.arr (encSlice (encInt .i64)) 22 k a.out.States :: Res.arr encsimulate_Problem 52 m a.out.Problems :: H) w' ∧ f' 0 = b ∧ f' 1 = Vi (n) ∧ f' 2 = Vi (x) ∧ f' 3 = Value.func (.func 80) #[] #[Value.pointer (some ⟨g, 0, none⟩)] ∧ f' 8 = Vi (u)) s') bl ?_ ?_)
  ·have bs := (hS).f4
   exact ⟨s, (Zv _), ((((bs).f4).f4).f4).f4, rfl, rfl, rfl, rfl, rfl⟩
  intro bO a3 cg c5 bn o b3
  obtain ⟨u, aK⟩ := bO
  replace o := un2_eq o
  obtain ⟨aw, y, aD, aN, aO, ay, aP, ap⟩ := bn
  refine Zc (Zc (Zd (Za rfl rfl (Zm (v := Vi (u)) rfl ap (Za rfl rfl (Zm (v := Vi (x)) rfl ay (Za rfl rfl (Zq rfl rfl rfl (Zb (Ze ?_))))))))))
  rcases ite_some o with ⟨al, o⟩ | ⟨al, o⟩
  ·refine W_cond_t rfl al (W_skip (Ze (Zc (W_block (Zc (Zd (Za rfl rfl (Zm (v := Vi (u)) rfl ap (Za rfl rfl (Zo (v := Vi (u)) rfl rfl (Zb (Ze ?_))))))))))))
   obtain ⟨a4, bm, cs, b2, b0⟩ := ctl_some o
   refine W_mid (M := fun f' w' => ∃ s', (a4 = .next s' ∨ a4 = .brk s') ∧ (un2 fun (aI : Int) (aL : (List simulate_Event)) => ∃ (ba : PHeap) , PHeap.le aw ba ∧ St w0 ba (Res.arr encsimulate_Event 49 b aL :: Res.box g 68 [Value.pointer (some ⟨i, 0, none⟩)] :: Res.box i 70 [aa, ab, ac, ad, ae, af, k, m, Vi (a.out.Makespan)] :: Res.arr (encSlice (encInt .i64)) 22 k a.out.States :: Res.arr encsimulate_Problem 52 m a.out.Problems :: H) w' ∧ f' 0 = b ∧ f' 1 = Vi (n) ∧ f' 2 = Vi (x) ∧ f' 3 = Value.func (.func 80) #[] #[Value.pointer (some ⟨g, 0, none⟩)] ∧ f' 8 = Vi (u) ∧ f' 9 = Vi (aI)) s') ?_ ?_
   ·refine W_block (W_while (fun s' f' w' => (un2 fun (j : Int) (ax : (List simulate_Event)) => ∃ (bb : PHeap) , PHeap.le aw bb ∧ St w0 bb (Res.arr encsimulate_Event 49 b ax :: Res.box g 68 [Value.pointer (some ⟨i, 0, none⟩)] :: Res.box i 70 [aa, ab, ac, ad, ae, af, k, m, Vi (a.out.Makespan)] :: Res.arr (encSlice (encInt .i64)) 22 k a.out.States :: Res.arr encsimulate_Problem 52 m a.out.Problems :: H) w' ∧ f' 0 = b ∧ f' 1 = Vi (n) ∧ f' 2 = Vi (x) ∧ f' 3 = Value.func (.func 80) #[] #[Value.pointer (some ⟨g, 0, none⟩)] ∧ f' 8 = Vi (u) ∧ f' 9 = Vi (j)) s') bm ?_ ?_)
    ·have bt := (aD).f4
     exact ⟨aw, (Zv _), ((((bt).f4).f4).f4).f4, aN, aO, ay, aP, ap, rfl⟩
    intro bP a5 ch c6 bo c b4
    obtain ⟨j, ax⟩ := bP
    replace c := un2_eq c
    obtain ⟨bc, z, ak, aq, az, aQ, a0, aR, an⟩ := bo
    refine Zc (Zc ?_)
    obtain ⟨ao, p, c⟩ := Zg c
    refine W_mid (M := fun f' w' => (fun (ao : Bool) => ∃ (bd : PHeap) , PHeap.le bc bd ∧ St w0 bd (Res.arr encsimulate_Event 49 b ax :: Res.box g 68 [Value.pointer (some ⟨i, 0, none⟩)] :: Res.box i 70 [aa, ab, ac, ad, ae, af, k, m, Vi (a.out.Makespan)] :: Res.arr (encSlice (encInt .i64)) 22 k a.out.States :: Res.arr encsimulate_Problem 52 m a.out.Problems :: H) w' ∧ f' 0 = b ∧ f' 1 = Vi (n) ∧ f' 2 = Vi (x) ∧ f' 3 = Value.func (.func 80) #[] #[Value.pointer (some ⟨g, 0, none⟩)] ∧ f' 8 = Vi (u) ∧ f' 9 = Vi (j) ∧ f' 34 = Value.bool (ao)) ao) ?_ ?_
    ·refine W_dl (n0 := 17) (qs 0 14 (.e 14 [] (.q 15 (.q 16 .done)))) hmix (by kernel_rfl) (by kernel_rfl) (DL_q rfl rfl (Zm (v := Vi (j)) rfl an ⟨rfl, ?_⟩))
     refine DL_q rfl rfl (Zm (v := Vi (n)) rfl az ⟨rfl, ?_⟩)
     refine DL_q rfl rfl (Exec.gtr rfl rfl rfl ⟨rfl, ?_⟩)
     refine DL_q rfl rfl (Zm (v := Value.bool (decide (n < j))) rfl rfl ⟨rfl, ?_⟩)
     rcases ite_some p with ⟨d, p⟩ | ⟨d, p⟩
     ·refine DL_qg rfl rfl (Zf rfl (Zx d)) (Zm (v := Value.func (.func 80) #[] #[Value.pointer (some ⟨g, 0, none⟩)]) rfl a0 ⟨rfl, ?_⟩)
      refine DL_qg rfl rfl (Zf rfl (Zx d)) (Zm (v := b) rfl aq ⟨rfl, ?_⟩)
      refine DL_qg rfl rfl (Zf rfl (Zx d)) (Zm (v := Vi (j)) rfl an ⟨rfl, ?_⟩)
      obtain ⟨cD, ar, p⟩ := Zg p
      obtain ⟨cl, bT, a7⟩ := (ak.drew).arr_at ar
      refine DL_qg rfl rfl (Zf rfl (Zx d)) (Exec.index_slice S30 rfl a7 rfl (idx_some ar).1 (idx_some ar).2.1 ⟨rfl, ?_⟩)
      refine DL_qg rfl rfl (Zf rfl (Zx d)) (Exec.load_arr (F := encsimulate_Event) (ak.drew) a7 A49 rfl rfl rfl ar (Sub.refl _) ?_)
      intro c1 bE
      obtain rfl := encsimulate_Event_val.1 bE
      refine ⟨rfl, ?_⟩
      refine DL_qg rfl rfl (Zf rfl (Zx d)) (Zm (v := b) rfl aq ⟨rfl, ?_⟩)
      refine DL_qg rfl rfl (Zf rfl (Zx d)) (Zm (v := Vi (j)) rfl an ⟨rfl, ?_⟩)
      refine DL_qg rfl rfl (Zf rfl (Zx d)) (Exec.sub rfl rfl rfl ⟨rfl, ?_⟩)
      obtain ⟨cE, au, p⟩ := Zg p
      obtain ⟨cm, bU, a8⟩ := (ak.drew).arr_at au
      refine DL_qg rfl rfl (Zf rfl (Zx d)) (Exec.index_slice S30 rfl a8 rfl (idx_some au).1 (idx_some au).2.1 ⟨rfl, ?_⟩)
      refine DL_qg rfl rfl (Zf rfl (Zx d)) (Exec.load_arr (F := encsimulate_Event) (ak.drew) a8 A49 rfl rfl rfl au (Sub.refl _) ?_)
      intro c2 bF
      obtain rfl := encsimulate_Event_val.1 bF
      refine ⟨rfl, ?_⟩
      obtain ⟨bS, bG, p⟩ := Zg p
      refine DL_eg rfl rfl (Zf rfl (Zx d)) (Exec.callc rfl rfl Tryz.func80 rfl N80 (Zi rfl (Zi rfl args_nil)) rfl ((simulate_run_write_c1_sim bG ((((ak.drew).f4).f4).f4).f4 (bf.mono (Zt y z)) (bg.mono (Zt y z)) (bh.mono (Zt y z)) (bi.mono (Zt y z)) (bj.mono (Zt y z)) (bk.mono (Zt y z))).mono ?_))
      rintro _ c7 ⟨_, rfl, ⟨bL, b6, bu, rfl⟩⟩
      refine ⟨_, rfl, ?_⟩
      refine ⟨ag_nil, ?_⟩
      refine DL_qg rfl rfl (Zf rfl (Zx d)) (Zq rfl rfl rfl ⟨rfl, ?_⟩)
      refine DL_q rfl rfl (Zs (v := Value.bool (decide (bS < 0))) rfl (Zx d) rfl ⟨rfl, ?_⟩)
      refine DL_done (Zb (Ze ?_))
      have bZ := Zu p
      subst ao
      exact ⟨bL, b6, (((((bu).f3).f3).f3).f3).f4, aq, az, aQ, a0, aR, an, rfl⟩
     replace d := Zk d
     refine DL_passes 13 (by rw [d]; rfl) ?_
     refine DL_done (Zb (Ze ?_))
     have ca := Zu p
     subst ao
     exact ⟨bc, (Zv _), (((((ak.drew).f4).f4).f4).f4).f4, aq, az, aQ, a0, aR, an, rfl⟩
    intro ci c8 bp
    obtain ⟨be, aM, ag, ah, aS, aT, aU, aV, ai, aW⟩ := bp
    refine (Ze ?_)
    rcases ite_some c with ⟨am, c⟩ | ⟨am, c⟩
    ·refine W_cond_t aW am (W_skip (Ze (Zc (W_block (W_dl (n0 := 16) (qs 0 15 (.e 15 [2, 3, 4] .done)) hmix (by kernel_rfl) (by kernel_rfl) (DL_q rfl rfl (Zm (v := b) rfl ah ⟨rfl, ?_⟩)))))))
     refine DL_q rfl rfl (Zm (v := Vi (j)) rfl ai ⟨rfl, ?_⟩)
     refine DL_q rfl rfl (Zm (v := b) rfl ah ⟨rfl, ?_⟩)
     refine DL_q rfl rfl (Zm (v := Vi (j)) rfl ai ⟨rfl, ?_⟩)
     refine DL_q rfl rfl (Exec.sub rfl rfl rfl ⟨rfl, ?_⟩)
     refine DL_q rfl rfl (Zm (v := b) rfl ah ⟨rfl, ?_⟩)
     refine DL_q rfl rfl (Zm (v := Vi (j)) rfl ai ⟨rfl, ?_⟩)
     refine DL_q rfl rfl (Exec.sub rfl rfl rfl ⟨rfl, ?_⟩)
     obtain ⟨cF, av, c⟩ := Zg c
     obtain ⟨cn, bV, a9⟩ := (ag.drew).arr_at av
     refine DL_q rfl rfl (Exec.index_slice S30 rfl a9 rfl (idx_some av).1 (idx_some av).2.1 ⟨rfl, ?_⟩)
     refine DL_q rfl rfl (Exec.load_arr (F := encsimulate_Event) (ag.drew) a9 A49 rfl rfl rfl av (Sub.refl _) ?_)
     intro c3 bH
     obtain rfl := encsimulate_Event_val.1 bH
     refine ⟨rfl, ?_⟩
     refine DL_q rfl rfl (Zm (v := b) rfl ah ⟨rfl, ?_⟩)
     refine DL_q rfl rfl (Zm (v := Vi (j)) rfl ai ⟨rfl, ?_⟩)
     obtain ⟨cG, aj, c⟩ := Zg c
     obtain ⟨co, bW, aA⟩ := (ag.drew).arr_at aj
     refine DL_q rfl rfl (Exec.index_slice S30 rfl aA rfl (idx_some aj).1 (idx_some aj).2.1 ⟨rfl, ?_⟩)
     refine DL_q rfl rfl (Exec.load_arr (F := encsimulate_Event) (ag.drew) aA A49 rfl rfl rfl aj (Sub.refl _) ?_)
     intro c4 bI
     obtain rfl := encsimulate_Event_val.1 bI
     refine ⟨rfl, ?_⟩
     obtain ⟨cp, bX, aB⟩ := (ag.drew).arr_at aj
     refine DL_q rfl rfl (Exec.index_slice S30 rfl aB rfl (idx_some aj).1 (idx_some aj).2.1 ⟨rfl, ?_⟩)
     obtain ⟨ct, bJ, c⟩ := Zg c
     refine DL_e rfl rfl (Exec.store_arr ag.drew aB A49 rfl rfl rfl rfl (encsimulate_Event_val.2 rfl) bJ ?_)
     intro c9 aE
     refine ⟨(ag_cons (ag_r rfl rfl (Zm (v := b) rfl ah ⟨rfl, rfl⟩)) (ag_cons (ag_r rfl rfl (Zm (v := Vi (j)) rfl ai ⟨rfl, rfl⟩)) (ag_cons (ag_r rfl rfl (Exec.sub rfl rfl rfl ⟨rfl, rfl⟩)) ag_nil))), ?_⟩
     refine DL_done ?_
     obtain ⟨cH, a1, c⟩ := Zg c
     obtain ⟨cq, bY, aC⟩ := (aE).arr_at a1
     refine Za rfl rfl (Exec.index_slice S30 rfl aC rfl (idx_some a1).1 (idx_some a1).2.1 ?_)
     obtain ⟨cu, bK, c⟩ := Zg c
     refine Za rfl rfl (Exec.store_arr aE aC A49 rfl rfl rfl rfl (encsimulate_Event_val.2 rfl) bK ?_)
     intro cA bv
     refine Zb (ib_normal (Ze (Zd (Za rfl rfl (Zm (v := Vi (j)) rfl ai (Za rfl rfl (Exec.sub rfl rfl rfl (Za rfl rfl (Zo (v := Vi (IntKind.i64.wrap (j - 1))) rfl rfl (Zb (Ze ?_)))))))))))
     have cb := Zu c
     subst a5
     refine ⟨_, rfl, ?_⟩; exact ⟨be, (Zt z aM), (((((bv).f4).f4).f4).f4).f4, ah, aS, aT, aU, aV, rfl⟩
    refine W_cond_f aW am ?_
    replace am := Zk am
    refine W_exit (at_exit (at_exit (ib_here (Ze ?_))))
    have cc := Zu c
    subst a5
    refine ⟨_, .inr (b4 (by intro _ h; cases h)), ?_⟩; exact ⟨be, (Zt z aM), (((((ag).f4).f4).f4).f4).f4, ah, aS, aT, aU, aV, ai⟩
   rintro cj cB ⟨bQ, aF, bq⟩
   have o := aF.elim (b2 _) (b0 _)
   clear aF
   obtain ⟨aI, aL⟩ := bQ
   replace o := un2_eq o
   obtain ⟨bM, b7, bw, b9, bA, bB, bC, bD, cv⟩ := bq
   refine (ib_normal (Ze (Zd (Za rfl rfl (Zm (v := Vi (u)) rfl bD (Za rfl rfl (Exec.add rfl rfl rfl (Za rfl rfl (Zo (v := Vi (IntKind.i64.wrap (u + 1))) rfl rfl (Zb (Ze ?_)))))))))))
   have cd := Zu o
   subst a3
   refine ⟨_, rfl, ?_⟩; exact ⟨bM, (Zt y b7), (((((bw).f4).f4).f4).f4).f4, b9, bA, bB, bC, rfl⟩
  refine W_cond_f rfl al ?_
  replace al := Zk al
  refine W_exit (at_exit (at_exit (ib_here (Ze ?_))))
  have ce := Zu o
  subst a3
  refine ⟨_, .inr (b3 (by intro _ h; cases h)), ?_⟩; exact ⟨aw, y, (((((aD).f4).f4).f4).f4).f4, aN, aO, ay, aP, ap⟩
 rintro ck cC ⟨bR, aG, br⟩
 have hm := aG.elim (b1 _) (bz _)
 clear aG
 obtain ⟨aH, aJ⟩ := bR
 replace hm := un2_eq hm
 obtain ⟨bN, b8, bx, cw, cx, cy, cz, c0⟩ := br
 refine ?_
 have cf := Zu hm
 subst r
 refine ⟨_, retG0 rfl, ?_⟩
 exact ⟨bN, b8, (((((bx).f4).f4).f4).f4).f4, rfl⟩
theorem slices_swapRangeCmpFunc_simulateEvent_o_write_c1_sim {w0 w : World} {s : PHeap} {H : List Res} {am : (List simulate_Event)} {p : Int} {m : Int} {y : Int} {a : simulate_run} {c : Value} {u : Nat} {g : Nat} {aa : Value} {ab : Value} {ac : Value} {ad : Value} {ae : Value} {af : Value} {j : Value} {k : Value} {r : (List simulate_Event)} (hm : slices_swapRangeCmpFunc_simulateEvent_o_write_c1_p am p m y a = some r) (hS : St w0 s (Res.arr encsimulate_Event 49 c am :: Res.box u 68 [Value.pointer (some ⟨g, 0, none⟩)] :: Res.box g 70 [aa, ab, ac, ad, ae, af, j, k, Vi (a.out.Makespan)] :: Res.arr (encSlice (encInt .i64)) 22 j a.out.States :: Res.arr encsimulate_Problem 52 k a.out.Problems :: H) w) (aM : SliceRep (encInt .i64) s aa a.t.Vars) (aN : SliceRep (encInt .i64) s ab a.t.Init) (aO : SliceRep encFact s ac a.t.Goal) (aP : SliceRep encJob s ad a.t.Jobs) (aQ : SliceRep encLaunch s ae a.l) (aR : SliceRep encsimulate_Event s af a.out.Events) :
  Calls Tryz.prog 121 #[c, Vi (p), Vi (m), Vi (y), Value.func (.func 80) #[] #[Value.pointer (some ⟨u, 0, none⟩)]] w fun e w' => ∃ v, e = .returned v ∧ ((fun (aD : (List simulate_Event)) => ∃ (a0 : PHeap) , PHeap.le s a0 ∧ St w0 a0 (Res.arr encsimulate_Event 49 c aD :: Res.box u 68 [Value.pointer (some ⟨g, 0, none⟩)] :: Res.box g 70 [aa, ab, ac, ad, ae, af, j, k, Vi (a.out.Makespan)] :: Res.arr (encSlice (encInt .i64)) 22 j a.out.States :: Res.arr encsimulate_Problem 52 k a.out.Problems :: H) w' ∧ v = Value.tuple #[]) r) := by
 unfold slices_swapRangeCmpFunc_simulateEvent_o_write_c1_p at hm
 refine calls_of_W Tryz.func121 rfl rfl (Zc (Zd (Za rfl rfl (Zo (v := Vi (0)) rfl rfl (Zb (Ze ?_))))))
 obtain ⟨ak, a4, bf, aB, aA⟩ := ctl_some hm
 refine W_mid (M := fun f' w' => ∃ s', (ak = .next s' ∨ ak = .brk s') ∧ (un2 fun (aw : Int) (ax : (List simulate_Event)) => ∃ (a1 : PHeap) , PHeap.le s a1 ∧ St w0 a1 (Res.arr encsimulate_Event 49 c ax :: Res.box u 68 [Value.pointer (some ⟨g, 0, none⟩)] :: Res.box g 70 [aa, ab, ac, ad, ae, af, j, k, Vi (a.out.Makespan)] :: Res.arr (encSlice (encInt .i64)) 22 j a.out.States :: Res.arr encsimulate_Problem 52 k a.out.Problems :: H) w' ∧ f' 0 = c ∧ f' 1 = Vi (p) ∧ f' 2 = Vi (m) ∧ f' 3 = Vi (y) ∧ f' 10 = Vi (aw)) s') ?_ ?_
 ·refine W_block (W_while (fun s' f' w' => (un2 fun (d : Int) (ay : (List simulate_Event)) => ∃ (a2 : PHeap) , PHeap.le s a2 ∧ St w0 a2 (Res.arr encsimulate_Event 49 c ay :: Res.box u 68 [Value.pointer (some ⟨g, 0, none⟩)] :: Res.box g 70 [aa, ab, ac, ad, ae, af, j, k, Vi (a.out.Makespan)] :: Res.arr (encSlice (encInt .i64)) 22 j a.out.States :: Res.arr encsimulate_Problem 52 k a.out.Problems :: H) w' ∧ f' 0 = c ∧ f' 1 = Vi (p) ∧ f' 2 = Vi (m) ∧ f' 3 = Vi (y) ∧ f' 10 = Vi (d)) s') a4 ?_ ?_)
  ·have a7 := (hS).f4
   exact ⟨s, (Zv _), ((((a7).f4).f4).f4).f4, rfl, rfl, rfl, rfl, rfl⟩
  intro aK al aZ bp a5 b aC
  obtain ⟨d, ay⟩ := aK
  replace b := un2_eq b
  obtain ⟨a3, az, ar, n, ag, z, ai, i⟩ := a5
  refine Zc (Zc (Zd (Za rfl rfl (Zm (v := Vi (d)) rfl i (Za rfl rfl (Zm (v := Vi (y)) rfl ai (Za rfl rfl (Zq rfl rfl rfl (Zb (Ze ?_))))))))))
  rcases ite_some b with ⟨x, b⟩ | ⟨x, b⟩
  ·refine W_cond_t rfl x (W_skip (Ze (Zc (W_block (W_dl (n0 := 22) (qs 0 21 (.e 21 [4, 5, 6, 7] .done)) hmix (by kernel_rfl) (by kernel_rfl) ?_)))))
   have q := ar.drew
   refine DL_q rfl rfl (Zm (v := c) rfl n ⟨rfl, ?_⟩)
   refine DL_q rfl rfl (Zm (v := Vi (p)) rfl ag ⟨rfl, ?_⟩)
   refine DL_q rfl rfl (Zm (v := Vi (d)) rfl i ⟨rfl, ?_⟩)
   refine DL_q rfl rfl (Exec.add rfl rfl rfl ⟨rfl, ?_⟩)
   refine DL_q rfl rfl (Zm (v := c) rfl n ⟨rfl, ?_⟩)
   refine DL_q rfl rfl (Zm (v := Vi (m)) rfl z ⟨rfl, ?_⟩)
   refine DL_q rfl rfl (Zm (v := Vi (d)) rfl i ⟨rfl, ?_⟩)
   refine DL_q rfl rfl (Exec.add rfl rfl rfl ⟨rfl, ?_⟩)
   refine DL_q rfl rfl (Zm (v := c) rfl n ⟨rfl, ?_⟩)
   refine DL_q rfl rfl (Zm (v := Vi (m)) rfl z ⟨rfl, ?_⟩)
   refine DL_q rfl rfl (Zm (v := Vi (d)) rfl i ⟨rfl, ?_⟩)
   refine DL_q rfl rfl (Exec.add rfl rfl rfl ⟨rfl, ?_⟩)
   obtain ⟨bt, ah, b⟩ := Zg b
   obtain ⟨bb, aS, an⟩ := (q).arr_at ah
   refine DL_q rfl rfl (Exec.index_slice S30 rfl an rfl (idx_some ah).1 (idx_some ah).2.1 ⟨rfl, ?_⟩)
   refine DL_q rfl rfl (Exec.load_arr (F := encsimulate_Event) (q) an A49 rfl rfl rfl ah (Sub.refl _) ?_)
   intro bn aF
   obtain rfl := encsimulate_Event_val.1 aF
   refine ⟨rfl, ?_⟩
   refine DL_q rfl rfl (Zm (v := c) rfl n ⟨rfl, ?_⟩)
   refine DL_q rfl rfl (Zm (v := Vi (p)) rfl ag ⟨rfl, ?_⟩)
   refine DL_q rfl rfl (Zm (v := Vi (d)) rfl i ⟨rfl, ?_⟩)
   refine DL_q rfl rfl (Exec.add rfl rfl rfl ⟨rfl, ?_⟩)
   obtain ⟨bu, o, b⟩ := Zg b
   obtain ⟨bc, aT, ao⟩ := (q).arr_at o
   refine DL_q rfl rfl (Exec.index_slice S30 rfl ao rfl (idx_some o).1 (idx_some o).2.1 ⟨rfl, ?_⟩)
   refine DL_q rfl rfl (Exec.load_arr (F := encsimulate_Event) (q) ao A49 rfl rfl rfl o (Sub.refl _) ?_)
   intro bo aG
   obtain rfl := encsimulate_Event_val.1 aG
   refine ⟨rfl, ?_⟩
   obtain ⟨bd, aU, ap⟩ := (q).arr_at o
   refine DL_q rfl rfl (Exec.index_slice S30 rfl ap rfl (idx_some o).1 (idx_some o).2.1 ⟨rfl, ?_⟩)
   obtain ⟨bg, aH, b⟩ := Zg b
   refine DL_e rfl rfl (Exec.store_arr q ap A49 rfl rfl rfl rfl (encsimulate_Event_val.2 rfl) aH ?_)
   intro bq au
   refine ⟨(ag_cons (ag_r rfl rfl (Zm (v := c) rfl n ⟨rfl, rfl⟩)) (ag_cons (ag_r rfl rfl (Zm (v := Vi (m)) rfl z ⟨rfl, rfl⟩)) (ag_cons (ag_r rfl rfl (Zm (v := Vi (d)) rfl i ⟨rfl, rfl⟩)) (ag_cons (ag_r rfl rfl (Exec.add rfl rfl rfl ⟨rfl, rfl⟩)) ag_nil)))), ?_⟩
   refine DL_done ?_
   obtain ⟨bv, aj, b⟩ := Zg b
   obtain ⟨be, aV, aq⟩ := (au).arr_at aj
   refine Za rfl rfl (Exec.index_slice S30 rfl aq rfl (idx_some aj).1 (idx_some aj).2.1 ?_)
   obtain ⟨bh, aI, b⟩ := Zg b
   refine Za rfl rfl (Exec.store_arr au aq A49 rfl rfl rfl rfl (encsimulate_Event_val.2 rfl) aI ?_)
   intro br a8
   refine Zb (ib_normal (Ze (Zd (Za rfl rfl (Zm (v := Vi (d)) rfl i (Za rfl rfl (Exec.add rfl rfl rfl (Za rfl rfl (Zo (v := Vi (IntKind.i64.wrap (d + 1))) rfl rfl (Zb (Ze ?_)))))))))))
   have aW := Zu b
   subst al
   refine ⟨_, rfl, ?_⟩; exact ⟨a3, az, (((((a8).f4).f4).f4).f4).f4, n, ag, z, ai, rfl⟩
  refine W_cond_f rfl x ?_
  replace x := Zk x
  refine W_exit (at_exit (at_exit (ib_here (Ze ?_))))
  have aX := Zu b
  subst al
  refine ⟨_, .inr (aC (by intro _ h; cases h)), ?_⟩; exact ⟨a3, az, (((((ar).f4).f4).f4).f4).f4, n, ag, z, ai, i⟩
 rintro ba bs ⟨aL, av, a6⟩
 have hm := av.elim (aB _) (aA _)
 clear av
 obtain ⟨aw, ax⟩ := aL
 replace hm := un2_eq hm
 obtain ⟨aJ, aE, a9, bi, bj, bk, bl, bm⟩ := a6
 refine ?_
 have aY := Zu hm
 subst r
 refine ⟨_, retG0 rfl, ?_⟩
 exact ⟨aJ, aE, (((((a9).f4).f4).f4).f4).f4, rfl⟩
theorem slices_rotateCmpFunc_simulateEvent_o_write_c1_sim {w0 w : World} {s : PHeap} {H : List Res} {ay : (List simulate_Event)} {aj : Int} {b : Int} {ak : Int} {a : simulate_run} {i : Value} {d : Nat} {k : Nat} {z : Value} {aa : Value} {ab : Value} {ac : Value} {ad : Value} {ae : Value} {o : Value} {p : Value} {r : (List simulate_Event)} (hm : slices_rotateCmpFunc_simulateEvent_o_write_c1_p ay aj b ak a = some r) (hS : St w0 s (Res.arr encsimulate_Event 49 i ay :: Res.box d 68 [Value.pointer (some ⟨k, 0, none⟩)] :: Res.box k 70 [z, aa, ab, ac, ad, ae, o, p, Vi (a.out.Makespan)] :: Res.arr (encSlice (encInt .i64)) 22 o a.out.States :: Res.arr encsimulate_Problem 52 p a.out.Problems :: H) w) (an : SliceRep (encInt .i64) s z a.t.Vars) (ao : SliceRep (encInt .i64) s aa a.t.Init) (ap : SliceRep encFact s ab a.t.Goal) (aq : SliceRep encJob s ac a.t.Jobs) (ar : SliceRep encLaunch s ad a.l) (au : SliceRep encsimulate_Event s ae a.out.Events) :
  Calls Tryz.prog 119 #[i, Vi (aj), Vi (b), Vi (ak), Value.func (.func 80) #[] #[Value.pointer (some ⟨d, 0, none⟩)]] w fun e w' => ∃ v, e = .returned v ∧ ((fun (aQ : (List simulate_Event)) => ∃ (a8 : PHeap) , PHeap.le s a8 ∧ St w0 a8 (Res.arr encsimulate_Event 49 i aQ :: Res.box d 68 [Value.pointer (some ⟨k, 0, none⟩)] :: Res.box k 70 [z, aa, ab, ac, ad, ae, o, p, Vi (a.out.Makespan)] :: Res.arr (encSlice (encInt .i64)) 22 o a.out.States :: Res.arr encsimulate_Problem 52 p a.out.Problems :: H) w' ∧ v = Value.tuple #[]) r) := by
 unfold slices_rotateCmpFunc_simulateEvent_o_write_c1_p at hm
 refine calls_of_W Tryz.func119 rfl rfl (Zc (Zd (Za rfl rfl (Zm (v := Vi (b)) rfl rfl (Za rfl rfl (Zm (v := Vi (aj)) rfl rfl (Za rfl rfl (Exec.sub rfl rfl rfl (Za rfl rfl (Zo (v := Vi (IntKind.i64.wrap (b - aj))) rfl rfl (Zb (Ze (Zc (Zd (Za rfl rfl (Zm (v := Vi (ak)) rfl rfl (Za rfl rfl (Zm (v := Vi (b)) rfl rfl (Za rfl rfl (Exec.sub rfl rfl rfl (Za rfl rfl (Zo (v := Vi (IntKind.i64.wrap (ak - b))) rfl rfl (Zb (Ze (Zc ?_)))))))))))))))))))))))))
 obtain ⟨aw, aD, bt, aO, aN⟩ := ctl_some hm
 refine W_mid (M := fun f' w' => ∃ s', (aw = .next s' ∨ aw = .brk s') ∧ (un3 fun (al : Int) (a1 : Int) (a3 : (List simulate_Event)) => ∃ (a9 : PHeap) , PHeap.le s a9 ∧ St w0 a9 (Res.arr encsimulate_Event 49 i a3 :: Res.box d 68 [Value.pointer (some ⟨k, 0, none⟩)] :: Res.box k 70 [z, aa, ab, ac, ad, ae, o, p, Vi (a.out.Makespan)] :: Res.arr (encSlice (encInt .i64)) 22 o a.out.States :: Res.arr encsimulate_Problem 52 p a.out.Problems :: H) w' ∧ f' 0 = i ∧ f' 2 = Vi (b) ∧ f' 4 = Value.func (.func 80) #[] #[Value.pointer (some ⟨d, 0, none⟩)] ∧ f' 10 = Vi (al) ∧ f' 11 = Vi (a1)) s') ?_ ?_
 ·refine W_block (W_while (fun s' f' w' => (un3 fun (g : Int) (m : Int) (a4 : (List simulate_Event)) => ∃ (aA : PHeap) , PHeap.le s aA ∧ St w0 aA (Res.arr encsimulate_Event 49 i a4 :: Res.box d 68 [Value.pointer (some ⟨k, 0, none⟩)] :: Res.box k 70 [z, aa, ab, ac, ad, ae, o, p, Vi (a.out.Makespan)] :: Res.arr (encSlice (encInt .i64)) 22 o a.out.States :: Res.arr encsimulate_Problem 52 p a.out.Problems :: H) w' ∧ f' 0 = i ∧ f' 2 = Vi (b) ∧ f' 4 = Value.func (.func 80) #[] #[Value.pointer (some ⟨d, 0, none⟩)] ∧ f' 10 = Vi (g) ∧ f' 11 = Vi (m)) s') aD ?_ ?_)
  ·have aH := (hS).f4
   exact ⟨s, (Zv _), ((((aH).f4).f4).f4).f4, rfl, rfl, rfl, rfl, rfl⟩
  intro bj ax bq b0 aE j aP
  obtain ⟨g, m, a4⟩ := bj
  replace j := un3_eq j
  obtain ⟨aB, c, av, ah, y, ai, n, u⟩ := aE
  refine Zc (Zc (Zd (Za rfl rfl (Zm (v := Vi (g)) rfl n (Za rfl rfl (Zm (v := Vi (m)) rfl u (Za rfl rfl (Exec.neq rfl rfl rfl (Zb (Ze ?_))))))))))
  rcases ite_some j with ⟨af, j⟩ | ⟨af, j⟩
  ·refine W_cond_t rfl af (W_skip (Ze (W_block (Zc (Zd (Za rfl rfl (Zm (v := Vi (g)) rfl n (Za rfl rfl (Zm (v := Vi (m)) rfl u (Za rfl rfl (Exec.gtr rfl rfl rfl (Zb (Ze ?_)))))))))))))
   obtain ⟨am, q, j⟩ := Zg j
   refine W_mid (M := fun f' w' => (un3 fun (a0 : Int) (a2 : Int) (a5 : (List simulate_Event)) => ∃ (aC : PHeap) , PHeap.le aB aC ∧ St w0 aC (Res.arr encsimulate_Event 49 i a5 :: Res.box d 68 [Value.pointer (some ⟨k, 0, none⟩)] :: Res.box k 70 [z, aa, ab, ac, ad, ae, o, p, Vi (a.out.Makespan)] :: Res.arr (encSlice (encInt .i64)) 22 o a.out.States :: Res.arr encsimulate_Problem 52 p a.out.Problems :: H) w' ∧ f' 0 = i ∧ f' 2 = Vi (b) ∧ f' 4 = Value.func (.func 80) #[] #[Value.pointer (some ⟨d, 0, none⟩)] ∧ f' 10 = Vi (a0) ∧ f' 11 = Vi (a2)) am) ?_ ?_
   ·rcases ite_some q with ⟨ag, q⟩ | ⟨ag, q⟩
    ·refine W_cond_t rfl ag (Zc (Zd (Za rfl rfl (Zm (v := i) rfl ah (Za rfl rfl (Zm (v := Vi (b)) rfl y (Za rfl rfl (Zm (v := Vi (g)) rfl n (Za rfl rfl (Exec.sub rfl rfl rfl (Za rfl rfl (Zm (v := Vi (b)) rfl y (Za rfl rfl (Zm (v := Vi (m)) rfl u (Za rfl rfl (Zm (v := Value.func (.func 80) #[] #[Value.pointer (some ⟨d, 0, none⟩)]) rfl ai ?_))))))))))))))))
     obtain ⟨bu, bc, q⟩ := Zg q
     refine Za rfl rfl (Tc rfl rfl rfl (Zi rfl (Zi rfl (Zi rfl (Zi rfl (Zi rfl args_nil))))) (slices_swapRangeCmpFunc_simulateEvent_o_write_c1_sim bc (((((av).f4).f4).f4).f4).f4 (an.mono c) (ao.mono c) (ap.mono c) (aq.mono c) (ar.mono c) (au.mono c)).r ?_)
     rintro _ b1 ⟨bf, aR, aI, rfl⟩
     refine Zb (Ze (Zd (Za rfl rfl (Zm (v := Vi (g)) rfl n (Za rfl rfl (Zm (v := Vi (m)) rfl u (Za rfl rfl (Exec.sub rfl rfl rfl (Za rfl rfl (Zo (v := Vi (IntKind.i64.wrap (g - m))) rfl rfl (Zb (Ze ?_))))))))))))
     have bl := Zu q
     subst am
     exact ⟨bf, aR, (((((aI).f4).f4).f4).f4).f4, ah, y, ai, rfl, u⟩
    refine W_cond_f rfl ag ?_
    replace ag := Zk ag
    refine Zc (Zd (Za rfl rfl (Zm (v := i) rfl ah (Za rfl rfl (Zm (v := Vi (b)) rfl y (Za rfl rfl (Zm (v := Vi (g)) rfl n (Za rfl rfl (Exec.sub rfl rfl rfl (Za rfl rfl (Zm (v := Vi (b)) rfl y (Za rfl rfl (Zm (v := Vi (m)) rfl u (Za rfl rfl (Exec.add rfl rfl rfl (Za rfl rfl (Zm (v := Vi (g)) rfl n (Za rfl rfl (Exec.sub rfl rfl rfl (Za rfl rfl (Zm (v := Vi (g)) rfl n (Za rfl rfl (Zm (v := Value.func (.func 80) #[] #[Value.pointer (some ⟨d, 0, none⟩)]) rfl ai ?_)))))))))))))))))))))))
    obtain ⟨bv, bd, q⟩ := Zg q
    refine Za rfl rfl (Tc rfl rfl rfl (Zi rfl (Zi rfl (Zi rfl (Zi rfl (Zi rfl args_nil))))) (slices_swapRangeCmpFunc_simulateEvent_o_write_c1_sim bd (((((av).f4).f4).f4).f4).f4 (an.mono c) (ao.mono c) (ap.mono c) (aq.mono c) (ar.mono c) (au.mono c)).r ?_)
    rintro _ b2 ⟨bg, aS, aJ, rfl⟩
    refine Zb (Ze (Zd (Za rfl rfl (Zm (v := Vi (m)) rfl u (Za rfl rfl (Zm (v := Vi (g)) rfl n (Za rfl rfl (Exec.sub rfl rfl rfl (Za rfl rfl (Zo (v := Vi (IntKind.i64.wrap (m - g))) rfl rfl (Zb (Ze ?_))))))))))))
    have bm := Zu q
    subst am
    exact ⟨bg, aS, (((((aJ).f4).f4).f4).f4).f4, ah, y, ai, n, rfl⟩
   intro br b3 aF
   obtain ⟨a0, a2, a5⟩ := am
   replace j := un3_eq j
   obtain ⟨bh, aT, aK, aV, aW, aX, aY, aZ⟩ := aF
   refine (ib_normal (Ze ?_))
   have bn := Zu j
   subst ax
   refine ⟨_, rfl, ?_⟩; exact ⟨bh, (Zt c aT), (((((aK).f4).f4).f4).f4).f4, aV, aW, aX, aY, aZ⟩
  refine W_cond_f rfl af ?_
  replace af := Zk af
  refine W_exit (at_exit (at_exit (ib_here (Ze ?_))))
  have bo := Zu j
  subst ax
  refine ⟨_, .inr (aP (by intro _ h; cases h)), ?_⟩; exact ⟨aB, c, (((((av).f4).f4).f4).f4).f4, ah, y, ai, n, u⟩
 rintro bs b4 ⟨bk, az, aG⟩
 have hm := az.elim (aO _) (aN _)
 clear az
 obtain ⟨al, a1, a3⟩ := bk
 replace hm := un3_eq hm
 obtain ⟨bz, x, aL, ba, a6, bb, a7, bx⟩ := aG
 refine (Ze (Zd (Za rfl rfl (Zm (v := i) rfl ba (Za rfl rfl (Zm (v := Vi (b)) rfl a6 (Za rfl rfl (Zm (v := Vi (al)) rfl a7 (Za rfl rfl (Exec.sub rfl rfl rfl (Za rfl rfl (Zm (v := Vi (b)) rfl a6 (Za rfl rfl (Zm (v := Vi (al)) rfl a7 (Za rfl rfl (Zm (v := Value.func (.func 80) #[] #[Value.pointer (some ⟨d, 0, none⟩)]) rfl bb ?_))))))))))))))))
 obtain ⟨bw, be, hm⟩ := Zg hm
 refine Za rfl rfl (Tc rfl rfl rfl (Zi rfl (Zi rfl (Zi rfl (Zi rfl (Zi rfl args_nil))))) (slices_swapRangeCmpFunc_simulateEvent_o_write_c1_sim be (((((aL).f4).f4).f4).f4).f4 (an.mono x) (ao.mono x) (ap.mono x) (aq.mono x) (ar.mono x) (au.mono x)).r ?_)
 rintro _ b5 ⟨bi, aU, aM, rfl⟩
 refine Zb ?_
 have bp := Zu hm
 subst r
 refine ⟨_, retG0 rfl, ?_⟩
 exact ⟨bi, (Zt x aU), (((((aM).f4).f4).f4).f4).f4, rfl⟩
end Go.Pw
