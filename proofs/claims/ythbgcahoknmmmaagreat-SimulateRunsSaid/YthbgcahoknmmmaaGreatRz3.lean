/-
  The walks (printed by my generator).
-/
import Derived.Test.YthbgcahoknmmmaaGreatL29
import Derived.Test.YthbgcahoknmmmaaGreatL27
import Derived.Test.YthbgcahoknmmmaaGreatRz2
set_option maxRecDepth 100000
set_option maxHeartbeats 4000000
set_option linter.unusedVariables false
namespace Go.Pw
open Go.Proofs
theorem slices_symMergeCmpFunc_simulateEvent_o_write_c1_step {fu : Nat} (ih : ∀ {w0 w : World} {s : PHeap} {H : List Res} {aj : (List simulate_Event)} {b : Int} {d : Int} {c : Int} {a : simulate_run} {g : Value} {m : Nat} {i : Nat} {p : Value} {u : Value} {x : Value} {y : Value} {z : Value} {aa : Value} {j : Value} {k : Value} {r : (List simulate_Event)} (hm : slices_symMergeCmpFunc_simulateEvent_o_write_c1_p fu aj b d c a = some r) (hS : St w0 s (Res.arr encsimulate_Event 49 g aj :: Res.box m 68 [Value.pointer (some ⟨i, 0, none⟩)] :: Res.box i 70 [p, u, x, y, z, aa, j, k, Vi (a.out.Makespan)] :: Res.arr (encSlice (encInt .i64)) 22 j a.out.States :: Res.arr encsimulate_Problem 52 k a.out.Problems :: H) w) (a4 : SliceRep (encInt .i64) s p a.t.Vars) (a5 : SliceRep (encInt .i64) s u a.t.Init) (a6 : SliceRep encFact s x a.t.Goal) (a7 : SliceRep encJob s y a.t.Jobs) (a8 : SliceRep encLaunch s z a.l) (a9 : SliceRep encsimulate_Event s aa a.out.Events), Calls Tryz.prog 113 #[g, Vi (b), Vi (d), Vi (c), Value.func (.func 80) #[] #[Value.pointer (some ⟨m, 0, none⟩)]] w fun e w' => ∃ v, e = .returned v ∧ ((fun (bI : (List simulate_Event)) => ∃ (bo : PHeap) , PHeap.le s bo ∧ St w0 bo (Res.arr encsimulate_Event 49 g bI :: Res.box m 68 [Value.pointer (some ⟨i, 0, none⟩)] :: Res.box i 70 [p, u, x, y, z, aa, j, k, Vi (a.out.Makespan)] :: Res.arr (encSlice (encInt .i64)) 22 j a.out.States :: Res.arr encsimulate_Problem 52 k a.out.Problems :: H) w' ∧ v = Value.tuple #[]) r)) {w0 w : World} {s : PHeap} {H : List Res} {aj : (List simulate_Event)} {b : Int} {d : Int} {c : Int} {a : simulate_run} {g : Value} {m : Nat} {i : Nat} {p : Value} {u : Value} {x : Value} {y : Value} {z : Value} {aa : Value} {j : Value} {k : Value} {r : (List simulate_Event)} (hm : slices_symMergeCmpFunc_simulateEvent_o_write_c1_p (fu + 1) aj b d c a = some r) (hS : St w0 s (Res.arr encsimulate_Event 49 g aj :: Res.box m 68 [Value.pointer (some ⟨i, 0, none⟩)] :: Res.box i 70 [p, u, x, y, z, aa, j, k, Vi (a.out.Makespan)] :: Res.arr (encSlice (encInt .i64)) 22 j a.out.States :: Res.arr encsimulate_Problem 52 k a.out.Problems :: H) w) (a4 : SliceRep (encInt .i64) s p a.t.Vars) (a5 : SliceRep (encInt .i64) s u a.t.Init) (a6 : SliceRep encFact s x a.t.Goal) (a7 : SliceRep encJob s y a.t.Jobs) (a8 : SliceRep encLaunch s z a.l) (a9 : SliceRep encsimulate_Event s aa a.out.Events) :
  Calls Tryz.prog 113 #[g, Vi (b), Vi (d), Vi (c), Value.func (.func 80) #[] #[Value.pointer (some ⟨m, 0, none⟩)]] w fun e w' => ∃ v, e = .returned v ∧ ((fun (bI : (List simulate_Event)) => ∃ (bo : PHeap) , PHeap.le s bo ∧ St w0 bo (Res.arr encsimulate_Event 49 g bI :: Res.box m 68 [Value.pointer (some ⟨i, 0, none⟩)] :: Res.box i 70 [p, u, x, y, z, aa, j, k, Vi (a.out.Makespan)] :: Res.arr (encSlice (encInt .i64)) 22 j a.out.States :: Res.arr encsimulate_Problem 52 k a.out.Problems :: H) w' ∧ v = Value.tuple #[]) r) := by
 rw [slices_symMergeCmpFunc_simulateEvent_o_write_c1_p] at hm
 refine calls_of_W Tryz.func113 rfl rfl (Zc (Zc (Zd (Za rfl rfl (Zm (v := Vi (d)) rfl rfl (Za rfl rfl (Zm (v := Vi (b)) rfl rfl (Za rfl rfl (Exec.sub rfl rfl rfl (Za rfl rfl (Exec.eql rfl rfl rfl (Zb (Ze ?_)))))))))))))
 rcases ite_some hm with ⟨aQ, hm⟩ | ⟨aQ, hm⟩
 ·refine W_cond_t rfl aQ (Zc (Zd (Za rfl rfl (Zm (v := Vi (d)) rfl rfl (Za rfl rfl (Zo (v := Vi (d)) rfl rfl (Zb (Ze (Zc (Zd (Za rfl rfl (Zm (v := Vi (c)) rfl rfl (Za rfl rfl (Zo (v := Vi (c)) rfl rfl (Zb (Ze (Zc ?_)))))))))))))))))
  obtain ⟨cm, dT, hL, eH, eC⟩ := ctl_some hm
  refine W_mid (M := fun f' w' => ∃ s', (cm = .next s' ∨ cm = .brk s') ∧ (un2 fun (bi : Int) (cS : Int) => ∃ (d2 : PHeap) , PHeap.le s d2 ∧ St w0 d2 (Res.arr encsimulate_Event 49 g aj :: Res.box m 68 [Value.pointer (some ⟨i, 0, none⟩)] :: Res.box i 70 [p, u, x, y, z, aa, j, k, Vi (a.out.Makespan)] :: Res.arr (encSlice (encInt .i64)) 22 j a.out.States :: Res.arr encsimulate_Problem 52 k a.out.Problems :: H) w' ∧ f' 0 = g ∧ f' 1 = Vi (b) ∧ f' 4 = Value.func (.func 80) #[] #[Value.pointer (some ⟨m, 0, none⟩)] ∧ f' 10 = Vi (bi) ∧ f' 11 = Vi (cS)) s') ?_ ?_
  ·refine W_block (W_while (fun s' f' w' => (un2 fun (ao : Int) (aq : Int) => ∃ (d3 : PHeap) , PHeap.le s d3 ∧ St w0 d3 (Res.arr encsimulate_Event 49 g aj :: Res.box m 68 [Value.pointer (some ⟨i, 0, none⟩)] :: Res.box i 70 [p, u, x, y, z, aa, j, k, Vi (a.out.Makespan)] :: Res.arr (encSlice (encInt .i64)) 22 j a.out.States :: Res.arr encsimulate_Problem 52 k a.out.Problems :: H) w' ∧ f' 0 = g ∧ f' 1 = Vi (b) ∧ f' 4 = Value.func (.func 80) #[] #[Value.pointer (some ⟨m, 0, none⟩)] ∧ f' 10 = Vi (ao) ∧ f' 11 = Vi (aq)) s') dT ?_ ?_)
   ·have et := (hS).f4
    exact ⟨s, (Zv _), ((((et).f4).f4).f4).f4, rfl, rfl, rfl, rfl, rfl⟩
   intro gx cn hn iz dY ae eM
   obtain ⟨ao, aq⟩ := gx
   replace ae := un2_eq ae
   obtain ⟨gk, az, aL, bl, bp, bq, br, bs⟩ := dY
   refine Zc (Zc (Zd (Za rfl rfl (Zm (v := Vi (ao)) rfl br (Za rfl rfl (Zm (v := Vi (aq)) rfl bs (Za rfl rfl (Zq rfl rfl rfl (Zb (Ze ?_))))))))))
   rcases ite_some ae with ⟨aR, ae⟩ | ⟨aR, ae⟩
   ·refine W_cond_t rfl aR (W_skip (Ze (W_block (Zc (Zd (Za rfl rfl (Zm (v := Vi (ao)) rfl br (Za rfl rfl (Zm (v := Vi (aq)) rfl bs (Za rfl rfl (Exec.add rfl rfl rfl ?_)))))))))))
    refine Za rfl rfl (Exec.convert_int (by rw [Tryz.underlying3]; rfl) Tryz.underlying135 rfl rfl ?_)
    refine Za rfl rfl (Exec.shr_const (n := 1) rfl (by decide) rfl rfl rfl ?_)
    refine Za rfl rfl (Exec.convert_int (by rw [Tryz.underlying135]; rfl) Tryz.underlying3 rfl rfl ?_)
    refine Za rfl rfl (Zo (v := Vi (IntKind.i64.wrap ((IntKind.u64.wrap (IntKind.i64.wrap (ao + aq))).fdiv (2 ^ 1)))) rfl rfl (Zb (Ze (Zc (W_dl (n0 := 11) (qs 0 9 (.e 9 [] (.q 10 .done))) hmix (by kernel_rfl) (by kernel_rfl) (DL_q rfl rfl (Zm (v := Value.func (.func 80) #[] #[Value.pointer (some ⟨m, 0, none⟩)]) rfl bq ⟨rfl, ?_⟩)))))))
    refine DL_q rfl rfl (Zm (v := g) rfl bl ⟨rfl, ?_⟩)
    refine DL_q rfl rfl (Zm (v := Vi (IntKind.i64.wrap ((IntKind.u64.wrap (IntKind.i64.wrap (ao + aq))).fdiv (2 ^ 1)))) rfl rfl ⟨rfl, ?_⟩)
    obtain ⟨iT, b6, ae⟩ := Zg ae
    obtain ⟨h7, g7, cw⟩ := (aL.drew).arr_at b6
    refine DL_q rfl rfl (Exec.index_slice S30 rfl cw rfl (idx_some b6).1 (idx_some b6).2.1 ⟨rfl, ?_⟩)
    refine DL_q rfl rfl (Exec.load_arr (F := encsimulate_Event) (aL.drew) cw A49 rfl rfl rfl b6 (Sub.refl _) ?_)
    intro io fP
    obtain rfl := encsimulate_Event_val.1 fP
    refine ⟨rfl, ?_⟩
    refine DL_q rfl rfl (Zm (v := g) rfl bl ⟨rfl, ?_⟩)
    refine DL_q rfl rfl (Zm (v := Vi (b)) rfl bp ⟨rfl, ?_⟩)
    obtain ⟨iU, b7, ae⟩ := Zg ae
    obtain ⟨h8, g8, cx⟩ := (aL.drew).arr_at b7
    refine DL_q rfl rfl (Exec.index_slice S30 rfl cx rfl (idx_some b7).1 (idx_some b7).2.1 ⟨rfl, ?_⟩)
    refine DL_q rfl rfl (Exec.load_arr (F := encsimulate_Event) (aL.drew) cx A49 rfl rfl rfl b7 (Sub.refl _) ?_)
    intro ip fQ
    obtain rfl := encsimulate_Event_val.1 fQ
    refine ⟨rfl, ?_⟩
    obtain ⟨jf, fR, ae⟩ := Zg ae
    refine DL_e rfl rfl (Exec.callc rfl rfl Tryz.func80 rfl N80 (Zi rfl (Zi rfl args_nil)) rfl ((simulate_run_write_c1_sim fR ((((aL.drew).f4).f4).f4).f4 (a4.mono az) (a5.mono az) (a6.mono az) (a7.mono az) (a8.mono az) (a9.mono az)).mono ?_))
    rintro _ i0 ⟨_, rfl, ⟨cd, eR, cA, rfl⟩⟩
    refine ⟨_, rfl, ?_⟩
    refine ⟨ag_nil, ?_⟩
    refine DL_q rfl rfl (Zq rfl rfl rfl ⟨rfl, ?_⟩)
    refine DL_done (Zb (Ze ?_))
    obtain ⟨bE, be, ae⟩ := Zg ae
    refine W_mid (M := fun f' w' => (un2 fun (cQ : Int) (cT : Int) => ∃ (d4 : PHeap) , PHeap.le cd d4 ∧ St w0 d4 (Res.arr encsimulate_Event 49 g aj :: Res.box m 68 [Value.pointer (some ⟨i, 0, none⟩)] :: Res.box i 70 [p, u, x, y, z, aa, j, k, Vi (a.out.Makespan)] :: Res.arr (encSlice (encInt .i64)) 22 j a.out.States :: Res.arr encsimulate_Problem 52 k a.out.Problems :: H) w' ∧ f' 0 = g ∧ f' 1 = Vi (b) ∧ f' 4 = Value.func (.func 80) #[] #[Value.pointer (some ⟨m, 0, none⟩)] ∧ f' 10 = Vi (cQ) ∧ f' 11 = Vi (cT)) bE) ?_ ?_
    ·rcases ite_some be with ⟨aS, be⟩ | ⟨aS, be⟩
     ·refine W_cond_t rfl aS (Zd (Za rfl rfl (Zm (v := Vi (IntKind.i64.wrap ((IntKind.u64.wrap (IntKind.i64.wrap (ao + aq))).fdiv (2 ^ 1)))) rfl rfl (Za rfl rfl (Exec.add rfl rfl rfl (Za rfl rfl (Zo (v := Vi (IntKind.i64.wrap ((IntKind.i64.wrap ((IntKind.u64.wrap (IntKind.i64.wrap (ao + aq))).fdiv (2 ^ 1))) + 1))) rfl rfl (Zb (Ze ?_)))))))))
      have gL := Zu be
      subst bE
      exact ⟨cd, (Zv _), (((((cA).f3).f3).f3).f3).f4, bl, bp, bq, rfl, bs⟩
     refine W_cond_f rfl aS ?_
     replace aS := Zk aS
     refine Zd (Za rfl rfl (Zm (v := Vi (IntKind.i64.wrap ((IntKind.u64.wrap (IntKind.i64.wrap (ao + aq))).fdiv (2 ^ 1)))) rfl rfl (Za rfl rfl (Zo (v := Vi (IntKind.i64.wrap ((IntKind.u64.wrap (IntKind.i64.wrap (ao + aq))).fdiv (2 ^ 1)))) rfl rfl (Zb (Ze ?_))))))
     have gM := Zu be
     subst bE
     exact ⟨cd, (Zv _), (((((cA).f3).f3).f3).f3).f4, bl, bp, bq, br, rfl⟩
    intro ho i1 ed
    obtain ⟨cQ, cT⟩ := bE
    replace ae := un2_eq ae
    obtain ⟨gl, eS, eu, ff, fg, fh, fi, fj⟩ := ed
    refine (ib_normal (Ze ?_))
    have gN := Zu ae
    subst cn
    refine ⟨_, rfl, ?_⟩; exact ⟨gl, (Zt (Zt az eR) eS), (((((eu).f4).f4).f4).f4).f4, ff, fg, fh, fi, fj⟩
   refine W_cond_f rfl aR ?_
   replace aR := Zk aR
   refine W_exit (at_exit (at_exit (ib_here (Ze ?_))))
   have gO := Zu ae
   subst cn
   refine ⟨_, .inr (eM (by intro _ h; cases h)), ?_⟩; exact ⟨gk, az, (((((aL).f4).f4).f4).f4).f4, bl, bp, bq, br, bs⟩
  rintro hp i2 ⟨gy, cL, ee⟩
  have hm := cL.elim (eH _) (eC _)
  clear cL
  obtain ⟨bi, cS⟩ := gy
  replace hm := un2_eq hm
  obtain ⟨ce, eT, ev, fk, fl, hY, fm, hZ⟩ := ee
  refine (Ze (Zc (Zc (Zd (Za rfl rfl (Zm (v := Vi (b)) rfl fl (Za rfl rfl (Zo (v := Vi (b)) rfl rfl (Zb (Ze ?_))))))))))
  obtain ⟨co, dU, hM, eI, eD⟩ := ctl_some hm
  refine W_mid (M := fun f' w' => ∃ s', (co = .next s' ∨ co = .brk s') ∧ (un2 fun (cW : Int) (cY : (List simulate_Event)) => ∃ (d5 : PHeap) , PHeap.le ce d5 ∧ St w0 d5 (Res.arr encsimulate_Event 49 g cY :: Res.box m 68 [Value.pointer (some ⟨i, 0, none⟩)] :: Res.box i 70 [p, u, x, y, z, aa, j, k, Vi (a.out.Makespan)] :: Res.arr (encSlice (encInt .i64)) 22 j a.out.States :: Res.arr encsimulate_Problem 52 k a.out.Problems :: H) w' ∧ f' 0 = g ∧ f' 10 = Vi (bi) ∧ f' 13 = Vi (cW)) s') ?_ ?_
  ·refine W_block (W_while (fun s' f' w' => (un2 fun (au : Int) (cZ : (List simulate_Event)) => ∃ (d6 : PHeap) , PHeap.le ce d6 ∧ St w0 d6 (Res.arr encsimulate_Event 49 g cZ :: Res.box m 68 [Value.pointer (some ⟨i, 0, none⟩)] :: Res.box i 70 [p, u, x, y, z, aa, j, k, Vi (a.out.Makespan)] :: Res.arr (encSlice (encInt .i64)) 22 j a.out.States :: Res.arr encsimulate_Problem 52 k a.out.Problems :: H) w' ∧ f' 0 = g ∧ f' 10 = Vi (bi) ∧ f' 13 = Vi (au)) s') dU ?_ ?_)
   ·have ew := (ev).f4
    exact ⟨ce, (Zv _), ((((ew).f4).f4).f4).f4, fk, fm, rfl⟩
   intro gz cp hq i3 dZ af eN
   obtain ⟨au, cZ⟩ := gz
   replace af := un2_eq af
   obtain ⟨d7, da, aA, aH, bJ, a2⟩ := dZ
   refine Zc (Zc (Zd (Za rfl rfl (Zm (v := Vi (au)) rfl a2 (Za rfl rfl (Zm (v := Vi (bi)) rfl bJ (Za rfl rfl (Exec.sub rfl rfl rfl (Za rfl rfl (Zq rfl rfl rfl (Zb (Ze ?_))))))))))))
   rcases ite_some af with ⟨aT, af⟩ | ⟨aT, af⟩
   ·refine W_cond_t rfl aT (W_skip (Ze (Zc (W_block (W_dl (n0 := 16) (qs 0 15 (.e 15 [2, 3, 4] .done)) hmix (by kernel_rfl) (by kernel_rfl) (DL_q rfl rfl (Zm (v := g) rfl aH ⟨rfl, ?_⟩)))))))
    refine DL_q rfl rfl (Zm (v := Vi (au)) rfl a2 ⟨rfl, ?_⟩)
    refine DL_q rfl rfl (Zm (v := g) rfl aH ⟨rfl, ?_⟩)
    refine DL_q rfl rfl (Zm (v := Vi (au)) rfl a2 ⟨rfl, ?_⟩)
    refine DL_q rfl rfl (Exec.add rfl rfl rfl ⟨rfl, ?_⟩)
    refine DL_q rfl rfl (Zm (v := g) rfl aH ⟨rfl, ?_⟩)
    refine DL_q rfl rfl (Zm (v := Vi (au)) rfl a2 ⟨rfl, ?_⟩)
    refine DL_q rfl rfl (Exec.add rfl rfl rfl ⟨rfl, ?_⟩)
    obtain ⟨iV, b8, af⟩ := Zg af
    obtain ⟨h9, g9, cy⟩ := (aA.drew).arr_at b8
    refine DL_q rfl rfl (Exec.index_slice S30 rfl cy rfl (idx_some b8).1 (idx_some b8).2.1 ⟨rfl, ?_⟩)
    refine DL_q rfl rfl (Exec.load_arr (F := encsimulate_Event) (aA.drew) cy A49 rfl rfl rfl b8 (Sub.refl _) ?_)
    intro iq fS
    obtain rfl := encsimulate_Event_val.1 fS
    refine ⟨rfl, ?_⟩
    refine DL_q rfl rfl (Zm (v := g) rfl aH ⟨rfl, ?_⟩)
    refine DL_q rfl rfl (Zm (v := Vi (au)) rfl a2 ⟨rfl, ?_⟩)
    obtain ⟨iW, aJ, af⟩ := Zg af
    obtain ⟨hA, gA, cz⟩ := (aA.drew).arr_at aJ
    refine DL_q rfl rfl (Exec.index_slice S30 rfl cz rfl (idx_some aJ).1 (idx_some aJ).2.1 ⟨rfl, ?_⟩)
    refine DL_q rfl rfl (Exec.load_arr (F := encsimulate_Event) (aA.drew) cz A49 rfl rfl rfl aJ (Sub.refl _) ?_)
    intro ir fT
    obtain rfl := encsimulate_Event_val.1 fT
    refine ⟨rfl, ?_⟩
    obtain ⟨hB, gB, c0⟩ := (aA.drew).arr_at aJ
    refine DL_q rfl rfl (Exec.index_slice S30 rfl c0 rfl (idx_some aJ).1 (idx_some aJ).2.1 ⟨rfl, ?_⟩)
    obtain ⟨hQ, fU, af⟩ := Zg af
    refine DL_e rfl rfl (Exec.store_arr aA.drew c0 A49 rfl rfl rfl rfl (encsimulate_Event_val.2 rfl) fU ?_)
    intro i4 cB
    refine ⟨(ag_cons (ag_r rfl rfl (Zm (v := g) rfl aH ⟨rfl, rfl⟩)) (ag_cons (ag_r rfl rfl (Zm (v := Vi (au)) rfl a2 ⟨rfl, rfl⟩)) (ag_cons (ag_r rfl rfl (Exec.add rfl rfl rfl ⟨rfl, rfl⟩)) ag_nil))), ?_⟩
    refine DL_done ?_
    obtain ⟨iX, cb, af⟩ := Zg af
    obtain ⟨hC, gC, c1⟩ := (cB).arr_at cb
    refine Za rfl rfl (Exec.index_slice S30 rfl c1 rfl (idx_some cb).1 (idx_some cb).2.1 ?_)
    obtain ⟨hR, fV, af⟩ := Zg af
    refine Za rfl rfl (Exec.store_arr cB c1 A49 rfl rfl rfl rfl (encsimulate_Event_val.2 rfl) fV ?_)
    intro i5 ex
    refine Zb (ib_normal (Ze (Zd (Za rfl rfl (Zm (v := Vi (au)) rfl a2 (Za rfl rfl (Exec.add rfl rfl rfl (Za rfl rfl (Zo (v := Vi (IntKind.i64.wrap (au + 1))) rfl rfl (Zb (Ze ?_)))))))))))
    have gP := Zu af
    subst cp
    refine ⟨_, rfl, ?_⟩; exact ⟨d7, da, (((((ex).f4).f4).f4).f4).f4, aH, bJ, rfl⟩
   refine W_cond_f rfl aT ?_
   replace aT := Zk aT
   refine W_exit (at_exit (at_exit (ib_here (Ze ?_))))
   have gQ := Zu af
   subst cp
   refine ⟨_, .inr (eN (by intro _ h; cases h)), ?_⟩; exact ⟨d7, da, (((((aA).f4).f4).f4).f4).f4, aH, bJ, a2⟩
  rintro hr i6 ⟨g0, cM, ef⟩
  have hm := cM.elim (eI _) (eD _)
  clear cM
  obtain ⟨cW, cY⟩ := g0
  replace hm := un2_eq hm
  obtain ⟨gm, eU, ey, ia, ib, ic⟩ := ef
  refine (Ze (W_ret (at_ret ?_)))
  have gR := Zu hm
  subst r
  refine ⟨_, retG0 rfl, ?_⟩
  exact ⟨gm, (Zt eT eU), (((((ey).f4).f4).f4).f4).f4, rfl⟩
 refine W_cond_f rfl aQ ?_
 replace aQ := Zk aQ
 refine W_skip (Ze (Zc (Zc (Zd (Za rfl rfl (Zm (v := Vi (c)) rfl rfl (Za rfl rfl (Zm (v := Vi (d)) rfl rfl (Za rfl rfl (Exec.sub rfl rfl rfl (Za rfl rfl (Exec.eql rfl rfl rfl (Zb (Ze ?_))))))))))))))
 rcases ite_some hm with ⟨aU, hm⟩ | ⟨aU, hm⟩
 ·refine W_cond_t rfl aU (Zc (Zd (Za rfl rfl (Zm (v := Vi (b)) rfl rfl (Za rfl rfl (Zo (v := Vi (b)) rfl rfl (Zb (Ze (Zc (Zd (Za rfl rfl (Zm (v := Vi (d)) rfl rfl (Za rfl rfl (Zo (v := Vi (d)) rfl rfl (Zb (Ze (Zc ?_)))))))))))))))))
  obtain ⟨cq, dV, hN, eJ, eE⟩ := ctl_some hm
  refine W_mid (M := fun f' w' => ∃ s', (cq = .next s' ∨ cq = .brk s') ∧ (un2 fun (bj : Int) (cU : Int) => ∃ (d8 : PHeap) , PHeap.le s d8 ∧ St w0 d8 (Res.arr encsimulate_Event 49 g aj :: Res.box m 68 [Value.pointer (some ⟨i, 0, none⟩)] :: Res.box i 70 [p, u, x, y, z, aa, j, k, Vi (a.out.Makespan)] :: Res.arr (encSlice (encInt .i64)) 22 j a.out.States :: Res.arr encsimulate_Problem 52 k a.out.Problems :: H) w' ∧ f' 0 = g ∧ f' 2 = Vi (d) ∧ f' 4 = Value.func (.func 80) #[] #[Value.pointer (some ⟨m, 0, none⟩)] ∧ f' 14 = Vi (bj) ∧ f' 15 = Vi (cU)) s') ?_ ?_
  ·refine W_block (W_while (fun s' f' w' => (un2 fun (ap : Int) (ar : Int) => ∃ (d9 : PHeap) , PHeap.le s d9 ∧ St w0 d9 (Res.arr encsimulate_Event 49 g aj :: Res.box m 68 [Value.pointer (some ⟨i, 0, none⟩)] :: Res.box i 70 [p, u, x, y, z, aa, j, k, Vi (a.out.Makespan)] :: Res.arr (encSlice (encInt .i64)) 22 j a.out.States :: Res.arr encsimulate_Problem 52 k a.out.Problems :: H) w' ∧ f' 0 = g ∧ f' 2 = Vi (d) ∧ f' 4 = Value.func (.func 80) #[] #[Value.pointer (some ⟨m, 0, none⟩)] ∧ f' 14 = Vi (ap) ∧ f' 15 = Vi (ar)) s') dV ?_ ?_)
   ·have ez := (hS).f4
    exact ⟨s, (Zv _), ((((ez).f4).f4).f4).f4, rfl, rfl, rfl, rfl, rfl⟩
   intro g1 cr hs i7 ea ag eO
   obtain ⟨ap, ar⟩ := g1
   replace ag := un2_eq ag
   obtain ⟨gn, a0, aM, bm, bt, bu, bv, bw⟩ := ea
   refine Zc (Zc (Zd (Za rfl rfl (Zm (v := Vi (ap)) rfl bv (Za rfl rfl (Zm (v := Vi (ar)) rfl bw (Za rfl rfl (Zq rfl rfl rfl (Zb (Ze ?_))))))))))
   rcases ite_some ag with ⟨aV, ag⟩ | ⟨aV, ag⟩
   ·refine W_cond_t rfl aV (W_skip (Ze (W_block (Zc (Zd (Za rfl rfl (Zm (v := Vi (ap)) rfl bv (Za rfl rfl (Zm (v := Vi (ar)) rfl bw (Za rfl rfl (Exec.add rfl rfl rfl ?_)))))))))))
    refine Za rfl rfl (Exec.convert_int (by rw [Tryz.underlying3]; rfl) Tryz.underlying135 rfl rfl ?_)
    refine Za rfl rfl (Exec.shr_const (n := 1) rfl (by decide) rfl rfl rfl ?_)
    refine Za rfl rfl (Exec.convert_int (by rw [Tryz.underlying135]; rfl) Tryz.underlying3 rfl rfl ?_)
    refine Za rfl rfl (Zo (v := Vi (IntKind.i64.wrap ((IntKind.u64.wrap (IntKind.i64.wrap (ap + ar))).fdiv (2 ^ 1)))) rfl rfl (Zb (Ze (Zc (W_dl (n0 := 12) (qs 0 9 (.e 9 [] (.q 10 (.q 11 .done)))) hmix (by kernel_rfl) (by kernel_rfl) (DL_q rfl rfl (Zm (v := Value.func (.func 80) #[] #[Value.pointer (some ⟨m, 0, none⟩)]) rfl bu ⟨rfl, ?_⟩)))))))
    refine DL_q rfl rfl (Zm (v := g) rfl bm ⟨rfl, ?_⟩)
    refine DL_q rfl rfl (Zm (v := Vi (d)) rfl bt ⟨rfl, ?_⟩)
    obtain ⟨iY, b9, ag⟩ := Zg ag
    obtain ⟨hD, gD, c2⟩ := (aM.drew).arr_at b9
    refine DL_q rfl rfl (Exec.index_slice S30 rfl c2 rfl (idx_some b9).1 (idx_some b9).2.1 ⟨rfl, ?_⟩)
    refine DL_q rfl rfl (Exec.load_arr (F := encsimulate_Event) (aM.drew) c2 A49 rfl rfl rfl b9 (Sub.refl _) ?_)
    intro it fW
    obtain rfl := encsimulate_Event_val.1 fW
    refine ⟨rfl, ?_⟩
    refine DL_q rfl rfl (Zm (v := g) rfl bm ⟨rfl, ?_⟩)
    refine DL_q rfl rfl (Zm (v := Vi (IntKind.i64.wrap ((IntKind.u64.wrap (IntKind.i64.wrap (ap + ar))).fdiv (2 ^ 1)))) rfl rfl ⟨rfl, ?_⟩)
    obtain ⟨iZ, bA, ag⟩ := Zg ag
    obtain ⟨hE, gE, c3⟩ := (aM.drew).arr_at bA
    refine DL_q rfl rfl (Exec.index_slice S30 rfl c3 rfl (idx_some bA).1 (idx_some bA).2.1 ⟨rfl, ?_⟩)
    refine DL_q rfl rfl (Exec.load_arr (F := encsimulate_Event) (aM.drew) c3 A49 rfl rfl rfl bA (Sub.refl _) ?_)
    intro iu fX
    obtain rfl := encsimulate_Event_val.1 fX
    refine ⟨rfl, ?_⟩
    obtain ⟨jg, fY, ag⟩ := Zg ag
    refine DL_e rfl rfl (Exec.callc rfl rfl Tryz.func80 rfl N80 (Zi rfl (Zi rfl args_nil)) rfl ((simulate_run_write_c1_sim fY ((((aM.drew).f4).f4).f4).f4 (a4.mono a0) (a5.mono a0) (a6.mono a0) (a7.mono a0) (a8.mono a0) (a9.mono a0)).mono ?_))
    rintro _ i8 ⟨_, rfl, ⟨cf, eV, cC, rfl⟩⟩
    refine ⟨_, rfl, ?_⟩
    refine ⟨ag_nil, ?_⟩
    refine DL_q rfl rfl (Zq rfl rfl rfl ⟨rfl, ?_⟩)
    refine DL_q rfl rfl (Exec.not rfl rfl ⟨rfl, ?_⟩)
    refine DL_done (Zb (Ze ?_))
    obtain ⟨bF, bf, ag⟩ := Zg ag
    refine W_mid (M := fun f' w' => (un2 fun (cR : Int) (cV : Int) => ∃ (dA : PHeap) , PHeap.le cf dA ∧ St w0 dA (Res.arr encsimulate_Event 49 g aj :: Res.box m 68 [Value.pointer (some ⟨i, 0, none⟩)] :: Res.box i 70 [p, u, x, y, z, aa, j, k, Vi (a.out.Makespan)] :: Res.arr (encSlice (encInt .i64)) 22 j a.out.States :: Res.arr encsimulate_Problem 52 k a.out.Problems :: H) w' ∧ f' 0 = g ∧ f' 2 = Vi (d) ∧ f' 4 = Value.func (.func 80) #[] #[Value.pointer (some ⟨m, 0, none⟩)] ∧ f' 14 = Vi (cR) ∧ f' 15 = Vi (cV)) bF) ?_ ?_
    ·rcases ite_some bf with ⟨aW, bf⟩ | ⟨aW, bf⟩
     ·refine W_cond_t rfl aW (Zd (Za rfl rfl (Zm (v := Vi (IntKind.i64.wrap ((IntKind.u64.wrap (IntKind.i64.wrap (ap + ar))).fdiv (2 ^ 1)))) rfl rfl (Za rfl rfl (Exec.add rfl rfl rfl (Za rfl rfl (Zo (v := Vi (IntKind.i64.wrap ((IntKind.i64.wrap ((IntKind.u64.wrap (IntKind.i64.wrap (ap + ar))).fdiv (2 ^ 1))) + 1))) rfl rfl (Zb (Ze ?_)))))))))
      have gS := Zu bf
      subst bF
      exact ⟨cf, (Zv _), (((((cC).f3).f3).f3).f3).f4, bm, bt, bu, rfl, bw⟩
     refine W_cond_f rfl aW ?_
     replace aW := Zk aW
     refine Zd (Za rfl rfl (Zm (v := Vi (IntKind.i64.wrap ((IntKind.u64.wrap (IntKind.i64.wrap (ap + ar))).fdiv (2 ^ 1)))) rfl rfl (Za rfl rfl (Zo (v := Vi (IntKind.i64.wrap ((IntKind.u64.wrap (IntKind.i64.wrap (ap + ar))).fdiv (2 ^ 1)))) rfl rfl (Zb (Ze ?_))))))
     have gT := Zu bf
     subst bF
     exact ⟨cf, (Zv _), (((((cC).f3).f3).f3).f3).f4, bm, bt, bu, bv, rfl⟩
    intro ht i9 eg
    obtain ⟨cR, cV⟩ := bF
    replace ag := un2_eq ag
    obtain ⟨go, eW, e0, fn, fo, fp, fq, fr⟩ := eg
    refine (ib_normal (Ze ?_))
    have gU := Zu ag
    subst cr
    refine ⟨_, rfl, ?_⟩; exact ⟨go, (Zt (Zt a0 eV) eW), (((((e0).f4).f4).f4).f4).f4, fn, fo, fp, fq, fr⟩
   refine W_cond_f rfl aV ?_
   replace aV := Zk aV
   refine W_exit (at_exit (at_exit (ib_here (Ze ?_))))
   have gV := Zu ag
   subst cr
   refine ⟨_, .inr (eO (by intro _ h; cases h)), ?_⟩; exact ⟨gn, a0, (((((aM).f4).f4).f4).f4).f4, bm, bt, bu, bv, bw⟩
  rintro hu iA ⟨g2, cN, eh⟩
  have hm := cN.elim (eJ _) (eE _)
  clear cN
  obtain ⟨bj, cU⟩ := g2
  replace hm := un2_eq hm
  obtain ⟨cg, eX, e1, fs, ft, ie, fv, ig⟩ := eh
  refine (Ze (Zc (Zc (Zd (Za rfl rfl (Zm (v := Vi (d)) rfl ft (Za rfl rfl (Zo (v := Vi (d)) rfl rfl (Zb (Ze ?_))))))))))
  obtain ⟨cs, dW, hO, eK, eF⟩ := ctl_some hm
  refine W_mid (M := fun f' w' => ∃ s', (cs = .next s' ∨ cs = .brk s') ∧ (un2 fun (cX : Int) (db : (List simulate_Event)) => ∃ (dB : PHeap) , PHeap.le cg dB ∧ St w0 dB (Res.arr encsimulate_Event 49 g db :: Res.box m 68 [Value.pointer (some ⟨i, 0, none⟩)] :: Res.box i 70 [p, u, x, y, z, aa, j, k, Vi (a.out.Makespan)] :: Res.arr (encSlice (encInt .i64)) 22 j a.out.States :: Res.arr encsimulate_Problem 52 k a.out.Problems :: H) w' ∧ f' 0 = g ∧ f' 14 = Vi (bj) ∧ f' 17 = Vi (cX)) s') ?_ ?_
  ·refine W_block (W_while (fun s' f' w' => (un2 fun (av : Int) (dc : (List simulate_Event)) => ∃ (dC : PHeap) , PHeap.le cg dC ∧ St w0 dC (Res.arr encsimulate_Event 49 g dc :: Res.box m 68 [Value.pointer (some ⟨i, 0, none⟩)] :: Res.box i 70 [p, u, x, y, z, aa, j, k, Vi (a.out.Makespan)] :: Res.arr (encSlice (encInt .i64)) 22 j a.out.States :: Res.arr encsimulate_Problem 52 k a.out.Problems :: H) w' ∧ f' 0 = g ∧ f' 14 = Vi (bj) ∧ f' 17 = Vi (av)) s') dW ?_ ?_)
   ·have e2 := (e1).f4
    exact ⟨cg, (Zv _), ((((e2).f4).f4).f4).f4, fs, fv, rfl⟩
   intro g3 ct hv iB eb ah eP
   obtain ⟨av, dc⟩ := g3
   replace ah := un2_eq ah
   obtain ⟨dD, dd, aB, aI, bK, a3⟩ := eb
   refine Zc (Zc (Zd (Za rfl rfl (Zm (v := Vi (av)) rfl a3 (Za rfl rfl (Zm (v := Vi (bj)) rfl bK (Za rfl rfl (Exec.gtr rfl rfl rfl (Zb (Ze ?_))))))))))
   rcases ite_some ah with ⟨aX, ah⟩ | ⟨aX, ah⟩
   ·refine W_cond_t rfl aX (W_skip (Ze (Zc (W_block (W_dl (n0 := 16) (qs 0 15 (.e 15 [2, 3, 4] .done)) hmix (by kernel_rfl) (by kernel_rfl) (DL_q rfl rfl (Zm (v := g) rfl aI ⟨rfl, ?_⟩)))))))
    refine DL_q rfl rfl (Zm (v := Vi (av)) rfl a3 ⟨rfl, ?_⟩)
    refine DL_q rfl rfl (Zm (v := g) rfl aI ⟨rfl, ?_⟩)
    refine DL_q rfl rfl (Zm (v := Vi (av)) rfl a3 ⟨rfl, ?_⟩)
    refine DL_q rfl rfl (Exec.sub rfl rfl rfl ⟨rfl, ?_⟩)
    refine DL_q rfl rfl (Zm (v := g) rfl aI ⟨rfl, ?_⟩)
    refine DL_q rfl rfl (Zm (v := Vi (av)) rfl a3 ⟨rfl, ?_⟩)
    refine DL_q rfl rfl (Exec.sub rfl rfl rfl ⟨rfl, ?_⟩)
    obtain ⟨ja, bB, ah⟩ := Zg ah
    obtain ⟨hF, gF, c4⟩ := (aB.drew).arr_at bB
    refine DL_q rfl rfl (Exec.index_slice S30 rfl c4 rfl (idx_some bB).1 (idx_some bB).2.1 ⟨rfl, ?_⟩)
    refine DL_q rfl rfl (Exec.load_arr (F := encsimulate_Event) (aB.drew) c4 A49 rfl rfl rfl bB (Sub.refl _) ?_)
    intro iv fZ
    obtain rfl := encsimulate_Event_val.1 fZ
    refine ⟨rfl, ?_⟩
    refine DL_q rfl rfl (Zm (v := g) rfl aI ⟨rfl, ?_⟩)
    refine DL_q rfl rfl (Zm (v := Vi (av)) rfl a3 ⟨rfl, ?_⟩)
    obtain ⟨jb, aK, ah⟩ := Zg ah
    obtain ⟨hG, gG, c5⟩ := (aB.drew).arr_at aK
    refine DL_q rfl rfl (Exec.index_slice S30 rfl c5 rfl (idx_some aK).1 (idx_some aK).2.1 ⟨rfl, ?_⟩)
    refine DL_q rfl rfl (Exec.load_arr (F := encsimulate_Event) (aB.drew) c5 A49 rfl rfl rfl aK (Sub.refl _) ?_)
    intro iw ga
    obtain rfl := encsimulate_Event_val.1 ga
    refine ⟨rfl, ?_⟩
    obtain ⟨hH, gH, c6⟩ := (aB.drew).arr_at aK
    refine DL_q rfl rfl (Exec.index_slice S30 rfl c6 rfl (idx_some aK).1 (idx_some aK).2.1 ⟨rfl, ?_⟩)
    obtain ⟨hT, gb, ah⟩ := Zg ah
    refine DL_e rfl rfl (Exec.store_arr aB.drew c6 A49 rfl rfl rfl rfl (encsimulate_Event_val.2 rfl) gb ?_)
    intro iC cD
    refine ⟨(ag_cons (ag_r rfl rfl (Zm (v := g) rfl aI ⟨rfl, rfl⟩)) (ag_cons (ag_r rfl rfl (Zm (v := Vi (av)) rfl a3 ⟨rfl, rfl⟩)) (ag_cons (ag_r rfl rfl (Exec.sub rfl rfl rfl ⟨rfl, rfl⟩)) ag_nil))), ?_⟩
    refine DL_done ?_
    obtain ⟨jc, cc, ah⟩ := Zg ah
    obtain ⟨hI, gI, c7⟩ := (cD).arr_at cc
    refine Za rfl rfl (Exec.index_slice S30 rfl c7 rfl (idx_some cc).1 (idx_some cc).2.1 ?_)
    obtain ⟨hU, gc, ah⟩ := Zg ah
    refine Za rfl rfl (Exec.store_arr cD c7 A49 rfl rfl rfl rfl (encsimulate_Event_val.2 rfl) gc ?_)
    intro iD e3
    refine Zb (ib_normal (Ze (Zd (Za rfl rfl (Zm (v := Vi (av)) rfl a3 (Za rfl rfl (Exec.sub rfl rfl rfl (Za rfl rfl (Zo (v := Vi (IntKind.i64.wrap (av - 1))) rfl rfl (Zb (Ze ?_)))))))))))
    have gW := Zu ah
    subst ct
    refine ⟨_, rfl, ?_⟩; exact ⟨dD, dd, (((((e3).f4).f4).f4).f4).f4, aI, bK, rfl⟩
   refine W_cond_f rfl aX ?_
   replace aX := Zk aX
   refine W_exit (at_exit (at_exit (ib_here (Ze ?_))))
   have gX := Zu ah
   subst ct
   refine ⟨_, .inr (eP (by intro _ h; cases h)), ?_⟩; exact ⟨dD, dd, (((((aB).f4).f4).f4).f4).f4, aI, bK, a3⟩
  rintro hw iE ⟨g4, cO, ei⟩
  have hm := cO.elim (eK _) (eF _)
  clear cO
  obtain ⟨cX, db⟩ := g4
  replace hm := un2_eq hm
  obtain ⟨gp, eY, e4, ii, ij, ik⟩ := ei
  refine (Ze (W_ret (at_ret ?_)))
  have gY := Zu hm
  subst r
  refine ⟨_, retG0 rfl, ?_⟩
  exact ⟨gp, (Zt eX eY), (((((e4).f4).f4).f4).f4).f4, rfl⟩
 refine W_cond_f rfl aU ?_
 replace aU := Zk aU
 refine W_skip (Ze (Zc (Zd (Za rfl rfl (Zm (v := Vi (b)) rfl rfl (Za rfl rfl (Zm (v := Vi (c)) rfl rfl (Za rfl rfl (Exec.add rfl rfl rfl ?_)))))))))
 refine Za rfl rfl (Exec.convert_int (by rw [Tryz.underlying3]; rfl) Tryz.underlying135 rfl rfl ?_)
 refine Za rfl rfl (Exec.shr_const (n := 1) rfl (by decide) rfl rfl rfl ?_)
 refine Za rfl rfl (Exec.convert_int (by rw [Tryz.underlying135]; rfl) Tryz.underlying3 rfl rfl ?_)
 refine Za rfl rfl (Zo (v := Vi (IntKind.i64.wrap ((IntKind.u64.wrap (IntKind.i64.wrap (b + c))).fdiv (2 ^ 1)))) rfl rfl (Zb (Ze (Zc (Zd (Za rfl rfl (Zm (v := Vi (IntKind.i64.wrap ((IntKind.u64.wrap (IntKind.i64.wrap (b + c))).fdiv (2 ^ 1)))) rfl rfl (Za rfl rfl (Zm (v := Vi (d)) rfl rfl (Za rfl rfl (Exec.add rfl rfl rfl (Za rfl rfl (Zo (v := Vi (IntKind.i64.wrap ((IntKind.i64.wrap ((IntKind.u64.wrap (IntKind.i64.wrap (b + c))).fdiv (2 ^ 1))) + d))) rfl rfl (Zb (Ze (Zc (Zd (Za rfl rfl (Zo (v := Vi (0)) rfl rfl (Za rfl rfl (Zo (v := Vi (0)) rfl rfl (Zb (Ze (Zc (Zc (Zd (Za rfl rfl (Zm (v := Vi (d)) rfl rfl (Za rfl rfl (Zm (v := Vi (IntKind.i64.wrap ((IntKind.u64.wrap (IntKind.i64.wrap (b + c))).fdiv (2 ^ 1)))) rfl rfl (Za rfl rfl (Exec.gtr rfl rfl rfl (Zb (Ze ?_))))))))))))))))))))))))))))))))))
 obtain ⟨bG, bg, hm⟩ := Zg hm
 refine W_mid (M := fun f' w' => (un2 fun (dR : Int) (dz : Int) => ∃ (dE : PHeap) , PHeap.le s dE ∧ St w0 dE (Res.arr encsimulate_Event 49 g aj :: Res.box m 68 [Value.pointer (some ⟨i, 0, none⟩)] :: Res.box i 70 [p, u, x, y, z, aa, j, k, Vi (a.out.Makespan)] :: Res.arr (encSlice (encInt .i64)) 22 j a.out.States :: Res.arr encsimulate_Problem 52 k a.out.Problems :: H) w' ∧ f' 0 = g ∧ f' 1 = Vi (b) ∧ f' 2 = Vi (d) ∧ f' 3 = Vi (c) ∧ f' 4 = Value.func (.func 80) #[] #[Value.pointer (some ⟨m, 0, none⟩)] ∧ f' 18 = Vi (IntKind.i64.wrap ((IntKind.u64.wrap (IntKind.i64.wrap (b + c))).fdiv (2 ^ 1))) ∧ f' 19 = Vi (IntKind.i64.wrap ((IntKind.i64.wrap ((IntKind.u64.wrap (IntKind.i64.wrap (b + c))).fdiv (2 ^ 1))) + d)) ∧ f' 20 = Vi (dR) ∧ f' 21 = Vi (dz)) bG) ?_ ?_
 ·rcases ite_some bg with ⟨aY, bg⟩ | ⟨aY, bg⟩
  ·refine W_cond_t rfl aY (Zc (Zd (Za rfl rfl (Zm (v := Vi (IntKind.i64.wrap ((IntKind.i64.wrap ((IntKind.u64.wrap (IntKind.i64.wrap (b + c))).fdiv (2 ^ 1))) + d))) rfl rfl (Za rfl rfl (Zm (v := Vi (c)) rfl rfl (Za rfl rfl (Exec.sub rfl rfl rfl (Za rfl rfl (Zo (v := Vi (IntKind.i64.wrap ((IntKind.i64.wrap ((IntKind.i64.wrap ((IntKind.u64.wrap (IntKind.i64.wrap (b + c))).fdiv (2 ^ 1))) + d)) - c))) rfl rfl (Zb (Ze (Zd (Za rfl rfl (Zm (v := Vi (IntKind.i64.wrap ((IntKind.u64.wrap (IntKind.i64.wrap (b + c))).fdiv (2 ^ 1)))) rfl rfl (Za rfl rfl (Zo (v := Vi (IntKind.i64.wrap ((IntKind.u64.wrap (IntKind.i64.wrap (b + c))).fdiv (2 ^ 1)))) rfl rfl (Zb (Ze ?_)))))))))))))))))))
   have gZ := Zu bg
   subst bG
   exact ⟨s, (Zv _), (((((hS).f4).f4).f4).f4).f4, rfl, rfl, rfl, rfl, rfl, rfl, rfl, rfl, rfl⟩
  refine W_cond_f rfl aY ?_
  replace aY := Zk aY
  refine Zc (Zd (Za rfl rfl (Zm (v := Vi (b)) rfl rfl (Za rfl rfl (Zo (v := Vi (b)) rfl rfl (Zb (Ze (Zd (Za rfl rfl (Zm (v := Vi (d)) rfl rfl (Za rfl rfl (Zo (v := Vi (d)) rfl rfl (Zb (Ze ?_))))))))))))))
  have ha := Zu bg
  subst bG
  exact ⟨s, (Zv _), (((((hS).f4).f4).f4).f4).f4, rfl, rfl, rfl, rfl, rfl, rfl, rfl, rfl, rfl⟩
 intro hx iF ej
 obtain ⟨dR, dz⟩ := bG
 replace hm := un2_eq hm
 obtain ⟨ch, ab, e5, fw, fx, fy, fz, f0, f1, de, f2, f5⟩ := ej
 refine (Ze (Zc (Zd (Za rfl rfl (Zm (v := Vi (IntKind.i64.wrap ((IntKind.i64.wrap ((IntKind.u64.wrap (IntKind.i64.wrap (b + c))).fdiv (2 ^ 1))) + d))) rfl de (Za rfl rfl (Exec.sub rfl rfl rfl (Za rfl rfl (Zo (v := Vi (IntKind.i64.wrap ((IntKind.i64.wrap ((IntKind.i64.wrap ((IntKind.u64.wrap (IntKind.i64.wrap (b + c))).fdiv (2 ^ 1))) + d)) - 1))) rfl rfl (Zb (Ze (Zc ?_))))))))))))
 obtain ⟨cu, dX, hP, eL, eG⟩ := ctl_some hm
 refine W_mid (M := fun f' w' => ∃ s', (cu = .next s' ∨ cu = .brk s') ∧ (un2 fun (o : Int) (d0 : Int) => ∃ (dF : PHeap) , PHeap.le ch dF ∧ St w0 dF (Res.arr encsimulate_Event 49 g aj :: Res.box m 68 [Value.pointer (some ⟨i, 0, none⟩)] :: Res.box i 70 [p, u, x, y, z, aa, j, k, Vi (a.out.Makespan)] :: Res.arr (encSlice (encInt .i64)) 22 j a.out.States :: Res.arr encsimulate_Problem 52 k a.out.Problems :: H) w' ∧ f' 0 = g ∧ f' 1 = Vi (b) ∧ f' 2 = Vi (d) ∧ f' 3 = Vi (c) ∧ f' 4 = Value.func (.func 80) #[] #[Value.pointer (some ⟨m, 0, none⟩)] ∧ f' 18 = Vi (IntKind.i64.wrap ((IntKind.u64.wrap (IntKind.i64.wrap (b + c))).fdiv (2 ^ 1))) ∧ f' 19 = Vi (IntKind.i64.wrap ((IntKind.i64.wrap ((IntKind.u64.wrap (IntKind.i64.wrap (b + c))).fdiv (2 ^ 1))) + d)) ∧ f' 20 = Vi (o) ∧ f' 21 = Vi (d0) ∧ f' 22 = Vi (IntKind.i64.wrap ((IntKind.i64.wrap ((IntKind.i64.wrap ((IntKind.u64.wrap (IntKind.i64.wrap (b + c))).fdiv (2 ^ 1))) + d)) - 1))) s') ?_ ?_
 ·refine W_block (W_while (fun s' f' w' => (un2 fun (an : Int) (am : Int) => ∃ (dG : PHeap) , PHeap.le ch dG ∧ St w0 dG (Res.arr encsimulate_Event 49 g aj :: Res.box m 68 [Value.pointer (some ⟨i, 0, none⟩)] :: Res.box i 70 [p, u, x, y, z, aa, j, k, Vi (a.out.Makespan)] :: Res.arr (encSlice (encInt .i64)) 22 j a.out.States :: Res.arr encsimulate_Problem 52 k a.out.Problems :: H) w' ∧ f' 0 = g ∧ f' 1 = Vi (b) ∧ f' 2 = Vi (d) ∧ f' 3 = Vi (c) ∧ f' 4 = Value.func (.func 80) #[] #[Value.pointer (some ⟨m, 0, none⟩)] ∧ f' 18 = Vi (IntKind.i64.wrap ((IntKind.u64.wrap (IntKind.i64.wrap (b + c))).fdiv (2 ^ 1))) ∧ f' 19 = Vi (IntKind.i64.wrap ((IntKind.i64.wrap ((IntKind.u64.wrap (IntKind.i64.wrap (b + c))).fdiv (2 ^ 1))) + d)) ∧ f' 20 = Vi (an) ∧ f' 21 = Vi (am) ∧ f' 22 = Vi (IntKind.i64.wrap ((IntKind.i64.wrap ((IntKind.i64.wrap ((IntKind.u64.wrap (IntKind.i64.wrap (b + c))).fdiv (2 ^ 1))) + d)) - 1))) s') dX ?_ ?_)
  ·have e6 := (e5).f4
   exact ⟨ch, (Zv _), ((((e6).f4).f4).f4).f4, fw, fx, fy, fz, f0, f1, de, f2, f5, rfl⟩
  intro g5 cv hy iG ec ai eQ
  obtain ⟨an, am⟩ := g5
  replace ai := un2_eq ai
  obtain ⟨gq, a1, aN, bn, bL, bM, bN, bx, bO, bP, bz, b0, b1⟩ := ec
  refine Zc (Zc (Zd (Za rfl rfl (Zm (v := Vi (an)) rfl bz (Za rfl rfl (Zm (v := Vi (am)) rfl b0 (Za rfl rfl (Zq rfl rfl rfl (Zb (Ze ?_))))))))))
  rcases ite_some ai with ⟨aZ, ai⟩ | ⟨aZ, ai⟩
  ·refine W_cond_t rfl aZ (W_skip (Ze (W_block (Zc (Zd (Za rfl rfl (Zm (v := Vi (an)) rfl bz (Za rfl rfl (Zm (v := Vi (am)) rfl b0 (Za rfl rfl (Exec.add rfl rfl rfl ?_)))))))))))
   refine Za rfl rfl (Exec.convert_int (by rw [Tryz.underlying3]; rfl) Tryz.underlying135 rfl rfl ?_)
   refine Za rfl rfl (Exec.shr_const (n := 1) rfl (by decide) rfl rfl rfl ?_)
   refine Za rfl rfl (Exec.convert_int (by rw [Tryz.underlying135]; rfl) Tryz.underlying3 rfl rfl ?_)
   refine Za rfl rfl (Zo (v := Vi (IntKind.i64.wrap ((IntKind.u64.wrap (IntKind.i64.wrap (an + am))).fdiv (2 ^ 1)))) rfl rfl (Zb (Ze (Zc (W_dl (n0 := 14) (qs 0 11 (.e 11 [] (.q 12 (.q 13 .done)))) hmix (by kernel_rfl) (by kernel_rfl) (DL_q rfl rfl (Zm (v := Value.func (.func 80) #[] #[Value.pointer (some ⟨m, 0, none⟩)]) rfl bx ⟨rfl, ?_⟩)))))))
   refine DL_q rfl rfl (Zm (v := g) rfl bn ⟨rfl, ?_⟩)
   refine DL_q rfl rfl (Zm (v := Vi (IntKind.i64.wrap ((IntKind.i64.wrap ((IntKind.i64.wrap ((IntKind.u64.wrap (IntKind.i64.wrap (b + c))).fdiv (2 ^ 1))) + d)) - 1))) rfl b1 ⟨rfl, ?_⟩)
   refine DL_q rfl rfl (Zm (v := Vi (IntKind.i64.wrap ((IntKind.u64.wrap (IntKind.i64.wrap (an + am))).fdiv (2 ^ 1)))) rfl rfl ⟨rfl, ?_⟩)
   refine DL_q rfl rfl (Exec.sub rfl rfl rfl ⟨rfl, ?_⟩)
   obtain ⟨jd, bC, ai⟩ := Zg ai
   obtain ⟨hJ, gJ, c8⟩ := (aN.drew).arr_at bC
   refine DL_q rfl rfl (Exec.index_slice S30 rfl c8 rfl (idx_some bC).1 (idx_some bC).2.1 ⟨rfl, ?_⟩)
   refine DL_q rfl rfl (Exec.load_arr (F := encsimulate_Event) (aN.drew) c8 A49 rfl rfl rfl bC (Sub.refl _) ?_)
   intro ix gd
   obtain rfl := encsimulate_Event_val.1 gd
   refine ⟨rfl, ?_⟩
   refine DL_q rfl rfl (Zm (v := g) rfl bn ⟨rfl, ?_⟩)
   refine DL_q rfl rfl (Zm (v := Vi (IntKind.i64.wrap ((IntKind.u64.wrap (IntKind.i64.wrap (an + am))).fdiv (2 ^ 1)))) rfl rfl ⟨rfl, ?_⟩)
   obtain ⟨je, bD, ai⟩ := Zg ai
   obtain ⟨hK, gK, c9⟩ := (aN.drew).arr_at bD
   refine DL_q rfl rfl (Exec.index_slice S30 rfl c9 rfl (idx_some bD).1 (idx_some bD).2.1 ⟨rfl, ?_⟩)
   refine DL_q rfl rfl (Exec.load_arr (F := encsimulate_Event) (aN.drew) c9 A49 rfl rfl rfl bD (Sub.refl _) ?_)
   intro iy gf
   obtain rfl := encsimulate_Event_val.1 gf
   refine ⟨rfl, ?_⟩
   obtain ⟨jh, gg, ai⟩ := Zg ai
   refine DL_e rfl rfl (Exec.callc rfl rfl Tryz.func80 rfl N80 (Zi rfl (Zi rfl args_nil)) rfl ((simulate_run_write_c1_sim gg ((((aN.drew).f4).f4).f4).f4 (a4.mono (Zt ab a1)) (a5.mono (Zt ab a1)) (a6.mono (Zt ab a1)) (a7.mono (Zt ab a1)) (a8.mono (Zt ab a1)) (a9.mono (Zt ab a1))).mono ?_))
   rintro _ iH ⟨_, rfl, ⟨ci, eZ, cE, rfl⟩⟩
   refine ⟨_, rfl, ?_⟩
   refine ⟨ag_nil, ?_⟩
   refine DL_q rfl rfl (Zq rfl rfl rfl ⟨rfl, ?_⟩)
   refine DL_q rfl rfl (Exec.not rfl rfl ⟨rfl, ?_⟩)
   refine DL_done (Zb (Ze ?_))
   obtain ⟨bH, bh, ai⟩ := Zg ai
   refine W_mid (M := fun f' w' => (un2 fun (dS : Int) (d1 : Int) => ∃ (dH : PHeap) , PHeap.le ci dH ∧ St w0 dH (Res.arr encsimulate_Event 49 g aj :: Res.box m 68 [Value.pointer (some ⟨i, 0, none⟩)] :: Res.box i 70 [p, u, x, y, z, aa, j, k, Vi (a.out.Makespan)] :: Res.arr (encSlice (encInt .i64)) 22 j a.out.States :: Res.arr encsimulate_Problem 52 k a.out.Problems :: H) w' ∧ f' 0 = g ∧ f' 1 = Vi (b) ∧ f' 2 = Vi (d) ∧ f' 3 = Vi (c) ∧ f' 4 = Value.func (.func 80) #[] #[Value.pointer (some ⟨m, 0, none⟩)] ∧ f' 18 = Vi (IntKind.i64.wrap ((IntKind.u64.wrap (IntKind.i64.wrap (b + c))).fdiv (2 ^ 1))) ∧ f' 19 = Vi (IntKind.i64.wrap ((IntKind.i64.wrap ((IntKind.u64.wrap (IntKind.i64.wrap (b + c))).fdiv (2 ^ 1))) + d)) ∧ f' 20 = Vi (dS) ∧ f' 21 = Vi (d1) ∧ f' 22 = Vi (IntKind.i64.wrap ((IntKind.i64.wrap ((IntKind.i64.wrap ((IntKind.u64.wrap (IntKind.i64.wrap (b + c))).fdiv (2 ^ 1))) + d)) - 1))) bH) ?_ ?_
   ·rcases ite_some bh with ⟨ba, bh⟩ | ⟨ba, bh⟩
    ·refine W_cond_t rfl ba (Zd (Za rfl rfl (Zm (v := Vi (IntKind.i64.wrap ((IntKind.u64.wrap (IntKind.i64.wrap (an + am))).fdiv (2 ^ 1)))) rfl rfl (Za rfl rfl (Exec.add rfl rfl rfl (Za rfl rfl (Zo (v := Vi (IntKind.i64.wrap ((IntKind.i64.wrap ((IntKind.u64.wrap (IntKind.i64.wrap (an + am))).fdiv (2 ^ 1))) + 1))) rfl rfl (Zb (Ze ?_)))))))))
     have hb := Zu bh
     subst bH
     exact ⟨ci, (Zv _), (((((cE).f3).f3).f3).f3).f4, bn, bL, bM, bN, bx, bO, bP, rfl, b0, b1⟩
    refine W_cond_f rfl ba ?_
    replace ba := Zk ba
    refine Zd (Za rfl rfl (Zm (v := Vi (IntKind.i64.wrap ((IntKind.u64.wrap (IntKind.i64.wrap (an + am))).fdiv (2 ^ 1)))) rfl rfl (Za rfl rfl (Zo (v := Vi (IntKind.i64.wrap ((IntKind.u64.wrap (IntKind.i64.wrap (an + am))).fdiv (2 ^ 1)))) rfl rfl (Zb (Ze ?_))))))
    have hc := Zu bh
    subst bH
    exact ⟨ci, (Zv _), (((((cE).f3).f3).f3).f3).f4, bn, bL, bM, bN, bx, bO, bP, bz, rfl, b1⟩
   intro hz iI ek
   obtain ⟨dS, d1⟩ := bH
   replace ai := un2_eq ai
   obtain ⟨gr, fa, e7, f6, f7, f8, f9, fA, fB, fC, fD, fE, fF⟩ := ek
   refine (ib_normal (Ze ?_))
   have hd := Zu ai
   subst cv
   refine ⟨_, rfl, ?_⟩; exact ⟨gr, (Zt (Zt a1 eZ) fa), (((((e7).f4).f4).f4).f4).f4, f6, f7, f8, f9, fA, fB, fC, fD, fE, fF⟩
  refine W_cond_f rfl aZ ?_
  replace aZ := Zk aZ
  refine W_exit (at_exit (at_exit (ib_here (Ze ?_))))
  have he := Zu ai
  subst cv
  refine ⟨_, .inr (eQ (by intro _ h; cases h)), ?_⟩; exact ⟨gq, a1, (((((aN).f4).f4).f4).f4).f4, bn, bL, bM, bN, bx, bO, bP, bz, b0, b1⟩
 rintro h0 iJ ⟨g6, cP, el⟩
 have hm := cP.elim (eL _) (eG _)
 clear cP
 obtain ⟨o, d0⟩ := g6
 replace hm := un2_eq hm
 obtain ⟨cj, ac, cF, df, dg, b2, dh, di, dj, fG, b3, il, im⟩ := el
 refine (Ze (Zc (Zd (Za rfl rfl (Zm (v := Vi (IntKind.i64.wrap ((IntKind.i64.wrap ((IntKind.u64.wrap (IntKind.i64.wrap (b + c))).fdiv (2 ^ 1))) + d))) rfl fG (Za rfl rfl (Zm (v := Vi (o)) rfl b3 (Za rfl rfl (Exec.sub rfl rfl rfl (Za rfl rfl (Zo (v := Vi (IntKind.i64.wrap ((IntKind.i64.wrap ((IntKind.i64.wrap ((IntKind.u64.wrap (IntKind.i64.wrap (b + c))).fdiv (2 ^ 1))) + d)) - o))) rfl rfl (Zb (Ze (Zc (Zc (W_mid (M := fun f' w' => ∃ (dI : PHeap) , PHeap.le cj dI ∧ St w0 dI (Res.arr encsimulate_Event 49 g aj :: Res.box m 68 [Value.pointer (some ⟨i, 0, none⟩)] :: Res.box i 70 [p, u, x, y, z, aa, j, k, Vi (a.out.Makespan)] :: Res.arr (encSlice (encInt .i64)) 22 j a.out.States :: Res.arr encsimulate_Problem 52 k a.out.Problems :: H) w' ∧ f' 0 = g ∧ f' 1 = Vi (b) ∧ f' 2 = Vi (d) ∧ f' 3 = Vi (c) ∧ f' 4 = Value.func (.func 80) #[] #[Value.pointer (some ⟨m, 0, none⟩)] ∧ f' 18 = Vi (IntKind.i64.wrap ((IntKind.u64.wrap (IntKind.i64.wrap (b + c))).fdiv (2 ^ 1))) ∧ f' 20 = Vi (o) ∧ f' 24 = Vi (IntKind.i64.wrap ((IntKind.i64.wrap ((IntKind.i64.wrap ((IntKind.u64.wrap (IntKind.i64.wrap (b + c))).fdiv (2 ^ 1))) + d)) - o)) ∧ f' 185 = Value.bool (((decide (o < d)) && decide (d < (IntKind.i64.wrap ((IntKind.i64.wrap ((IntKind.i64.wrap ((IntKind.u64.wrap (IntKind.i64.wrap (b + c))).fdiv (2 ^ 1))) + d)) - o)))))) ?_ ?_))))))))))))))))
 ·refine Zd (Za rfl rfl (Zm (v := Vi (o)) rfl b3 (Za rfl rfl (Zm (v := Vi (d)) rfl b2 (Za rfl rfl (Zq rfl rfl rfl (Za rfl rfl (Zm (v := Value.bool (decide (o < d))) rfl rfl ?_))))))))
  by_cases aw : (decide (o < d)) = true
  ·refine WL_run rfl (Zf rfl (Zx aw)) rfl (Zm (v := Vi (d)) rfl b2 (WL_run rfl (Zf rfl (Zx aw)) rfl (Zm (v := Vi (IntKind.i64.wrap ((IntKind.i64.wrap ((IntKind.i64.wrap ((IntKind.u64.wrap (IntKind.i64.wrap (b + c))).fdiv (2 ^ 1))) + d)) - o))) rfl rfl (WL_run rfl (Zf rfl (Zx aw)) rfl (Zq rfl rfl rfl (Za rfl rfl (Zs (v := Value.bool (decide (d < (IntKind.i64.wrap ((IntKind.i64.wrap ((IntKind.i64.wrap ((IntKind.u64.wrap (IntKind.i64.wrap (b + c))).fdiv (2 ^ 1))) + d)) - o))))) rfl (Zx aw) rfl (Zb (Ze ?_)))))))))
   exact ⟨cj, (Zv _), (((((cF).f4).f4).f4).f4).f4, df, dg, b2, dh, di, dj, b3, rfl, (Zx (and_t aw)).symm⟩
  replace aw := Zk aw
  refine WL_passes 4 (by rw [aw]; rfl) ?_
  refine Zb (Ze ?_)
  exact ⟨cj, (Zv _), (((((cF).f4).f4).f4).f4).f4, df, dg, b2, dh, di, dj, b3, rfl, (Zx (and_f aw)).symm⟩
 intro h1 iK em
 obtain ⟨dJ, ad, cG, bQ, dk, fH, dl, bR, dm, bS, bT, dn⟩ := em
 refine (Ze ?_)
 obtain ⟨aO, aC, hm⟩ := Zg hm
 refine W_mid (M := fun f' w' => (fun (aO : (List simulate_Event)) => ∃ (dK : PHeap) , PHeap.le dJ dK ∧ St w0 dK (Res.arr encsimulate_Event 49 g aO :: Res.box m 68 [Value.pointer (some ⟨i, 0, none⟩)] :: Res.box i 70 [p, u, x, y, z, aa, j, k, Vi (a.out.Makespan)] :: Res.arr (encSlice (encInt .i64)) 22 j a.out.States :: Res.arr encsimulate_Problem 52 k a.out.Problems :: H) w' ∧ f' 0 = g ∧ f' 1 = Vi (b) ∧ f' 3 = Vi (c) ∧ f' 4 = Value.func (.func 80) #[] #[Value.pointer (some ⟨m, 0, none⟩)] ∧ f' 18 = Vi (IntKind.i64.wrap ((IntKind.u64.wrap (IntKind.i64.wrap (b + c))).fdiv (2 ^ 1))) ∧ f' 20 = Vi (o) ∧ f' 24 = Vi (IntKind.i64.wrap ((IntKind.i64.wrap ((IntKind.i64.wrap ((IntKind.u64.wrap (IntKind.i64.wrap (b + c))).fdiv (2 ^ 1))) + d)) - o))) aO) ?_ ?_
 ·rcases ite_some aC with ⟨bb, aC⟩ | ⟨bb, aC⟩
  ·refine W_cond_t dn bb (Zd (Za rfl rfl (Zm (v := g) rfl bQ (Za rfl rfl (Zm (v := Vi (o)) rfl bS (Za rfl rfl (Zm (v := Vi (d)) rfl fH (Za rfl rfl (Zm (v := Vi (IntKind.i64.wrap ((IntKind.i64.wrap ((IntKind.i64.wrap ((IntKind.u64.wrap (IntKind.i64.wrap (b + c))).fdiv (2 ^ 1))) + d)) - o))) rfl bT (Za rfl rfl (Zm (v := Value.func (.func 80) #[] #[Value.pointer (some ⟨m, 0, none⟩)]) rfl bR ?_)))))))))))
   obtain ⟨hV, gh, aC⟩ := Zg aC
   refine Za rfl rfl (Tc rfl rfl rfl (Zi rfl (Zi rfl (Zi rfl (Zi rfl (Zi rfl args_nil))))) (slices_rotateCmpFunc_simulateEvent_o_write_c1_sim gh (((((cG).f4).f4).f4).f4).f4 (a4.mono (Zt (Zt ab ac) ad)) (a5.mono (Zt (Zt ab ac) ad)) (a6.mono (Zt (Zt ab ac) ad)) (a7.mono (Zt (Zt ab ac) ad)) (a8.mono (Zt (Zt ab ac) ad)) (a9.mono (Zt (Zt ab ac) ad))).r ?_)
   rintro _ iL ⟨gs, fb, e8, rfl⟩
   refine Zb (Ze ?_)
   have hf := Zu aC
   subst aO
   exact ⟨gs, fb, (((((e8).f4).f4).f4).f4).f4, bQ, dk, dl, bR, dm, bS, bT⟩
  refine W_cond_f dn bb ?_
  replace bb := Zk bb
  refine W_skip (Ze ?_)
  have hg := Zu aC
  subst aO
  exact ⟨dJ, (Zv _), (((((cG).f4).f4).f4).f4).f4, bQ, dk, dl, bR, dm, bS, bT⟩
 intro h2 iM en
 obtain ⟨ck, ak, cH, dp, bU, dq, dr, bV, b4, ds⟩ := en
 refine (Ze (Zc (Zc (W_mid (M := fun f' w' => ∃ (dL : PHeap) , PHeap.le ck dL ∧ St w0 dL (Res.arr encsimulate_Event 49 g aO :: Res.box m 68 [Value.pointer (some ⟨i, 0, none⟩)] :: Res.box i 70 [p, u, x, y, z, aa, j, k, Vi (a.out.Makespan)] :: Res.arr (encSlice (encInt .i64)) 22 j a.out.States :: Res.arr encsimulate_Problem 52 k a.out.Problems :: H) w' ∧ f' 0 = g ∧ f' 1 = Vi (b) ∧ f' 3 = Vi (c) ∧ f' 4 = Value.func (.func 80) #[] #[Value.pointer (some ⟨m, 0, none⟩)] ∧ f' 18 = Vi (IntKind.i64.wrap ((IntKind.u64.wrap (IntKind.i64.wrap (b + c))).fdiv (2 ^ 1))) ∧ f' 20 = Vi (o) ∧ f' 24 = Vi (IntKind.i64.wrap ((IntKind.i64.wrap ((IntKind.i64.wrap ((IntKind.u64.wrap (IntKind.i64.wrap (b + c))).fdiv (2 ^ 1))) + d)) - o)) ∧ f' 199 = Value.bool (((decide (b < o)) && decide (o < (IntKind.i64.wrap ((IntKind.u64.wrap (IntKind.i64.wrap (b + c))).fdiv (2 ^ 1))))))) ?_ ?_))))
 ·refine Zd (Za rfl rfl (Zm (v := Vi (b)) rfl bU (Za rfl rfl (Zm (v := Vi (o)) rfl b4 (Za rfl rfl (Zq rfl rfl rfl (Za rfl rfl (Zm (v := Value.bool (decide (b < o))) rfl rfl ?_))))))))
  by_cases ax : (decide (b < o)) = true
  ·refine WL_run rfl (Zf rfl (Zx ax)) rfl (Zm (v := Vi (o)) rfl b4 (WL_run rfl (Zf rfl (Zx ax)) rfl (Zm (v := Vi (IntKind.i64.wrap ((IntKind.u64.wrap (IntKind.i64.wrap (b + c))).fdiv (2 ^ 1)))) rfl bV (WL_run rfl (Zf rfl (Zx ax)) rfl (Zq rfl rfl rfl (Za rfl rfl (Zs (v := Value.bool (decide (o < (IntKind.i64.wrap ((IntKind.u64.wrap (IntKind.i64.wrap (b + c))).fdiv (2 ^ 1)))))) rfl (Zx ax) rfl (Zb (Ze ?_)))))))))
   exact ⟨ck, (Zv _), (((((cH).f4).f4).f4).f4).f4, dp, bU, dq, dr, bV, b4, ds, (Zx (and_t ax)).symm⟩
  replace ax := Zk ax
  refine WL_passes 4 (by rw [ax]; rfl) ?_
  refine Zb (Ze ?_)
  exact ⟨ck, (Zv _), (((((cH).f4).f4).f4).f4).f4, dp, bU, dq, dr, bV, b4, ds, (Zx (and_f ax)).symm⟩
 intro h3 iN eo
 obtain ⟨dM, al, cI, bW, fI, dt, bX, bY, fJ, du, dv⟩ := eo
 refine (Ze ?_)
 obtain ⟨aP, aD, hm⟩ := Zg hm
 refine W_mid (M := fun f' w' => (fun (aP : (List simulate_Event)) => ∃ (dN : PHeap) , PHeap.le dM dN ∧ St w0 dN (Res.arr encsimulate_Event 49 g aP :: Res.box m 68 [Value.pointer (some ⟨i, 0, none⟩)] :: Res.box i 70 [p, u, x, y, z, aa, j, k, Vi (a.out.Makespan)] :: Res.arr (encSlice (encInt .i64)) 22 j a.out.States :: Res.arr encsimulate_Problem 52 k a.out.Problems :: H) w' ∧ f' 0 = g ∧ f' 3 = Vi (c) ∧ f' 4 = Value.func (.func 80) #[] #[Value.pointer (some ⟨m, 0, none⟩)] ∧ f' 18 = Vi (IntKind.i64.wrap ((IntKind.u64.wrap (IntKind.i64.wrap (b + c))).fdiv (2 ^ 1))) ∧ f' 24 = Vi (IntKind.i64.wrap ((IntKind.i64.wrap ((IntKind.i64.wrap ((IntKind.u64.wrap (IntKind.i64.wrap (b + c))).fdiv (2 ^ 1))) + d)) - o))) aP) ?_ ?_
 ·rcases ite_some aD with ⟨bc, aD⟩ | ⟨bc, aD⟩
  ·refine W_cond_t dv bc (Zd (Za rfl rfl (Zm (v := g) rfl bW (Za rfl rfl (Zm (v := Vi (b)) rfl fI (Za rfl rfl (Zm (v := Vi (o)) rfl fJ (Za rfl rfl (Zm (v := Vi (IntKind.i64.wrap ((IntKind.u64.wrap (IntKind.i64.wrap (b + c))).fdiv (2 ^ 1)))) rfl bY (Za rfl rfl (Zm (v := Value.func (.func 80) #[] #[Value.pointer (some ⟨m, 0, none⟩)]) rfl bX ?_)))))))))))
   obtain ⟨hW, gi, aD⟩ := Zg aD
   refine Za rfl rfl (Tc rfl rfl rfl (Zi rfl (Zi rfl (Zi rfl (Zi rfl (Zi rfl args_nil))))) (ih gi (((((cI).f4).f4).f4).f4).f4 (a4.mono (Zt (Zt (Zt (Zt ab ac) ad) ak) al)) (a5.mono (Zt (Zt (Zt (Zt ab ac) ad) ak) al)) (a6.mono (Zt (Zt (Zt (Zt ab ac) ad) ak) al)) (a7.mono (Zt (Zt (Zt (Zt ab ac) ad) ak) al)) (a8.mono (Zt (Zt (Zt (Zt ab ac) ad) ak) al)) (a9.mono (Zt (Zt (Zt (Zt ab ac) ad) ak) al))).r ?_)
   rintro _ iO ⟨gu, fc, e9, rfl⟩
   refine Zb (Ze ?_)
   have hh := Zu aD
   subst aP
   exact ⟨gu, fc, (((((e9).f4).f4).f4).f4).f4, bW, dt, bX, bY, du⟩
  refine W_cond_f dv bc ?_
  replace bc := Zk bc
  refine W_skip (Ze ?_)
  have hi := Zu aD
  subst aP
  exact ⟨dM, (Zv _), (((((cI).f4).f4).f4).f4).f4, bW, dt, bX, bY, du⟩
 intro h4 iP ep
 obtain ⟨cl, aF, cJ, dw, bZ, dx, ca, b5⟩ := ep
 refine (Ze (Zc (W_mid (M := fun f' w' => ∃ (dO : PHeap) , PHeap.le cl dO ∧ St w0 dO (Res.arr encsimulate_Event 49 g aP :: Res.box m 68 [Value.pointer (some ⟨i, 0, none⟩)] :: Res.box i 70 [p, u, x, y, z, aa, j, k, Vi (a.out.Makespan)] :: Res.arr (encSlice (encInt .i64)) 22 j a.out.States :: Res.arr encsimulate_Problem 52 k a.out.Problems :: H) w' ∧ f' 0 = g ∧ f' 3 = Vi (c) ∧ f' 4 = Value.func (.func 80) #[] #[Value.pointer (some ⟨m, 0, none⟩)] ∧ f' 18 = Vi (IntKind.i64.wrap ((IntKind.u64.wrap (IntKind.i64.wrap (b + c))).fdiv (2 ^ 1))) ∧ f' 24 = Vi (IntKind.i64.wrap ((IntKind.i64.wrap ((IntKind.i64.wrap ((IntKind.u64.wrap (IntKind.i64.wrap (b + c))).fdiv (2 ^ 1))) + d)) - o)) ∧ f' 213 = Value.bool (((decide ((IntKind.i64.wrap ((IntKind.u64.wrap (IntKind.i64.wrap (b + c))).fdiv (2 ^ 1))) < (IntKind.i64.wrap ((IntKind.i64.wrap ((IntKind.i64.wrap ((IntKind.u64.wrap (IntKind.i64.wrap (b + c))).fdiv (2 ^ 1))) + d)) - o)))) && decide ((IntKind.i64.wrap ((IntKind.i64.wrap ((IntKind.i64.wrap ((IntKind.u64.wrap (IntKind.i64.wrap (b + c))).fdiv (2 ^ 1))) + d)) - o)) < c)))) ?_ ?_)))
 ·refine Zd (Za rfl rfl (Zm (v := Vi (IntKind.i64.wrap ((IntKind.u64.wrap (IntKind.i64.wrap (b + c))).fdiv (2 ^ 1)))) rfl ca (Za rfl rfl (Zm (v := Vi (IntKind.i64.wrap ((IntKind.i64.wrap ((IntKind.i64.wrap ((IntKind.u64.wrap (IntKind.i64.wrap (b + c))).fdiv (2 ^ 1))) + d)) - o))) rfl b5 (Za rfl rfl (Zq rfl rfl rfl (Za rfl rfl (Zm (v := Value.bool (decide ((IntKind.i64.wrap ((IntKind.u64.wrap (IntKind.i64.wrap (b + c))).fdiv (2 ^ 1))) < (IntKind.i64.wrap ((IntKind.i64.wrap ((IntKind.i64.wrap ((IntKind.u64.wrap (IntKind.i64.wrap (b + c))).fdiv (2 ^ 1))) + d)) - o))))) rfl rfl ?_))))))))
  by_cases ay : (decide ((IntKind.i64.wrap ((IntKind.u64.wrap (IntKind.i64.wrap (b + c))).fdiv (2 ^ 1))) < (IntKind.i64.wrap ((IntKind.i64.wrap ((IntKind.i64.wrap ((IntKind.u64.wrap (IntKind.i64.wrap (b + c))).fdiv (2 ^ 1))) + d)) - o)))) = true
  ·refine WL_run rfl (Zf rfl (Zx ay)) rfl (Zm (v := Vi (IntKind.i64.wrap ((IntKind.i64.wrap ((IntKind.i64.wrap ((IntKind.u64.wrap (IntKind.i64.wrap (b + c))).fdiv (2 ^ 1))) + d)) - o))) rfl b5 (WL_run rfl (Zf rfl (Zx ay)) rfl (Zm (v := Vi (c)) rfl bZ (WL_run rfl (Zf rfl (Zx ay)) rfl (Zq rfl rfl rfl (Za rfl rfl (Zs (v := Value.bool (decide ((IntKind.i64.wrap ((IntKind.i64.wrap ((IntKind.i64.wrap ((IntKind.u64.wrap (IntKind.i64.wrap (b + c))).fdiv (2 ^ 1))) + d)) - o)) < c))) rfl (Zx ay) rfl (Zb (Ze ?_)))))))))
   exact ⟨cl, (Zv _), (((((cJ).f4).f4).f4).f4).f4, dw, bZ, dx, ca, b5, (Zx (and_t ay)).symm⟩
  replace ay := Zk ay
  refine WL_passes 4 (by rw [ay]; rfl) ?_
  refine Zb (Ze ?_)
  exact ⟨cl, (Zv _), (((((cJ).f4).f4).f4).f4).f4, dw, bZ, dx, ca, b5, (Zx (and_f ay)).symm⟩
 intro h5 iQ er
 obtain ⟨dP, aG, cK, fK, fL, fM, fN, fO, dy⟩ := er
 refine (Ze ?_)
 obtain ⟨bk, aE, hm⟩ := Zg hm
 refine W_mid (M := fun f' w' => (fun (bk : (List simulate_Event)) => ∃ (dQ : PHeap) , PHeap.le dP dQ ∧ St w0 dQ (Res.arr encsimulate_Event 49 g bk :: Res.box m 68 [Value.pointer (some ⟨i, 0, none⟩)] :: Res.box i 70 [p, u, x, y, z, aa, j, k, Vi (a.out.Makespan)] :: Res.arr (encSlice (encInt .i64)) 22 j a.out.States :: Res.arr encsimulate_Problem 52 k a.out.Problems :: H) w') bk) ?_ ?_
 ·rcases ite_some aE with ⟨bd, aE⟩ | ⟨bd, aE⟩
  ·refine W_cond_t dy bd (Zd (Za rfl rfl (Zm (v := g) rfl fK (Za rfl rfl (Zm (v := Vi (IntKind.i64.wrap ((IntKind.u64.wrap (IntKind.i64.wrap (b + c))).fdiv (2 ^ 1)))) rfl fN (Za rfl rfl (Zm (v := Vi (IntKind.i64.wrap ((IntKind.i64.wrap ((IntKind.i64.wrap ((IntKind.u64.wrap (IntKind.i64.wrap (b + c))).fdiv (2 ^ 1))) + d)) - o))) rfl fO (Za rfl rfl (Zm (v := Vi (c)) rfl fL (Za rfl rfl (Zm (v := Value.func (.func 80) #[] #[Value.pointer (some ⟨m, 0, none⟩)]) rfl fM ?_)))))))))))
   obtain ⟨hX, gj, aE⟩ := Zg aE
   refine Za rfl rfl (Tc rfl rfl rfl (Zi rfl (Zi rfl (Zi rfl (Zi rfl (Zi rfl args_nil))))) (ih gj (((((cK).f4).f4).f4).f4).f4 (a4.mono (Zt (Zt (Zt (Zt (Zt (Zt ab ac) ad) ak) al) aF) aG)) (a5.mono (Zt (Zt (Zt (Zt (Zt (Zt ab ac) ad) ak) al) aF) aG)) (a6.mono (Zt (Zt (Zt (Zt (Zt (Zt ab ac) ad) ak) al) aF) aG)) (a7.mono (Zt (Zt (Zt (Zt (Zt (Zt ab ac) ad) ak) al) aF) aG)) (a8.mono (Zt (Zt (Zt (Zt (Zt (Zt ab ac) ad) ak) al) aF) aG)) (a9.mono (Zt (Zt (Zt (Zt (Zt (Zt ab ac) ad) ak) al) aF) aG))).r ?_)
   rintro _ iR ⟨gv, fd, eA, rfl⟩
   refine Zb (Ze ?_)
   have hj := Zu aE
   subst bk
   exact ⟨gv, fd, (((((eA).f4).f4).f4).f4).f4⟩
  refine W_cond_f dy bd ?_
  replace bd := Zk bd
  refine W_skip (Ze ?_)
  have hk := Zu aE
  subst bk
  exact ⟨dP, (Zv _), (((((cK).f4).f4).f4).f4).f4⟩
 intro h6 iS es
 obtain ⟨gw, fe, eB⟩ := es
 refine ?_
 have hl := Zu hm
 subst r
 refine ⟨_, retG0 rfl, ?_⟩
 exact ⟨gw, (Zt (Zt (Zt (Zt (Zt (Zt (Zt ab ac) ad) ak) al) aF) aG) fe), (((((eB).f4).f4).f4).f4).f4, rfl⟩
theorem slices_symMergeCmpFunc_simulateEvent_o_write_c1_sim {fu : Nat} : ∀ {w0 w : World} {s : PHeap} {H : List Res} {q : (List simulate_Event)} {o : Int} {u : Int} {p : Int} {a : simulate_run} {g : Value} {f : Nat} {b : Nat} {h : Value} {i : Value} {j : Value} {k : Value} {m : Value} {n : Value} {c : Value} {d : Value} {r : (List simulate_Event)} (hm : slices_symMergeCmpFunc_simulateEvent_o_write_c1_p fu q o u p a = some r) (hS : St w0 s (Res.arr encsimulate_Event 49 g q :: Res.box f 68 [Value.pointer (some ⟨b, 0, none⟩)] :: Res.box b 70 [h, i, j, k, m, n, c, d, Vi (a.out.Makespan)] :: Res.arr (encSlice (encInt .i64)) 22 c a.out.States :: Res.arr encsimulate_Problem 52 d a.out.Problems :: H) w) (z : SliceRep (encInt .i64) s h a.t.Vars) (aa : SliceRep (encInt .i64) s i a.t.Init) (ab : SliceRep encFact s j a.t.Goal) (ac : SliceRep encJob s k a.t.Jobs) (ad : SliceRep encLaunch s m a.l) (ae : SliceRep encsimulate_Event s n a.out.Events), Calls Tryz.prog 113 #[g, Vi (o), Vi (u), Vi (p), Value.func (.func 80) #[] #[Value.pointer (some ⟨f, 0, none⟩)]] w fun e w' => ∃ v, e = .returned v ∧ ((fun (y : (List simulate_Event)) => ∃ (x : PHeap) , PHeap.le s x ∧ St w0 x (Res.arr encsimulate_Event 49 g y :: Res.box f 68 [Value.pointer (some ⟨b, 0, none⟩)] :: Res.box b 70 [h, i, j, k, m, n, c, d, Vi (a.out.Makespan)] :: Res.arr (encSlice (encInt .i64)) 22 c a.out.States :: Res.arr encsimulate_Problem 52 d a.out.Problems :: H) w' ∧ v = Value.tuple #[]) r) := by
 induction fu with
 | zero => intros; rename_i hm _ _ _ _ _ _ _; rw [slices_symMergeCmpFunc_simulateEvent_o_write_c1_p] at hm; cases hm
 | succ fu ih => exact slices_symMergeCmpFunc_simulateEvent_o_write_c1_step ih
theorem slices_stableCmpFunc_simulateEvent_o_write_c1_sim {w0 w : World} {s : PHeap} {H : List Res} {fu : Nat} {aS : (List simulate_Event)} {m : Int} {a : simulate_run} {c : Value} {b : Nat} {g : Nat} {q : Value} {u : Value} {x : Value} {y : Value} {z : Value} {aa : Value} {i : Value} {j : Value} {r : (List simulate_Event)} (hm : slices_stableCmpFunc_simulateEvent_o_write_c1_p fu aS m a = some r) (hS : St w0 s (Res.arr encsimulate_Event 49 c aS :: Res.box b 68 [Value.pointer (some ⟨g, 0, none⟩)] :: Res.box g 70 [q, u, x, y, z, aa, i, j, Vi (a.out.Makespan)] :: Res.arr (encSlice (encInt .i64)) 22 i a.out.States :: Res.arr encsimulate_Problem 52 j a.out.Problems :: H) w) (ar : SliceRep (encInt .i64) s q a.t.Vars) (au : SliceRep (encInt .i64) s u a.t.Init) (av : SliceRep encFact s x a.t.Goal) (aw : SliceRep encJob s y a.t.Jobs) (ax : SliceRep encLaunch s z a.l) (ay : SliceRep encsimulate_Event s aa a.out.Events) :
  Calls Tryz.prog 95 #[c, Vi (m), Value.func (.func 80) #[] #[Value.pointer (some ⟨b, 0, none⟩)]] w fun e w' => ∃ v, e = .returned v ∧ ((fun (bQ : (List simulate_Event)) => ∃ (bn : PHeap) , PHeap.le s bn ∧ St w0 bn (Res.arr encsimulate_Event 49 c bQ :: Res.box b 68 [Value.pointer (some ⟨g, 0, none⟩)] :: Res.box g 70 [q, u, x, y, z, aa, i, j, Vi (a.out.Makespan)] :: Res.arr (encSlice (encInt .i64)) 22 i a.out.States :: Res.arr encsimulate_Problem 52 j a.out.Problems :: H) w' ∧ v = Value.tuple #[]) r) := by
 unfold slices_stableCmpFunc_simulateEvent_o_write_c1_p at hm
 refine calls_of_W Tryz.func95 rfl rfl (Zc (Zd (Za rfl rfl (Zo (v := Vi (20)) rfl rfl (Zb (Ze (Zc (Zd (Za rfl rfl (Zm (v := Vi (20)) rfl rfl (Za rfl rfl (Zo (v := Vi (0)) rfl rfl (Za rfl rfl (Zo (v := Vi (20)) rfl rfl (Zb (Ze (Zc ?_)))))))))))))))))
 obtain ⟨aM, bw, c9, bK, bH⟩ := ctl_some hm
 refine W_mid (M := fun f' w' => ∃ s', (aM = .next s' ∨ aM = .brk s') ∧ (un3 fun (a4 : Int) (aJ : Int) (ba : (List simulate_Event)) => ∃ (bo : PHeap) , PHeap.le s bo ∧ St w0 bo (Res.arr encsimulate_Event 49 c ba :: Res.box b 68 [Value.pointer (some ⟨g, 0, none⟩)] :: Res.box g 70 [q, u, x, y, z, aa, i, j, Vi (a.out.Makespan)] :: Res.arr (encSlice (encInt .i64)) 22 i a.out.States :: Res.arr encsimulate_Problem 52 j a.out.Problems :: H) w' ∧ f' 0 = c ∧ f' 1 = Vi (m) ∧ f' 2 = Value.func (.func 80) #[] #[Value.pointer (some ⟨b, 0, none⟩)] ∧ f' 6 = Vi (20) ∧ f' 7 = Vi (a4) ∧ f' 8 = Vi (aJ)) s') ?_ ?_
 ·refine W_block (W_while (fun s' f' w' => (un3 fun (a5 : Int) (ad : Int) (bb : (List simulate_Event)) => ∃ (bp : PHeap) , PHeap.le s bp ∧ St w0 bp (Res.arr encsimulate_Event 49 c bb :: Res.box b 68 [Value.pointer (some ⟨g, 0, none⟩)] :: Res.box g 70 [q, u, x, y, z, aa, i, j, Vi (a.out.Makespan)] :: Res.arr (encSlice (encInt .i64)) 22 i a.out.States :: Res.arr encsimulate_Problem 52 j a.out.Problems :: H) w' ∧ f' 0 = c ∧ f' 1 = Vi (m) ∧ f' 2 = Value.func (.func 80) #[] #[Value.pointer (some ⟨b, 0, none⟩)] ∧ f' 6 = Vi (20) ∧ f' 7 = Vi (a5) ∧ f' 8 = Vi (ad)) s') bw ?_ ?_)
  ·have b7 := (hS).f4
   exact ⟨s, (Zv _), ((((b7).f4).f4).f4).f4, rfl, rfl, rfl, rfl, rfl, rfl⟩
  intro cn aN c2 cN b0 ab bN
  obtain ⟨a5, ad, bb⟩ := cn
  replace ab := un3_eq ab
  obtain ⟨cg, af, aT, a6, a7, a8, a9, bg, ap⟩ := b0
  refine Zc (Zc (Zd (Za rfl rfl (Zm (v := Vi (ad)) rfl ap (Za rfl rfl (Zm (v := Vi (m)) rfl a7 (Za rfl rfl (Exec.leq rfl rfl rfl (Zb (Ze ?_))))))))))
  rcases ite_some ab with ⟨ak, ab⟩ | ⟨ak, ab⟩
  ·refine W_cond_t rfl ak (W_skip (Ze (W_block (Zc (Zd (Za rfl rfl (Zm (v := c) rfl a6 (Za rfl rfl (Zm (v := Vi (a5)) rfl bg (Za rfl rfl (Zm (v := Vi (ad)) rfl ap (Za rfl rfl (Zm (v := Value.func (.func 80) #[] #[Value.pointer (some ⟨b, 0, none⟩)]) rfl a8 ?_)))))))))))))
   obtain ⟨cC, cc, ab⟩ := Zg ab
   refine Za rfl rfl (Tc rfl rfl rfl (Zi rfl (Zi rfl (Zi rfl (Zi rfl args_nil)))) (slices_insertionSortCmpFunc_simulateEvent_o_write_c1_sim cc (((((aT).f4).f4).f4).f4).f4 (ar.mono af) (au.mono af) (av.mono af) (aw.mono af) (ax.mono af) (ay.mono af)).r ?_)
   rintro _ cO ⟨ch, bR, b8, rfl⟩
   refine Zb (Ze (Zc (Zd (Za rfl rfl (Zm (v := Vi (ad)) rfl ap (Za rfl rfl (Zo (v := Vi (ad)) rfl rfl (Zb (Ze (Zd (Za rfl rfl (Zm (v := Vi (ad)) rfl ap (Za rfl rfl (Zm (v := Vi (20)) rfl a9 (Za rfl rfl (Exec.add rfl rfl rfl (Za rfl rfl (Zo (v := Vi (IntKind.i64.wrap (ad + 20))) rfl rfl (Zb (ib_normal (Ze ?_)))))))))))))))))))))
   have ct := Zu ab
   subst aN
   refine ⟨_, rfl, ?_⟩; exact ⟨ch, (Zt af bR), (((((b8).f4).f4).f4).f4).f4, a6, a7, a8, a9, rfl, rfl⟩
  refine W_cond_f rfl ak ?_
  replace ak := Zk ak
  refine W_exit (at_exit (at_exit (ib_here (Ze ?_))))
  have cu := Zu ab
  subst aN
  refine ⟨_, .inr (bN (by intro _ h; cases h)), ?_⟩; exact ⟨cg, af, (((((aT).f4).f4).f4).f4).f4, a6, a7, a8, a9, bg, ap⟩
 rintro c3 cP ⟨co, aX, b3⟩
 have hm := aX.elim (bK _) (bH _)
 clear aX
 obtain ⟨a4, aJ, ba⟩ := co
 replace hm := un3_eq hm
 obtain ⟨cM, d, b9, bh, bi, bj, bW, bX, cG⟩ := b3
 refine (Ze (Zc (Zd (Za rfl rfl (Zm (v := c) rfl bh (Za rfl rfl (Zm (v := Vi (a4)) rfl bX (Za rfl rfl (Zm (v := Vi (m)) rfl bi (Za rfl rfl (Zm (v := Value.func (.func 80) #[] #[Value.pointer (some ⟨b, 0, none⟩)]) rfl bj ?_)))))))))))
 obtain ⟨cD, cd, hm⟩ := Zg hm
 refine Za rfl rfl (Tc rfl rfl rfl (Zi rfl (Zi rfl (Zi rfl (Zi rfl args_nil)))) (slices_insertionSortCmpFunc_simulateEvent_o_write_c1_sim cd (((((b9).f4).f4).f4).f4).f4 (ar.mono d) (au.mono d) (av.mono d) (aw.mono d) (ax.mono d) (ay.mono d)).r ?_)
 rintro _ cQ ⟨aI, p, bA, rfl⟩
 refine Zb (Ze ?_)
 obtain ⟨aO, bx, cA, bL, bI⟩ := ctl_some hm
 refine W_mid (M := fun f' w' => ∃ s', (aO = .next s' ∨ aO = .brk s') ∧ (un2 fun (aL : Int) (bc : (List simulate_Event)) => ∃ (bq : PHeap) , PHeap.le aI bq ∧ St w0 bq (Res.arr encsimulate_Event 49 c bc :: Res.box b 68 [Value.pointer (some ⟨g, 0, none⟩)] :: Res.box g 70 [q, u, x, y, z, aa, i, j, Vi (a.out.Makespan)] :: Res.arr (encSlice (encInt .i64)) 22 i a.out.States :: Res.arr encsimulate_Problem 52 j a.out.Problems :: H) w' ∧ f' 0 = c ∧ f' 1 = Vi (m) ∧ f' 2 = Value.func (.func 80) #[] #[Value.pointer (some ⟨b, 0, none⟩)] ∧ f' 6 = Vi (aL)) s') ?_ ?_
 ·refine W_block (W_while (fun s' f' w' => (un2 fun (k : Int) (bd : (List simulate_Event)) => ∃ (br : PHeap) , PHeap.le aI br ∧ St w0 br (Res.arr encsimulate_Event 49 c bd :: Res.box b 68 [Value.pointer (some ⟨g, 0, none⟩)] :: Res.box g 70 [q, u, x, y, z, aa, i, j, Vi (a.out.Makespan)] :: Res.arr (encSlice (encInt .i64)) 22 i a.out.States :: Res.arr encsimulate_Problem 52 j a.out.Problems :: H) w' ∧ f' 0 = c ∧ f' 1 = Vi (m) ∧ f' 2 = Value.func (.func 80) #[] #[Value.pointer (some ⟨b, 0, none⟩)] ∧ f' 6 = Vi (k)) s') bx ?_ ?_)
  ·have bB := (bA).f4
   exact ⟨aI, (Zv _), ((((bB).f4).f4).f4).f4, bh, bi, bj, bW⟩
  intro cp aP c4 cR b1 o bO
  obtain ⟨k, bd⟩ := cp
  replace o := un2_eq o
  obtain ⟨a3, n, aU, bk, aA, bl, a0⟩ := b1
  refine Zc (Zc (Zd (Za rfl rfl (Zm (v := Vi (k)) rfl a0 (Za rfl rfl (Zm (v := Vi (m)) rfl aA (Za rfl rfl (Zq rfl rfl rfl (Zb (Ze ?_))))))))))
  rcases ite_some o with ⟨al, o⟩ | ⟨al, o⟩
  ·refine W_cond_t rfl al (W_skip (Ze (W_block (Zc (Zd (Za rfl rfl (Zm (v := Vi (k)) rfl a0 (Za rfl rfl (Exec.mul rfl rfl rfl (Za rfl rfl (Zo (v := Vi (0)) rfl rfl (Za rfl rfl (Zo (v := Vi (IntKind.i64.wrap (2 * k))) rfl rfl (Zb (Ze (Zc ?_))))))))))))))))
   obtain ⟨aQ, bz, cB, bM, bJ⟩ := ctl_some o
   refine W_mid (M := fun f' w' => ∃ s', (aQ = .next s' ∨ aQ = .brk s') ∧ (un3 fun (ah : Int) (aK : Int) (be : (List simulate_Event)) => ∃ (bs : PHeap) , PHeap.le a3 bs ∧ St w0 bs (Res.arr encsimulate_Event 49 c be :: Res.box b 68 [Value.pointer (some ⟨g, 0, none⟩)] :: Res.box g 70 [q, u, x, y, z, aa, i, j, Vi (a.out.Makespan)] :: Res.arr (encSlice (encInt .i64)) 22 i a.out.States :: Res.arr encsimulate_Problem 52 j a.out.Problems :: H) w' ∧ f' 0 = c ∧ f' 1 = Vi (m) ∧ f' 2 = Value.func (.func 80) #[] #[Value.pointer (some ⟨b, 0, none⟩)] ∧ f' 6 = Vi (k) ∧ f' 7 = Vi (ah) ∧ f' 8 = Vi (aK)) s') ?_ ?_
   ·refine W_block (W_while (fun s' f' w' => (un3 fun (az : Int) (ae : Int) (bf : (List simulate_Event)) => ∃ (bt : PHeap) , PHeap.le a3 bt ∧ St w0 bt (Res.arr encsimulate_Event 49 c bf :: Res.box b 68 [Value.pointer (some ⟨g, 0, none⟩)] :: Res.box g 70 [q, u, x, y, z, aa, i, j, Vi (a.out.Makespan)] :: Res.arr (encSlice (encInt .i64)) 22 i a.out.States :: Res.arr encsimulate_Problem 52 j a.out.Problems :: H) w' ∧ f' 0 = c ∧ f' 1 = Vi (m) ∧ f' 2 = Value.func (.func 80) #[] #[Value.pointer (some ⟨b, 0, none⟩)] ∧ f' 6 = Vi (k) ∧ f' 7 = Vi (az) ∧ f' 8 = Vi (ae)) s') bz ?_ ?_)
    ·have bC := (aU).f4
     exact ⟨a3, (Zv _), ((((bC).f4).f4).f4).f4, bk, aA, bl, a0, rfl, rfl⟩
    intro cq aR c5 cS b2 ac bP
    obtain ⟨az, ae, bf⟩ := cq
    replace ac := un3_eq ac
    obtain ⟨ci, ag, aV, aB, aC, aD, a1, aE, aq⟩ := b2
    refine Zc (Zc (Zd (Za rfl rfl (Zm (v := Vi (ae)) rfl aq (Za rfl rfl (Zm (v := Vi (m)) rfl aC (Za rfl rfl (Exec.leq rfl rfl rfl (Zb (Ze ?_))))))))))
    rcases ite_some ac with ⟨am, ac⟩ | ⟨am, ac⟩
    ·refine W_cond_t rfl am (W_skip (Ze (W_block (Zc (Zd (Za rfl rfl (Zm (v := c) rfl aB (Za rfl rfl (Zm (v := Vi (az)) rfl aE (Za rfl rfl (Zm (v := Vi (az)) rfl aE (Za rfl rfl (Zm (v := Vi (k)) rfl a1 (Za rfl rfl (Exec.add rfl rfl rfl (Za rfl rfl (Zm (v := Vi (ae)) rfl aq (Za rfl rfl (Zm (v := Value.func (.func 80) #[] #[Value.pointer (some ⟨b, 0, none⟩)]) rfl aD ?_)))))))))))))))))))
     obtain ⟨cE, ce, ac⟩ := Zg ac
     refine Za rfl rfl (Tc rfl rfl rfl (Zi rfl (Zi rfl (Zi rfl (Zi rfl (Zi rfl args_nil))))) (slices_symMergeCmpFunc_simulateEvent_o_write_c1_sim ce (((((aV).f4).f4).f4).f4).f4 (ar.mono (Zt (Zt (Zt d p) n) ag)) (au.mono (Zt (Zt (Zt d p) n) ag)) (av.mono (Zt (Zt (Zt d p) n) ag)) (aw.mono (Zt (Zt (Zt d p) n) ag)) (ax.mono (Zt (Zt (Zt d p) n) ag)) (ay.mono (Zt (Zt (Zt d p) n) ag))).r ?_)
     rintro _ cT ⟨cj, bS, bD, rfl⟩
     refine Zb (Ze (Zc (Zd (Za rfl rfl (Zm (v := Vi (ae)) rfl aq (Za rfl rfl (Zo (v := Vi (ae)) rfl rfl (Zb (Ze (Zd (Za rfl rfl (Zm (v := Vi (ae)) rfl aq (Za rfl rfl (Zm (v := Vi (k)) rfl a1 (Za rfl rfl (Exec.mul rfl rfl rfl (Za rfl rfl (Exec.add rfl rfl rfl (Za rfl rfl (Zo (v := Vi (IntKind.i64.wrap (ae + (IntKind.i64.wrap (2 * k))))) rfl rfl (Zb (ib_normal (Ze ?_)))))))))))))))))))))))
     have cv := Zu ac
     subst aR
     refine ⟨_, rfl, ?_⟩; exact ⟨cj, (Zt ag bS), (((((bD).f4).f4).f4).f4).f4, aB, aC, aD, a1, rfl, rfl⟩
    refine W_cond_f rfl am ?_
    replace am := Zk am
    refine W_exit (at_exit (at_exit (ib_here (Ze ?_))))
    have cw := Zu ac
    subst aR
    refine ⟨_, .inr (bP (by intro _ h; cases h)), ?_⟩; exact ⟨ci, ag, (((((aV).f4).f4).f4).f4).f4, aB, aC, aD, a1, aE, aq⟩
   rintro c6 cU ⟨cr, aY, b4⟩
   have o := aY.elim (bM _) (bJ _)
   clear aY
   obtain ⟨ah, aK, be⟩ := cr
   replace o := un3_eq o
   obtain ⟨bu, aj, aW, aF, a2, aG, aH, bm, cH⟩ := b4
   refine (Ze (Zc (Zc (Zd (Za rfl rfl (Zm (v := Vi (ah)) rfl bm (Za rfl rfl (Zm (v := Vi (k)) rfl aH (Za rfl rfl (Exec.add rfl rfl rfl (Za rfl rfl (Zo (v := Vi (IntKind.i64.wrap (ah + k))) rfl rfl (Zb (Ze (Zc (Zd (Za rfl rfl (Zm (v := Vi (IntKind.i64.wrap (ah + k))) rfl rfl (Za rfl rfl (Zm (v := Vi (m)) rfl a2 (Za rfl rfl (Zq rfl rfl rfl (Zb (Ze ?_))))))))))))))))))))))))
   obtain ⟨ao, ai, o⟩ := Zg o
   refine W_mid (M := fun f' w' => (fun (ao : (List simulate_Event)) => ∃ (bv : PHeap) , PHeap.le bu bv ∧ St w0 bv (Res.arr encsimulate_Event 49 c ao :: Res.box b 68 [Value.pointer (some ⟨g, 0, none⟩)] :: Res.box g 70 [q, u, x, y, z, aa, i, j, Vi (a.out.Makespan)] :: Res.arr (encSlice (encInt .i64)) 22 i a.out.States :: Res.arr encsimulate_Problem 52 j a.out.Problems :: H) w' ∧ f' 0 = c ∧ f' 1 = Vi (m) ∧ f' 2 = Value.func (.func 80) #[] #[Value.pointer (some ⟨b, 0, none⟩)] ∧ f' 6 = Vi (k)) ao) ?_ ?_
   ·rcases ite_some ai with ⟨an, ai⟩ | ⟨an, ai⟩
    ·refine W_cond_t rfl an (Zd (Za rfl rfl (Zm (v := c) rfl aF (Za rfl rfl (Zm (v := Vi (ah)) rfl bm (Za rfl rfl (Zm (v := Vi (IntKind.i64.wrap (ah + k))) rfl rfl (Za rfl rfl (Zm (v := Vi (m)) rfl a2 (Za rfl rfl (Zm (v := Value.func (.func 80) #[] #[Value.pointer (some ⟨b, 0, none⟩)]) rfl aG ?_)))))))))))
     obtain ⟨cF, cf, ai⟩ := Zg ai
     refine Za rfl rfl (Tc rfl rfl rfl (Zi rfl (Zi rfl (Zi rfl (Zi rfl (Zi rfl args_nil))))) (slices_symMergeCmpFunc_simulateEvent_o_write_c1_sim cf (((((aW).f4).f4).f4).f4).f4 (ar.mono (Zt (Zt (Zt d p) n) aj)) (au.mono (Zt (Zt (Zt d p) n) aj)) (av.mono (Zt (Zt (Zt d p) n) aj)) (aw.mono (Zt (Zt (Zt d p) n) aj)) (ax.mono (Zt (Zt (Zt d p) n) aj)) (ay.mono (Zt (Zt (Zt d p) n) aj))).r ?_)
     rintro _ cV ⟨ck, bT, bE, rfl⟩
     refine Zb (Ze ?_)
     have cx := Zu ai
     subst ao
     exact ⟨ck, bT, (((((bE).f4).f4).f4).f4).f4, aF, a2, aG, aH⟩
    refine W_cond_f rfl an ?_
    replace an := Zk an
    refine W_skip (Ze ?_)
    have cy := Zu ai
    subst ao
    exact ⟨bu, (Zv _), (((((aW).f4).f4).f4).f4).f4, aF, a2, aG, aH⟩
   intro c7 cW b5
   obtain ⟨cl, bU, bF, bY, bZ, ca, cb⟩ := b5
   refine (Ze (Zd (Za rfl rfl (Zm (v := Vi (k)) rfl cb (Za rfl rfl (Exec.mul rfl rfl rfl (Za rfl rfl (Zo (v := Vi (IntKind.i64.wrap (k * 2))) rfl rfl (Zb (ib_normal (Ze ?_)))))))))))
   have cz := Zu o
   subst aP
   refine ⟨_, rfl, ?_⟩; exact ⟨cl, (Zt (Zt n aj) bU), (((((bF).f4).f4).f4).f4).f4, bY, bZ, ca, rfl⟩
  refine W_cond_f rfl al ?_
  replace al := Zk al
  refine W_exit (at_exit (at_exit (ib_here (Ze ?_))))
  have c0 := Zu o
  subst aP
  refine ⟨_, .inr (bO (by intro _ h; cases h)), ?_⟩; exact ⟨a3, n, (((((aU).f4).f4).f4).f4).f4, bk, aA, bl, a0⟩
 rintro c8 cX ⟨cs, aZ, b6⟩
 have hm := aZ.elim (bL _) (bI _)
 clear aZ
 obtain ⟨aL, bc⟩ := cs
 replace hm := un2_eq hm
 obtain ⟨cm, bV, bG, cI, cJ, cK, cL⟩ := b6
 refine ?_
 have c1 := Zu hm
 subst r
 refine ⟨_, retG0 rfl, ?_⟩
 exact ⟨cm, (Zt (Zt d p) bV), (((((bG).f4).f4).f4).f4).f4, rfl⟩
theorem slices_SortStableFunc_simulateEvent_o_write_c1_sim {w0 w : World} {s : PHeap} {H : List Res} {fu : Nat} {p : (List simulate_Event)} {a : simulate_run} {b : Value} {c : Nat} {d : Nat} {h : Value} {i : Value} {j : Value} {k : Value} {m : Value} {n : Value} {f : Value} {g : Value} {r : (List simulate_Event)} (hm : slices_SortStableFunc_simulateEvent_o_write_c1_p fu p a = some r) (hS : St w0 s (Res.arr encsimulate_Event 49 b p :: Res.box c 68 [Value.pointer (some ⟨d, 0, none⟩)] :: Res.box d 70 [h, i, j, k, m, n, f, g, Vi (a.out.Makespan)] :: Res.arr (encSlice (encInt .i64)) 22 f a.out.States :: Res.arr encsimulate_Problem 52 g a.out.Problems :: H) w) (q : SliceRep (encInt .i64) s h a.t.Vars) (u : SliceRep (encInt .i64) s i a.t.Init) (x : SliceRep encFact s j a.t.Goal) (y : SliceRep encJob s k a.t.Jobs) (z : SliceRep encLaunch s m a.l) (aa : SliceRep encsimulate_Event s n a.out.Events) :
  Calls Tryz.prog 79 #[b, Value.func (.func 80) #[] #[Value.pointer (some ⟨c, 0, none⟩)]] w fun e w' => ∃ v, e = .returned v ∧ ((fun (ac : (List simulate_Event)) => ∃ (o : PHeap) , PHeap.le s o ∧ St w0 o (Res.arr encsimulate_Event 49 b ac :: Res.box c 68 [Value.pointer (some ⟨d, 0, none⟩)] :: Res.box d 70 [h, i, j, k, m, n, f, g, Vi (a.out.Makespan)] :: Res.arr (encSlice (encInt .i64)) 22 f a.out.States :: Res.arr encsimulate_Problem 52 g a.out.Problems :: H) w' ∧ v = Value.tuple #[]) r) := by
 unfold slices_SortStableFunc_simulateEvent_o_write_c1_p at hm
 refine calls_of_W Tryz.func79 rfl rfl (Zd (Za rfl rfl (Zm (v := b) rfl rfl (Za rfl rfl (Zm (v := b) rfl rfl (Za rfl rfl (Exec.len_arr (hS) S30 rfl rfl (Za rfl rfl (Zm (v := Value.func (.func 80) #[] #[Value.pointer (some ⟨c, 0, none⟩)]) rfl rfl ?_)))))))))
 obtain ⟨ah, ae, hm⟩ := Zg hm
 refine Za rfl rfl (Tc rfl rfl rfl (Zi rfl (Zi rfl (Zi rfl args_nil))) (slices_stableCmpFunc_simulateEvent_o_write_c1_sim ae (((((hS).f4).f4).f4).f4).f4 q u x y z aa).r ?_)
 rintro _ ai ⟨af, ad, ab, rfl⟩
 refine Zb ?_
 have ag := Zu hm
 subst r
 refine ⟨_, retG0 rfl, ?_⟩
 exact ⟨af, ad, (((((ab).f4).f4).f4).f4).f4, rfl⟩
theorem simulate_run_write_sim {w0 w : World} {s : PHeap} {H : List Res} {fu : Nat} {a : simulate_run} {aL : (List Int)} {a9 : (List simulate_Event)} {g : Nat} {x : Value} {y : Value} {z : Value} {aa : Value} {ab : Value} {ac : Value} {i : Value} {j : Value} {ar : Value} {au : Value} {r : (List Int)} (hm : simulate_run_write_p fu a aL a9 = some r) (hS : St w0 s (Res.box g 70 [x, y, z, aa, ab, ac, i, j, Vi (a.out.Makespan)] :: Res.arr (encSlice (encInt .i64)) 22 i a.out.States :: Res.arr encsimulate_Problem 52 j a.out.Problems :: H) w) (ay : SliceRep (encInt .i64) s x a.t.Vars) (az : SliceRep (encInt .i64) s y a.t.Init) (a0 : SliceRep encFact s z a.t.Goal) (a1 : SliceRep encJob s aa a.t.Jobs) (a2 : SliceRep encLaunch s ab a.l) (a3 : SliceRep encsimulate_Event s ac a.out.Events) (aO : SliceRep (encInt .i64) s ar aL) (aP : SliceRep encsimulate_Event s au a9) :
  Calls Tryz.prog 53 #[Value.pointer (some ⟨g, 0, none⟩), ar, au] w fun e w' => ∃ v, e = .returned v ∧ ((fun (bQ : (List Int)) => ∃ (aq : PHeap) (aM : Value), PHeap.le s aq ∧ St w0 aq (Res.box g 70 [x, y, z, aa, ab, ac, i, j, Vi (a.out.Makespan)] :: Res.arr (encSlice (encInt .i64)) 22 i a.out.States :: Res.arr encsimulate_Problem 52 j a.out.Problems :: H) w' ∧ v = aM ∧ SliceRep (encInt .i64) aq aM bQ) r) := by
 unfold simulate_run_write_p at hm
 refine calls_of_W Tryz.func53 rfl rfl (Zc (Zd (Za rfl rfl (Exec.box (cs := [Value.pointer (some ⟨g, 0, none⟩)]) hS rfl rfl rfl ?_))))
 intro ae cy aX
 refine Za rfl rfl (Zo (v := Value.slice none 0 0) rfl rfl (Zb (Ze (Zc (Zd (Za rfl rfl (Zm (v := au) rfl rfl ?_)))))))
 obtain ⟨cE, b5, hm⟩ := Zg hm
 refine Za rfl rfl (Tc rfl rfl rfl (Zi rfl args_nil) (slices_Clone_simulateEvent_sim b5 aX aP).r ?_)
 rintro u cz ⟨cl, _, b, aY, rfl⟩
 refine Za rfl rfl (Zo (v := u) rfl rfl (Zb (Ze (Zc (Zd (Za rfl rfl (Zm (v := u) rfl rfl (Za rfl rfl (Exec.makeFunc rfl (Zi rfl args_nil) ?_)))))))))
 obtain ⟨ah, b6, hm⟩ := Zg hm
 refine Za rfl rfl (Tc rfl rfl rfl (Zi rfl (Zi rfl args_nil)) (slices_SortStableFunc_simulateEvent_o_write_c1_sim b6 (((((aY).f4).f4).f4).f4).f4 (ay.mono b) (az.mono b) (a0.mono b) (a1.mono b) (a2.mono b) (a3.mono b)).r ?_)
 rintro _ c0 ⟨cm, h, aZ, rfl⟩
 refine Zb (Ze (Zc (Zd (Za rfl rfl (Zm (v := ar) rfl rfl ?_)))))
 obtain ⟨cF, b7, hm⟩ := Zg hm
 refine Za rfl rfl (Tc rfl rfl rfl (Zi rfl args_nil) (slices_Clone_int_sim b7 aZ (aO.mono (Zt b h))).r ?_)
 rintro d c1 ⟨aH, _, o, ak, rfl⟩
 refine Za rfl rfl (Zo (v := d) rfl rfl (Zb (Ze (Zc (Zc (Zd (Za rfl rfl (Zm (v := u) rfl rfl (Za rfl rfl (Exec.len_arr ((ak).f1) S30 rfl rfl (Za rfl rfl (Zm (v := Vi (0)) rfl rfl (Zb (Ze ?_))))))))))))))
 obtain ⟨am, aR, hm⟩ := Zg hm
 refine W_block (W_forS (fun k' s' f' w' => (fun (am : (List Int)) => ∃ (aI : PHeap) , PHeap.le aH aI ∧ St w0 aI (Res.box g 70 [x, y, z, aa, ab, ac, i, j, Vi (a.out.Makespan)] :: Res.arr (encSlice (encInt .i64)) 22 i a.out.States :: Res.arr encsimulate_Problem 52 j a.out.Problems :: Res.box ae 68 [Value.pointer (some ⟨g, 0, none⟩)] :: Res.arr (encInt .i64) 3 d am :: Res.arr encsimulate_Event 49 u ah :: H) w' ∧ f' 3 = Value.pointer (some ⟨ae, 0, none⟩) ∧ f' 7 = d ∧ f' 21 = u ∧ f' 22 = Vi ((ah.length : Int)) ∧ f' 23 = Vi (k' : Int)) s') aR ?_ ?_ ?_)
 ·have ba := (ak).f1
  exact ⟨aH, (Zv _), (((((ba).f1).f2).f5).f5).f5, rfl, rfl, rfl, rfl, rfl⟩
 ·intro a8 am bJ bZ c2 bj aT m
  obtain ⟨cn, p, al, aB, br, aC, aD, aw⟩ := aT
  refine Zc (Zd (Za rfl rfl (Zq rfl aw aD (Zb (Ze (Zc (W_true (Zx (decide_eq_true (by omega))) (W_skip (Ze (Zc (W_block (Zc (Zd ?_)))))))))))))
  obtain ⟨c, ai, m⟩ := Zg m
  obtain ⟨cd, bU, a4⟩ := ((al).f5).arr_at ai
  refine Za rfl rfl (Exec.index_slice S30 rfl (Eq.trans aC a4) aw (idx_some ai).1 (idx_some ai).2.1 (Za rfl rfl (Exec.load_arr (F := encsimulate_Event) ((al).f5) a4 A49 rfl rfl rfl ai (Sub.refl _) ?_)))
  intro cq b8
  obtain rfl := encsimulate_Event_val.1 b8
  refine Za rfl rfl (Exec.alloc (cs := [Vi (0), Vi (0), Value.bool (false)]) al Z49 rfl rfl ?_)
  intro bR c3 bb
  refine Za rfl rfl (Exec.store_box (ds := [Vi (c.At), Vi (c.Launch), Value.bool (c.End)]) (es := [Vi (c.At), Vi (c.Launch), Value.bool (c.End)]) bb A49 rfl rfl rfl rfl (Zj rfl (Zj rfl (Zj rfl one_nil))) (Nat.le_of_ble_eq_true rfl) rfl ?_)
  intro c4 af
  refine Zb (Ze (Zc (W_dl (n0 := 10) (.q 0 (.q 1 (.q 3 (.q 4 (.e 2 [3, 4] (.e 5 [] (qs 6 4 .done))))))) hmix (by kernel_rfl) (by kernel_rfl) (DL_q rfl rfl (Zn ((af.drew).f4) A68 rfl aB rfl ⟨rfl, ?_⟩)))))
  refine DL_q rfl rfl (Exec.load_box_agg (ds := [Vi (c.At), Vi (c.Launch), Value.bool (c.End)]) (af.drew) A49 rfl rfl rfl ⟨rfl, ?_⟩)
  refine DL_q rfl rfl (Zp F49_2 rfl rfl rfl ⟨rfl, ?_⟩)
  refine DL_q rfl rfl (Zn (af.drew) A4 rfl rfl rfl ⟨rfl, ?_⟩)
  obtain ⟨aN, b9, m⟩ := Zg m
  refine DL_e rfl rfl (Tc rfl rfl rfl (Zi rfl (Zi rfl args_nil)) (simulate_run_job_sim b9 (((af.drew).f3).f3).f3 (ay.mono (Zt (Zt (Zt b h) o) p)) (az.mono (Zt (Zt (Zt b h) o) p)) (a0.mono (Zt (Zt (Zt b h) o) p)) (a1.mono (Zt (Zt (Zt b h) o) p)) (a2.mono (Zt (Zt (Zt b h) o) p)) (a3.mono (Zt (Zt (Zt b h) o) p))).r ?_)
  rintro _ c5 ⟨co, cr, ct, cu, cv, cw, bm, a6, rfl, bD, bE, bF, bG, bH⟩
  refine ⟨(ag_cons (ag_r rfl rfl (Zp F49_2 rfl rfl rfl ⟨rfl, rfl⟩)) (ag_cons (ag_r rfl rfl (Zn ((a6).f3) A4 rfl rfl rfl ⟨rfl, rfl⟩)) ag_nil)), ?_⟩
  refine DL_e rfl rfl (Tc rfl rfl rfl (Zi rfl (Zi rfl args_nil)) (simulate_happening_sim (simulate_happening_tot aN c.End) a6 bD bE bF bG bH).r ?_)
  rintro _ c6 ⟨aJ, av, ad, bn, bc, rfl, ck, ap⟩
  refine ⟨ag_nil, ?_⟩
  refine DL_q rfl rfl (Zm (v := Value.tuple #[av, ad]) rfl rfl ⟨rfl, ?_⟩)
  refine DL_q rfl rfl (Exec.extract (v := av) rfl rfl rfl ⟨rfl, ?_⟩)
  refine DL_q rfl rfl (Exec.extract (v := ad) rfl rfl rfl ⟨rfl, ?_⟩)
  refine DL_q rfl rfl (Zo (v := av) rfl rfl ⟨rfl, ?_⟩)
  refine DL_done (Za rfl rfl (Zo (v := ad) rfl rfl (Zb (Ze (Zc (Zd (Za rfl rfl (Zm (v := ad) rfl rfl (Za rfl rfl (Zr S23 rfl rfl ap (Za rfl rfl (Zm (v := Vi (0)) rfl rfl (Zb (Ze ?_))))))))))))))
  obtain ⟨an, aS, m⟩ := Zg m
  refine W_block (W_forS (fun k' s' f' w' => (fun (an : (List Int)) => ∃ (aK : PHeap) , PHeap.le aJ aK ∧ St w0 aK (Res.box g 70 [x, y, z, aa, ab, ac, i, j, Vi (a.out.Makespan)] :: Res.arr (encSlice (encInt .i64)) 22 i a.out.States :: Res.arr encsimulate_Problem 52 j a.out.Problems :: Res.box ae 68 [Value.pointer (some ⟨g, 0, none⟩)] :: Res.arr (encInt .i64) 3 d an :: Res.arr encsimulate_Event 49 u ah :: H) w' ∧ f' 3 = Value.pointer (some ⟨ae, 0, none⟩) ∧ f' 7 = d ∧ f' 21 = u ∧ f' 22 = Vi ((ah.length : Int)) ∧ f' 23 = Vi ((a8 : Int)) ∧ f' 36 = ad ∧ f' 37 = Vi ((((simulate_happening_t aN c.End).2).length : Int)) ∧ f' 38 = Vi (k' : Int)) s') aS ?_ ?_ ?_)
  ·have bd := ((bc).f3).drop
   exact ⟨aJ, (Zv _), ((((((bd).f5).f5).f5).f5).f5).f5, aB, br, aC, aD, aw, rfl, rfl, rfl⟩
  ·intro bl an bK ca c7 bk aU n
   obtain ⟨bL, aA, a7, bs, aE, bt, bu, bv, aF, aG, ax⟩ := aU
   refine Zc (Zd (Za rfl rfl (Zq rfl ax aG (Zb (Ze (Zc (W_true (Zx (decide_eq_true (by omega))) (W_skip (Ze (Zc (W_block (Zc (Zd ?_)))))))))))))
   obtain ⟨aj, bA, n⟩ := Zg n
   refine Za rfl rfl (Exec.index_rep S23 rfl aF ax (ap.mono aA) bA ?_)
   intro bS cg aQ
   refine Za rfl rfl (Zw (E := encFact) a7 A75 rfl rfl rfl aQ ?_)
   intro cx bB
   obtain rfl := encFact_val.1 bB
   refine Za rfl rfl (Exec.alloc (cs := [Vi (0), Vi (0)]) a7 Z75 rfl rfl ?_)
   intro bT c8 be
   refine Za rfl rfl (Exec.store_box (ds := [Vi (aj.Var), Vi (aj.Val)]) (es := [Vi (aj.Var), Vi (aj.Val)]) be A75 rfl rfl rfl rfl (Zj rfl (Zj rfl one_nil)) (Nat.le_of_ble_eq_true rfl) rfl ?_)
   intro c9 ag
   refine Zb (Ze (Zd (Za rfl rfl (Zm (v := d) rfl aE (Za rfl rfl (Zp F75_0 rfl rfl rfl (Za rfl rfl (Zn (ag) A3 rfl rfl rfl (Za rfl rfl (Zp F75_1 rfl rfl rfl (Za rfl rfl (Zn (ag) A3 rfl rfl rfl ?_))))))))))))
   obtain ⟨cD, ao, n⟩ := Zg n
   obtain ⟨ce, bV, a5⟩ := ((ag).f5).arr_at ao
   refine Za rfl rfl (Exec.index_slice S22 rfl a5 rfl (idx_some ao).1 (idx_some ao).2.1 ?_)
   obtain ⟨cf, bC, n⟩ := Zg n
   refine Za rfl rfl (Exec.store_arr (ag).f5 a5 A3 rfl rfl rfl rfl (encInt_val.2 rfl) bC ?_)
   intro cA bf
   refine Zb (ib_normal (Ze (Zd (Za rfl rfl (Exec.add rfl ax rfl (Za rfl rfl (Zm (v := Vi (IntKind.i64.wrap ((bl : Int) + 1))) rfl rfl (Zb (Ze ?_)))))))))
   have bW := Zu n
   subst bK
   exact ⟨bL, aA, ((((((((bf).f1).drop).f5).f1).f5).f5).f5).f5, bs, aE, bt, bu, bv, aF, aG, (Eq.trans rfl (wrap_up bk (SliceRep.le ap)))⟩
  intro cb cB aV
  obtain ⟨bM, bo, bg, bw, bx, bz, b0, b1, ch, b2, bO⟩ := aV
  refine Zc (Zd (Za rfl rfl (Zq rfl bO b2 (Zb (Ze (Zc (W_false (Zx (decide_eq_false (by omega))) (W_exit (at_exit (at_exit (ib_here (ib_normal (Ze (Zd (Za rfl rfl (Exec.add rfl b1 rfl (Za rfl rfl (Zm (v := Vi (IntKind.i64.wrap ((a8 : Int) + 1))) rfl rfl (Zb (Ze ?_))))))))))))))))))))
  have bX := Zu m
  subst bJ
  exact ⟨bM, (Zt (Zt (Zt p bm) bn) bo), ((((((bg).f5).f5).f5).f5).f5).f5, bw, bx, bz, b0, (Eq.trans rfl (wrap_up bj ((ak).f1).arr_le))⟩
 intro cc cC aW
 obtain ⟨cp, bp, bh, ci, b3, cj, b4, bP⟩ := aW
 refine Zc (Zd (Za rfl rfl (Zq rfl bP b4 (Zb (Ze (Zc (W_false (Zx (decide_eq_false (by omega))) (W_exit (at_exit (at_exit (ib_here (Ze (Zc (Zd (Za rfl rfl (Zm (v := d) rfl b3 (Za rfl rfl (Zo (v := d) rfl rfl (Zb (Ze (W_ret ?_)))))))))))))))))))))
 have bY := Zu hm
 subst r
 refine ⟨_, ret1 rfl, ?_⟩
 obtain ⟨bN, bq, bi, bI⟩ := (bh).f4.freezeArr
 exact ⟨bN, d, (Zt (Zt (Zt (Zt b h) o) bp) bq), (((((((bi).f3).drop).f3).drop).f2).f2).f2, rfl, bI⟩
theorem F34_1 : tyField Tryz.prog 34 1 = some 1 := by kernel_rfl
theorem A31 : tyAgg Tryz.prog 31 = some (false, 1) := by kernel_rfl
theorem S31 : tySlice Tryz.prog 31 = some (22, 1, 24) := by kernel_rfl
theorem Z22 : tyZero Tryz.prog 22 = some (Value.slice none 0 0) := by kernel_rfl
theorem simulate_run_tick_sim {w0 w : World} {s : PHeap} {H : List Res} {fu : Nat} {g : simulate_run} {n : Int} {a8 : (List simulate_Event)} {cF : (List Int)} {d : Nat} {af : Value} {ag : Value} {ah : Value} {ai : Value} {z : Value} {aj : Value} {o : Value} {cG : Value} {u : Value} {az : Value} {r : (List Int) × (List (List Int)) × (List simulate_Problem)} (hm : simulate_run_tick_p fu g n a8 cF = some r) (hS : St w0 s (Res.box d 70 [af, ag, ah, ai, z, aj, o, cG, Vi (g.out.Makespan)] :: Res.arr (encSlice (encInt .i64)) 22 o g.out.States :: Res.arr encsimulate_Problem 52 cG g.out.Problems :: H) w) (au : SliceRep (encInt .i64) s af g.t.Vars) (av : SliceRep (encInt .i64) s ag g.t.Init) (aw : SliceRep encFact s ah g.t.Goal) (an : SliceRep encJob s ai g.t.Jobs) (ab : SliceRep encLaunch s z g.l) (ax : SliceRep encsimulate_Event s aj g.out.Events) (a0 : SliceRep encsimulate_Event s u a8) (bB : SliceRep (encInt .i64) s az cF) :
  Calls Tryz.prog 19 #[Value.pointer (some ⟨d, 0, none⟩), Vi (n), u, az] w fun e w' => ∃ v, e = .returned v ∧ ((un3 fun (go : (List Int)) (dO : (List (List Int))) (dP : (List simulate_Problem)) => ∃ (b4 : PHeap) (cH : Value) (cI : Value) (cJ : Value), PHeap.le s b4 ∧ St w0 b4 (Res.box d 70 [af, ag, ah, ai, z, aj, cI, cJ, Vi (g.out.Makespan)] :: Res.arr (encSlice (encInt .i64)) 22 cI dO :: Res.arr encsimulate_Problem 52 cJ dP :: H) w' ∧ v = cH ∧ SliceRep (encInt .i64) b4 cH go) r) := by
 unfold simulate_run_tick_p at hm
 refine calls_of_W Tryz.func19 rfl rfl (Zc (Zd (Za rfl rfl (Zo (v := Value.slice none 0 0) rfl rfl (Zb (Ze (Zc (Zd (Za rfl rfl (Zm (v := Value.pointer (some ⟨d, 0, none⟩)) rfl rfl (Za rfl rfl (Zm (v := Vi (n)) rfl rfl ?_))))))))))))
 obtain ⟨gX, eX, hm⟩ := Zg hm
 refine Za rfl rfl (Tc rfl rfl rfl (Zi rfl (Zi rfl args_nil)) (simulate_run_overlaps_sim eX (((hS).f2).f2).f2 au av aw an ab ax).r ?_)
 rintro _ hQ ⟨cy, ga, a, dm, rfl⟩
 refine Zb (Ze (Zc (Zc (Zd (Za rfl rfl (Zm (v := u) rfl rfl (Za rfl rfl (Zr S30 rfl rfl (a0.mono a) (Za rfl rfl (Zm (v := Vi (0)) rfl rfl (Zb (Ze ?_))))))))))))
 obtain ⟨bm, cS, hm⟩ := Zg hm
 refine W_block (W_forS (fun k' s' f' w' => (fun (bm : (List simulate_Problem)) => ∃ (cz : PHeap) (aG : Value), PHeap.le cy cz ∧ St w0 cz (Res.box d 70 [af, ag, ah, ai, z, aj, o, aG, Vi (g.out.Makespan)] :: Res.arr (encSlice (encInt .i64)) 22 o g.out.States :: Res.arr encsimulate_Problem 52 aG bm :: H) w' ∧ f' 0 = Value.pointer (some ⟨d, 0, none⟩) ∧ f' 1 = Vi (n) ∧ f' 2 = u ∧ f' 3 = az ∧ f' 28 = u ∧ f' 29 = Vi ((a8.length : Int)) ∧ f' 30 = Vi (k' : Int)) s') cS ?_ ?_ ?_)
 ·have dn := (dm).f2
  exact ⟨cy, ga, (Zv _), ((dn).f2).f2, rfl, rfl, rfl, rfl, rfl, rfl, rfl⟩
 ·intro aE bm fL gJ hR dH cY a5
  obtain ⟨c0, aG, i, bF, dY, dZ, bS, ea, bT, bU, bd⟩ := cY
  refine Zc (Zd (Za rfl rfl (Zq rfl bd bU (Zb (Ze (Zc (W_true (Zx (decide_eq_true (by omega))) (W_skip (Ze (Zc (W_block (Zc (Zd (Za rfl rfl (Zm (v := Vi ((aE : Int))) rfl bd ?_)))))))))))))))
  obtain ⟨aa, eY, a5⟩ := Zg a5
  refine Za rfl rfl (Exec.index_rep S30 rfl bT bd (a0.mono (Zt a i)) eY ?_)
  intro gv hc cL
  refine Za rfl rfl (Zw (E := encsimulate_Event) bF A49 rfl rfl rfl cL ?_)
  intro h4 eZ
  obtain rfl := encsimulate_Event_val.1 eZ
  refine Za rfl rfl (Exec.alloc (cs := [Vi (0), Vi (0), Value.bool (false)]) bF Z49 rfl rfl ?_)
  intro aU hT dp
  refine Za rfl rfl (Zo (v := Vi ((aE : Int))) rfl rfl (Za rfl rfl (Exec.store_box (ds := [Vi (aa.At), Vi (aa.Launch), Value.bool (aa.End)]) (es := [Vi (aa.At), Vi (aa.Launch), Value.bool (aa.End)]) dp A49 rfl rfl rfl rfl (Zj rfl (Zj rfl (Zj rfl one_nil))) (Nat.le_of_ble_eq_true rfl) rfl ?_)))
  intro hU dq
  refine Zb (Ze (Zc (Zd (Za rfl rfl (Zm (v := u) rfl bS (Za rfl rfl (Zm (v := Vi ((aE : Int))) rfl rfl (Za rfl rfl (Exec.add rfl rfl rfl ?_)))))))))
  obtain ⟨bE, fa, a5⟩ := Zg a5
  refine Za rfl rfl (Exec.slice_from S30 rfl rfl rfl (a0.mono (Zt a i)) fa ?_)
  intro cK b1
  refine Za rfl rfl (Zr S30 rfl rfl b1 (Za rfl rfl (Zm (v := Vi (0)) rfl rfl (Zb (Ze ?_)))))
  obtain ⟨bn, cT, a5⟩ := Zg a5
  refine W_block (W_forS (fun k' s' f' w' => (fun (bn : (List simulate_Problem)) => ∃ (c1 : PHeap) (aH : Value), PHeap.le c0 c1 ∧ St w0 c1 (Res.box d 70 [af, ag, ah, ai, z, aj, o, aH, Vi (g.out.Makespan)] :: Res.arr (encSlice (encInt .i64)) 22 o g.out.States :: Res.arr encsimulate_Problem 52 aH bn :: Res.box aU 49 [Vi (aa.At), Vi (aa.Launch), Value.bool (aa.End)] :: H) w' ∧ f' 0 = Value.pointer (some ⟨d, 0, none⟩) ∧ f' 1 = Vi (n) ∧ f' 2 = u ∧ f' 3 = az ∧ f' 10 = Value.pointer (some ⟨aU, 0, none⟩) ∧ f' 28 = u ∧ f' 29 = Vi ((a8.length : Int)) ∧ f' 30 = Vi ((aE : Int)) ∧ f' 38 = cK ∧ f' 39 = Vi ((bE.length : Int)) ∧ f' 40 = Vi (k' : Int)) s') cT ?_ ?_ ?_)
  ·have dr := (dq).f3
   exact ⟨c0, aG, (Zv _), ((dr).f3).f3, dY, dZ, bS, ea, rfl, bT, bU, bd, rfl, rfl, rfl⟩
  ·intro bQ bn fM gK hV dI cZ am
   obtain ⟨hv, aH, j, bG, aF, br, bV, bW, aC, bX, bY, bZ, bs, bt, be⟩ := cZ
   refine Zc (Zd (Za rfl rfl (Zq rfl be bt (Zb (Ze (Zc (W_true (Zx (decide_eq_true (by omega))) (W_skip (Ze (Zc (W_block (Zc (Zd ?_)))))))))))))
   obtain ⟨al, fb, am⟩ := Zg am
   refine Za rfl rfl (Exec.index_rep S30 rfl bs be (b1.mono j) fb ?_)
   intro gw hd cM
   refine Za rfl rfl (Zw (E := encsimulate_Event) bG A49 rfl rfl rfl cM ?_)
   intro h5 fc
   obtain rfl := encsimulate_Event_val.1 fc
   refine Za rfl rfl (Exec.alloc (cs := [Vi (0), Vi (0), Value.bool (false)]) bG Z49 rfl rfl ?_)
   intro gx hW dt
   refine Za rfl rfl (Exec.store_box (ds := [Vi (al.At), Vi (al.Launch), Value.bool (al.End)]) (es := [Vi (al.At), Vi (al.Launch), Value.bool (al.End)]) dt A49 rfl rfl rfl rfl (Zj rfl (Zj rfl (Zj rfl one_nil))) (Nat.le_of_ble_eq_true rfl) rfl ?_)
   intro hX aJ
   refine Zb (Ze (Zc (W_dl (n0 := 11) (.q 0 (.q 1 (qs 3 4 (.q 8 (.q 9 (.e 2 [3, 4, 5, 6, 8, 9] (.e 7 [3, 4, 8, 9] (.e 10 [] .done)))))))) hmix (by kernel_rfl) (by kernel_rfl) (DL_q rfl rfl (Zm (v := Value.pointer (some ⟨d, 0, none⟩)) rfl aF ⟨rfl, ?_⟩)))))
   refine DL_q rfl rfl (Exec.load_box_agg (ds := [Vi (aa.At), Vi (aa.Launch), Value.bool (aa.End)]) ((aJ.drew).f4) A49 rfl aC rfl ⟨rfl, ?_⟩)
   refine DL_q rfl rfl (Zp F49_2 rfl aC rfl ⟨rfl, ?_⟩)
   refine DL_q rfl rfl (Zn ((aJ.drew).f4) A4 rfl rfl rfl ⟨rfl, ?_⟩)
   refine DL_q rfl rfl (Zm (v := Value.pointer (some ⟨d, 0, none⟩)) rfl aF ⟨rfl, ?_⟩)
   refine DL_q rfl rfl (Exec.load_box_agg (ds := [Vi (al.At), Vi (al.Launch), Value.bool (al.End)]) (aJ.drew) A49 rfl rfl rfl ⟨rfl, ?_⟩)
   refine DL_q rfl rfl (Zp F49_2 rfl rfl rfl ⟨rfl, ?_⟩)
   refine DL_q rfl rfl (Zn (aJ.drew) A4 rfl rfl rfl ⟨rfl, ?_⟩)
   obtain ⟨iB, fd, am⟩ := Zg am
   refine DL_e rfl rfl (Tc rfl rfl rfl (Zi rfl (Zi rfl args_nil)) (simulate_run_job_sim fd (((aJ.drew).f3).f3).f3 (au.mono (Zt (Zt a i) j)) (av.mono (Zt (Zt a i) j)) (aw.mono (Zt (Zt a i) j)) (an.mono (Zt (Zt a i) j)) (ab.mono (Zt (Zt a i) j)) (ax.mono (Zt (Zt a i) j))).r ?_)
   rintro _ hY ⟨hw, h6, h7, h8, h9, hA, ac, aV, rfl, f0, f5, f6, f7, f8⟩
   refine ⟨(ag_cons (ag_r rfl rfl (Zp F49_2 rfl aC rfl ⟨rfl, rfl⟩)) (ag_cons (ag_r rfl rfl (Zn ((aV).f4) A4 rfl rfl rfl ⟨rfl, rfl⟩)) (ag_cons (ag_r rfl rfl (Zm (v := Value.pointer (some ⟨d, 0, none⟩)) rfl aF ⟨rfl, rfl⟩)) (ag_cons (ag_r rfl rfl (Exec.load_box_agg (ds := [Vi (al.At), Vi (al.Launch), Value.bool (al.End)]) ((aV).f3) A49 rfl rfl rfl ⟨rfl, rfl⟩)) (ag_cons (ag_r rfl rfl (Zp F49_2 rfl rfl rfl ⟨rfl, rfl⟩)) (ag_cons (ag_r rfl rfl (Zn ((aV).f3) A4 rfl rfl rfl ⟨rfl, rfl⟩)) ag_nil)))))), ?_⟩
   obtain ⟨iC, fe, am⟩ := Zg am
   refine DL_e rfl rfl (Tc rfl rfl rfl (Zi rfl (Zi rfl args_nil)) (simulate_run_job_sim fe (((aV).f2).f2).f2 (au.mono (Zt (Zt (Zt a i) j) ac)) (av.mono (Zt (Zt (Zt a i) j) ac)) (aw.mono (Zt (Zt (Zt a i) j) ac)) (an.mono (Zt (Zt (Zt a i) j) ac)) (ab.mono (Zt (Zt (Zt a i) j) ac)) (ax.mono (Zt (Zt (Zt a i) j) ac))).r ?_)
   rintro _ hZ ⟨hx, hB, hC, hD, hE, hF, ae, bh, rfl, f9, fA, fB, fC, fD⟩
   refine ⟨(ag_cons (ag_r rfl rfl (Zp F49_2 rfl aC rfl ⟨rfl, rfl⟩)) (ag_cons (ag_r rfl rfl (Zn ((bh).f4) A4 rfl rfl rfl ⟨rfl, rfl⟩)) (ag_cons (ag_r rfl rfl (Zp F49_2 rfl rfl rfl ⟨rfl, rfl⟩)) (ag_cons (ag_r rfl rfl (Zn ((bh).f3) A4 rfl rfl rfl ⟨rfl, rfl⟩)) ag_nil)))), ?_⟩
   obtain ⟨bA, ff, am⟩ := Zg am
   refine DL_e rfl rfl (Tc rfl rfl rfl (Zi rfl (Zi rfl (Zi rfl (Zi rfl args_nil)))) (simulate_meeting_sim ff bh (f0.mono ae) (f5.mono ae) (f6.mono ae) (f7.mono ae) (f8.mono ae) f9 fA fB fC fD).r ?_)
   rintro _ ia ⟨c2, a9, aW, rfl⟩
   refine ⟨ag_nil, ?_⟩
   refine DL_done (Za rfl rfl (Zo (v := Vi (bA)) rfl rfl (Zb (Ze (Zc (Zd (Za rfl rfl (Zm (v := Vi (bA)) rfl rfl (Za rfl rfl (Exec.geq rfl rfl rfl (Zb (Ze ?_))))))))))))
   obtain ⟨aP, a6, am⟩ := Zg am
   refine W_mid (M := fun f' w' => (fun (aP : (List simulate_Problem)) => ∃ (c3 : PHeap) (bb : Value), PHeap.le c2 c3 ∧ St w0 c3 (Res.box d 70 [af, ag, ah, ai, z, aj, o, bb, Vi (g.out.Makespan)] :: Res.arr (encSlice (encInt .i64)) 22 o g.out.States :: Res.arr encsimulate_Problem 52 bb aP :: Res.box aU 49 [Vi (aa.At), Vi (aa.Launch), Value.bool (aa.End)] :: H) w' ∧ f' 0 = Value.pointer (some ⟨d, 0, none⟩) ∧ f' 1 = Vi (n) ∧ f' 2 = u ∧ f' 3 = az ∧ f' 10 = Value.pointer (some ⟨aU, 0, none⟩) ∧ f' 28 = u ∧ f' 29 = Vi ((a8.length : Int)) ∧ f' 30 = Vi ((aE : Int)) ∧ f' 38 = cK ∧ f' 39 = Vi ((bE.length : Int)) ∧ f' 40 = Vi ((bQ : Int))) aP) ?_ ?_
   ·rcases ite_some a6 with ⟨aL, a6⟩ | ⟨aL, a6⟩
    ·refine W_cond_t rfl aL (Zd (Za rfl rfl (Zm (v := Value.pointer (some ⟨d, 0, none⟩)) rfl aF (Za rfl rfl (Zm (v := Vi (n)) rfl br (Za rfl rfl (Zp F49_1 rfl aC rfl (Za rfl rfl (Zn ((aW).f4) A3 rfl rfl rfl (Za rfl rfl (Zp F49_1 rfl rfl rfl (Za rfl rfl (Zn ((aW).f3) A3 rfl rfl rfl (Za rfl rfl (Zm (v := Vi (bA)) rfl rfl ?_)))))))))))))))
     obtain ⟨gY, fg, a6⟩ := Zg a6
     refine Za rfl rfl (Tc rfl rfl rfl (Zi rfl (Zi rfl (Zi rfl (Zi rfl (Zi rfl (Zi rfl args_nil)))))) (simulate_run_report_sim fg (((aW).f2).f2).f2 (au.mono (Zt (Zt (Zt (Zt (Zt a i) j) ac) ae) a9)) (av.mono (Zt (Zt (Zt (Zt (Zt a i) j) ac) ae) a9)) (aw.mono (Zt (Zt (Zt (Zt (Zt a i) j) ac) ae) a9)) (an.mono (Zt (Zt (Zt (Zt (Zt a i) j) ac) ae) a9)) (ab.mono (Zt (Zt (Zt (Zt (Zt a i) j) ac) ae) a9)) (ax.mono (Zt (Zt (Zt (Zt (Zt a i) j) ac) ae) a9))).r ?_)
     rintro _ ib ⟨fN, gb, dQ, du, rfl⟩
     refine Zb (Ze ?_)
     have g6 := Zu a6
     subst aP
     exact ⟨fN, gb, dQ, ((((((du).f3).drop).f3).f3).f3).f3, aF, br, bV, bW, aC, bX, bY, bZ, bs, bt, be⟩
    refine W_cond_f rfl aL ?_
    replace aL := Zk aL
    refine W_skip (Ze ?_)
    have g7 := Zu a6
    subst aP
    exact ⟨c2, aH, (Zv _), ((((((aW).f3).drop).f3).f3).f3).f3, aF, br, bV, bW, aC, bX, bY, bZ, bs, bt, be⟩
   intro gL ic dk
   obtain ⟨fO, bb, dR, dv, eb, ec, ed, ee, ef, eg, eh, ei, ej, ek, el⟩ := dk
   refine (ib_normal (Ze (Zd (Za rfl rfl (Exec.add rfl el rfl (Za rfl rfl (Zm (v := Vi (IntKind.i64.wrap ((bQ : Int) + 1))) rfl rfl (Zb (Ze ?_)))))))))
   have g8 := Zu am
   subst fM
   exact ⟨fO, bb, (Zt (Zt (Zt (Zt j ac) ae) a9) dR), ((((dv).f3).f3).f3).f3, eb, ec, ed, ee, ef, eg, eh, ei, ej, ek, (Eq.trans rfl (wrap_up dI (SliceRep.le b1)))⟩
  intro gM ie da
  obtain ⟨fP, aH, dS, dw, em, en, eo, ep, hj, er, et, eu, hk, ev, gh⟩ := da
  refine Zc (Zd (Za rfl rfl (Zq rfl gh ev (Zb (Ze (Zc (W_false (Zx (decide_eq_false (by omega))) (W_exit (at_exit (at_exit (ib_here (ib_normal (Ze (Zd (Za rfl rfl (Exec.add rfl eu rfl (Za rfl rfl (Zm (v := Vi (IntKind.i64.wrap ((aE : Int) + 1))) rfl rfl (Zb (Ze ?_))))))))))))))))))))
  have g9 := Zu a5
  subst fL
  exact ⟨fP, aH, (Zt i dS), (((((dw).f3).drop).f2).f2).f2, em, en, eo, ep, er, et, (Eq.trans rfl (wrap_up dH (SliceRep.le (a0.mono a))))⟩
 intro gN ig db
 obtain ⟨c4, aG, b, dx, ew, ex, ca, ey, hl, ez, gi⟩ := db
 refine Zc (Zd (Za rfl rfl (Zq rfl gi ez (Zb (Ze (Zc (W_false (Zx (decide_eq_false (by omega))) (W_exit (at_exit (at_exit (ib_here (Ze (Zc (Zc (Zd (Za rfl rfl (Zm (v := u) rfl ca (Za rfl rfl (Zr S30 rfl rfl (a0.mono (Zt a b)) (Za rfl rfl (Zm (v := Vi (0)) rfl rfl (Zb (Ze ?_)))))))))))))))))))))))
 obtain ⟨bo, cU, hm⟩ := Zg hm
 refine W_block (W_forS (fun k' s' f' w' => (fun (bo : (List simulate_Problem)) => ∃ (c5 : PHeap) (aI : Value), PHeap.le c4 c5 ∧ St w0 c5 (Res.box d 70 [af, ag, ah, ai, z, aj, o, aI, Vi (g.out.Makespan)] :: Res.arr (encSlice (encInt .i64)) 22 o g.out.States :: Res.arr encsimulate_Problem 52 aI bo :: H) w' ∧ f' 0 = Value.pointer (some ⟨d, 0, none⟩) ∧ f' 1 = Vi (n) ∧ f' 2 = u ∧ f' 3 = az ∧ f' 67 = u ∧ f' 68 = Vi ((a8.length : Int)) ∧ f' 69 = Vi (k' : Int)) s') cU ?_ ?_ ?_)
 ·have dy := (dx).f2
  exact ⟨c4, aG, (Zv _), ((dy).f2).f2, ew, ex, ca, ey, rfl, rfl, rfl⟩
 ·intro bR bo fQ gO ih dJ dc ay
  obtain ⟨hy, aI, y, bH, cb, e0, e1, cc, cd, ce, b7⟩ := dc
  refine Zc (Zd (Za rfl rfl (Zq rfl b7 ce (Zb (Ze (Zc (W_true (Zx (decide_eq_true (by omega))) (W_skip (Ze (Zc (W_block (Zc (Zd ?_)))))))))))))
  obtain ⟨ad, fh, ay⟩ := Zg ay
  refine Za rfl rfl (Exec.index_rep S30 rfl cd b7 (a0.mono (Zt (Zt a b) y)) fh ?_)
  intro gy he cN
  refine Za rfl rfl (Zw (E := encsimulate_Event) bH A49 rfl rfl rfl cN ?_)
  intro hG fi
  obtain rfl := encsimulate_Event_val.1 fi
  refine Za rfl rfl (Exec.alloc (cs := [Vi (0), Vi (0), Value.bool (false)]) bH Z49 rfl rfl ?_)
  intro bC ii dz
  refine Za rfl rfl (Exec.store_box (ds := [Vi (ad.At), Vi (ad.Launch), Value.bool (ad.End)]) (es := [Vi (ad.At), Vi (ad.Launch), Value.bool (ad.End)]) dz A49 rfl rfl rfl rfl (Zj rfl (Zj rfl (Zj rfl one_nil))) (Nat.le_of_ble_eq_true rfl) rfl ?_)
  intro ij bi
  refine Zb (Ze (Zc (W_dl (n0 := 10) (.q 0 (.q 1 (.q 3 (.q 4 (.e 2 [3, 4] (.e 5 [] (qs 6 4 .done))))))) hmix (by kernel_rfl) (by kernel_rfl) (DL_q rfl rfl (Zm (v := Value.pointer (some ⟨d, 0, none⟩)) rfl cb ⟨rfl, ?_⟩)))))
  refine DL_q rfl rfl (Exec.load_box_agg (ds := [Vi (ad.At), Vi (ad.Launch), Value.bool (ad.End)]) (bi.drew) A49 rfl rfl rfl ⟨rfl, ?_⟩)
  refine DL_q rfl rfl (Zp F49_2 rfl rfl rfl ⟨rfl, ?_⟩)
  refine DL_q rfl rfl (Zn (bi.drew) A4 rfl rfl rfl ⟨rfl, ?_⟩)
  obtain ⟨gp, fj, ay⟩ := Zg ay
  refine DL_e rfl rfl (Tc rfl rfl rfl (Zi rfl (Zi rfl args_nil)) (simulate_run_job_sim fj (((bi.drew).f3).f3).f3 (au.mono (Zt (Zt a b) y)) (av.mono (Zt (Zt a b) y)) (aw.mono (Zt (Zt a b) y)) (an.mono (Zt (Zt a b) y)) (ab.mono (Zt (Zt a b) y)) (ax.mono (Zt (Zt a b) y))).r ?_)
  rintro _ ik ⟨hz, hH, hI, hJ, hK, hL, a1, bI, rfl, fE, fF, fG, fH, fI⟩
  refine ⟨(ag_cons (ag_r rfl rfl (Zp F49_2 rfl rfl rfl ⟨rfl, rfl⟩)) (ag_cons (ag_r rfl rfl (Zn ((bI).f3) A4 rfl rfl rfl ⟨rfl, rfl⟩)) ag_nil)), ?_⟩
  refine DL_e rfl rfl (Tc rfl rfl rfl (Zi rfl (Zi rfl args_nil)) (simulate_happening_sim (simulate_happening_tot gp ad.End) bI fE fF fG fH fI).r ?_)
  rintro _ il ⟨h0, bc, b5, a2, d0, rfl, fJ, hu⟩
  refine ⟨ag_nil, ?_⟩
  refine DL_q rfl rfl (Zm (v := Value.tuple #[bc, b5]) rfl rfl ⟨rfl, ?_⟩)
  refine DL_q rfl rfl (Exec.extract (v := bc) rfl rfl rfl ⟨rfl, ?_⟩)
  refine DL_q rfl rfl (Exec.extract (v := b5) rfl rfl rfl ⟨rfl, ?_⟩)
  refine DL_q rfl rfl (Zo (v := bc) rfl rfl ⟨rfl, ?_⟩)
  refine DL_done (Za rfl rfl (Zo (v := b5) rfl rfl (Zb (Ze (Zc (Zd (Za rfl rfl (Zm (v := bc) rfl rfl (Za rfl rfl (Zm (v := az) rfl cc ?_))))))))))
  obtain ⟨gq, fk, ay⟩ := Zg ay
  refine Za rfl rfl (Tc rfl rfl rfl (Zi rfl (Zi rfl args_nil)) (simulate_missing_sim fk d0 fJ (bB.mono (Zt (Zt (Zt (Zt a b) y) a1) a2))).r ?_)
  rintro gc im ⟨c6, _, aA, d1, rfl, b2⟩
  refine Za rfl rfl (Zr S23 rfl rfl b2 (Za rfl rfl (Zm (v := Vi (0)) rfl rfl (Zb (Ze ?_)))))
  obtain ⟨bp, cV, ay⟩ := Zg ay
  refine W_block (W_forS (fun k' s' f' w' => (fun (bp : (List simulate_Problem)) => ∃ (c7 : PHeap) (aQ : Value), PHeap.le c6 c7 ∧ St w0 c7 (Res.box d 70 [af, ag, ah, ai, z, aj, o, aQ, Vi (g.out.Makespan)] :: Res.arr (encSlice (encInt .i64)) 22 o g.out.States :: Res.arr encsimulate_Problem 52 aQ bp :: Res.box bC 49 [Vi (ad.At), Vi (ad.Launch), Value.bool (ad.End)] :: H) w' ∧ f' 0 = Value.pointer (some ⟨d, 0, none⟩) ∧ f' 1 = Vi (n) ∧ f' 2 = u ∧ f' 3 = az ∧ f' 15 = Value.pointer (some ⟨bC, 0, none⟩) ∧ f' 67 = u ∧ f' 68 = Vi ((a8.length : Int)) ∧ f' 69 = Vi ((bR : Int)) ∧ f' 84 = gc ∧ f' 85 = Vi ((gq.length : Int)) ∧ f' 86 = Vi (k' : Int)) s') cV ?_ ?_ ?_)
  ·have d2 := (d1).f3
   exact ⟨c6, aI, (Zv _), (((d2).f3).f3).f3, cb, e0, e1, cc, rfl, cd, ce, b7, rfl, rfl, rfl⟩
  ·intro dM bp fR gP io dK dd aN
   obtain ⟨h1, aQ, a3, bJ, cf, cg, e2, e3, ch, e4, e5, e6, ci, cj, b8⟩ := dd
   refine Zc (Zd (Za rfl rfl (Zq rfl b8 cj (Zb (Ze (Zc (W_true (Zx (decide_eq_true (by omega))) (W_skip (Ze (Zc (W_block (Zc (Zd ?_)))))))))))))
   obtain ⟨bf, fl, aN⟩ := Zg aN
   refine Za rfl rfl (Exec.index_rep S23 rfl ci b8 (b2.mono a3) fl ?_)
   intro gz hf cO
   refine Za rfl rfl (Zw (E := encFact) bJ A75 rfl rfl rfl cO ?_)
   intro hM fm
   obtain rfl := encFact_val.1 fm
   refine Za rfl rfl (Exec.alloc (cs := [Vi (0), Vi (0)]) bJ Z75 rfl rfl ?_)
   intro g0 ip d3
   refine Za rfl rfl (Exec.store_box (ds := [Vi (bf.Var), Vi (bf.Val)]) (es := [Vi (bf.Var), Vi (bf.Val)]) d3 A75 rfl rfl rfl rfl (Zj rfl (Zj rfl one_nil)) (Nat.le_of_ble_eq_true rfl) rfl ?_)
   intro iq bj
   refine Zb (Ze (Zd (Za rfl rfl (Zm (v := Value.pointer (some ⟨d, 0, none⟩)) rfl cf (Za rfl rfl (Zm (v := Vi (n)) rfl cg (Za rfl rfl (Zp F49_1 rfl ch rfl (Za rfl rfl (Zn ((bj).f4) A3 rfl rfl rfl (Za rfl rfl (Zp F75_0 rfl rfl rfl (Za rfl rfl (Zn (bj) A3 rfl rfl rfl ?_))))))))))))))
   obtain ⟨gZ, fn, aN⟩ := Zg aN
   refine Za rfl rfl (Tc rfl rfl rfl (Zi rfl (Zi rfl (Zi rfl (Zi rfl (Zi rfl (Zi rfl args_nil)))))) (simulate_run_report_sim fn (((bj).f3).f3).f3 (au.mono (Zt (Zt (Zt (Zt (Zt (Zt a b) y) a1) a2) aA) a3)) (av.mono (Zt (Zt (Zt (Zt (Zt (Zt a b) y) a1) a2) aA) a3)) (aw.mono (Zt (Zt (Zt (Zt (Zt (Zt a b) y) a1) a2) aA) a3)) (an.mono (Zt (Zt (Zt (Zt (Zt (Zt a b) y) a1) a2) aA) a3)) (ab.mono (Zt (Zt (Zt (Zt (Zt (Zt a b) y) a1) a2) aA) a3)) (ax.mono (Zt (Zt (Zt (Zt (Zt (Zt a b) y) a1) a2) aA) a3))).r ?_)
   rintro _ ir ⟨fS, gd, dT, d4, rfl⟩
   refine Zb (ib_normal (Ze (Zd (Za rfl rfl (Exec.add rfl b8 rfl (Za rfl rfl (Zm (v := Vi (IntKind.i64.wrap ((dM : Int) + 1))) rfl rfl (Zb (Ze ?_)))))))))
   have gA := Zu aN
   subst fR
   exact ⟨fS, gd, (Zt a3 dT), ((((((d4).f3).drop).f3).f3).f3).f3, cf, cg, e2, e3, ch, e4, e5, e6, ci, cj, (Eq.trans rfl (wrap_up dK (SliceRep.le b2)))⟩
  intro gQ it de
  obtain ⟨fT, aQ, dU, d5, e7, e8, e9, eA, hn, eB, eC, eD, ho, eE, gj⟩ := de
  refine Zc (Zd (Za rfl rfl (Zq rfl gj eE (Zb (Ze (Zc (W_false (Zx (decide_eq_false (by omega))) (W_exit (at_exit (at_exit (ib_here (ib_normal (Ze (Zd (Za rfl rfl (Exec.add rfl eD rfl (Za rfl rfl (Zm (v := Vi (IntKind.i64.wrap ((bR : Int) + 1))) rfl rfl (Zb (Ze ?_))))))))))))))))))))
  have gB := Zu ay
  subst fQ
  exact ⟨fT, aQ, (Zt (Zt (Zt (Zt y a1) a2) aA) dU), (((((d5).f3).drop).f2).f2).f2, e7, e8, e9, eA, eB, eC, (Eq.trans rfl (wrap_up dJ (SliceRep.le (a0.mono (Zt a b)))))⟩
 intro gR iu df
 obtain ⟨h2, aI, h, d6, bu, eF, eG, eH, hp, eI, gk⟩ := df
 refine Zc (Zd (Za rfl rfl (Zq rfl gk eI (Zb (Ze (Zc (W_false (Zx (decide_eq_false (by omega))) (W_exit (at_exit (at_exit (ib_here (Ze (Zc (Zd (Za rfl rfl (Zm (v := Value.pointer (some ⟨d, 0, none⟩)) rfl bu (Za rfl rfl (Zm (v := az) rfl eH (Za rfl rfl (Zm (v := u) rfl eG ?_))))))))))))))))))))
 obtain ⟨gr, fo, hm⟩ := Zg hm
 refine Za rfl rfl (Tc rfl rfl rfl (Zi rfl (Zi rfl (Zi rfl args_nil))) (simulate_run_write_sim fo (((d6).f2).f2).f2 (au.mono (Zt (Zt a b) h)) (av.mono (Zt (Zt a b) h)) (aw.mono (Zt (Zt a b) h)) (an.mono (Zt (Zt a b) h)) (ab.mono (Zt (Zt a b) h)) (ax.mono (Zt (Zt a b) h)) (bB.mono (Zt (Zt a b) h)) (a0.mono (Zt (Zt a b) h))).r ?_)
 rintro ak iv ⟨c8, _, m, bK, rfl, ba⟩
 refine Za rfl rfl (Zo (v := ak) rfl rfl (Zb (Ze (Zc (Zc (Zd (Za rfl rfl (Zm (v := Value.pointer (some ⟨d, 0, none⟩)) rfl bu (Za rfl rfl (Exec.nilCheck_ptr rfl rfl (Za rfl rfl (Zp F70_1 rfl rfl rfl (Za rfl rfl (Zn (bK) A27 rfl rfl rfl (Za rfl rfl (Zr S27 rfl rfl (ab.mono (Zt (Zt (Zt a b) h) m)) (Za rfl rfl (Zm (v := Vi (0)) rfl rfl (Zb (Ze ?_))))))))))))))))))))
 obtain ⟨aX, cW, hm⟩ := Zg hm
 refine W_block (W_forS (fun k' s' f' w' => (fun (aX : (List simulate_Problem)) => ∃ (c9 : PHeap) (ar : Value), PHeap.le c8 c9 ∧ St w0 c9 (Res.box d 70 [af, ag, ah, ai, z, aj, o, ar, Vi (g.out.Makespan)] :: Res.arr (encSlice (encInt .i64)) 22 o g.out.States :: Res.arr encsimulate_Problem 52 ar aX :: H) w' ∧ f' 0 = Value.pointer (some ⟨d, 0, none⟩) ∧ f' 1 = Vi (n) ∧ f' 20 = ak ∧ f' 106 = z ∧ f' 107 = Vi ((g.l.length : Int)) ∧ f' 108 = Vi (k' : Int)) s') cW ?_ ?_ ?_)
 ·have d7 := (bK).f2
  exact ⟨c8, aI, (Zv _), ((d7).f2).f2, bu, eF, rfl, rfl, rfl, rfl⟩
 ·intro ap aX cA gS iw bP dg x
  obtain ⟨cB, ar, p, bL, bv, aZ, ck, bw, bx, aS⟩ := dg
  refine Zc (Zd (Za rfl rfl (Zq rfl aS bx (Zb (Ze (Zc (W_true (Zx (decide_eq_true (by omega))) (W_skip (Ze (Zc (W_block (Zc (Zd (Za rfl rfl (Zm (v := Vi ((ap : Int))) rfl aS ?_)))))))))))))))
  obtain ⟨aD, fp, x⟩ := Zg x
  refine Za rfl rfl (Exec.index_rep S27 rfl bw aS (ab.mono (Zt (Zt (Zt (Zt a b) h) m) p)) fp ?_)
  intro g1 hg cP
  refine Za rfl rfl (Zw (E := encLaunch) bL A64 rfl rfl rfl cP ?_)
  intro hN fq
  obtain rfl := encLaunch_val.1 fq
  refine Za rfl rfl (Exec.alloc (cs := [Vi (0), Vi (0)]) bL Z64 rfl rfl ?_)
  intro bD ix d8
  refine Za rfl rfl (Zo (v := Vi ((ap : Int))) rfl rfl (Za rfl rfl (Exec.store_box (ds := [Vi (aD.At), Vi (aD.Job)]) (es := [Vi (aD.At), Vi (aD.Job)]) d8 A64 rfl rfl rfl rfl (Zj rfl (Zj rfl one_nil)) (Nat.le_of_ble_eq_true rfl) rfl ?_)))
  intro iy bk
  refine Zb (Ze (Zc (Zc ?_)))
  obtain ⟨aT, a7, x⟩ := Zg x
  refine W_mid (M := fun f' w' => (fun (aT : Bool) => ∃ (cC : PHeap) , PHeap.le cB cC ∧ St w0 cC (Res.box d 70 [af, ag, ah, ai, z, aj, o, ar, Vi (g.out.Makespan)] :: Res.arr (encSlice (encInt .i64)) 22 o g.out.States :: Res.arr encsimulate_Problem 52 ar aX :: Res.box bD 64 [Vi (aD.At), Vi (aD.Job)] :: H) w' ∧ f' 0 = Value.pointer (some ⟨d, 0, none⟩) ∧ f' 1 = Vi (n) ∧ f' 20 = ak ∧ f' 21 = Vi ((ap : Int)) ∧ f' 22 = Value.pointer (some ⟨bD, 0, none⟩) ∧ f' 106 = z ∧ f' 107 = Vi ((g.l.length : Int)) ∧ f' 108 = Vi ((ap : Int)) ∧ f' 123 = Value.bool (aT)) aT) ?_ ?_
  ·refine Zd (Za rfl rfl (Zp F64_0 rfl rfl rfl (Za rfl rfl (Zn (bk) A3 rfl rfl rfl (Za rfl rfl (Zm (v := Vi (n)) rfl aZ (Za rfl rfl (Exec.gtr rfl rfl rfl (Za rfl rfl (Zm (v := Value.bool (decide (n < aD.At))) rfl rfl ?_))))))))))
   rcases ite_some a7 with ⟨ao, a7⟩ | ⟨ao, a7⟩
   ·refine WL_passes 6 (by rw [ao]; rfl) ?_
    refine Zb (Ze ?_)
    have gC := Zu a7
    subst aT
    exact ⟨cB, (Zv _), (((bk).f3).f3).f3, bv, aZ, ck, rfl, rfl, bw, bx, aS, rfl⟩
   replace ao := Zk ao
   refine WL_run rfl (Zf rfl (Zx ao)) rfl (Zm (v := Value.pointer (some ⟨d, 0, none⟩)) rfl bv (WL_run rfl (Zf rfl (Zx ao)) rfl (Zm (v := Vi ((ap : Int))) rfl rfl ?_)))
   obtain ⟨gs, fr, a7⟩ := Zg a7
   refine WL_run rfl (Zf rfl (Zx ao)) rfl (Tc rfl rfl rfl (Zi rfl (Zi rfl args_nil)) (simulate_run_end_43_sim fr (((bk).f3).f3).f3 (au.mono (Zt (Zt (Zt (Zt a b) h) m) p)) (av.mono (Zt (Zt (Zt (Zt a b) h) m) p)) (aw.mono (Zt (Zt (Zt (Zt a b) h) m) p)) (an.mono (Zt (Zt (Zt (Zt a b) h) m) p)) (ab.mono (Zt (Zt (Zt (Zt a b) h) m) p)) (ax.mono (Zt (Zt (Zt (Zt a b) h) m) p))).r ?_)
   rintro _ iz ⟨fU, dV, d9, rfl⟩
   refine WL_run rfl (Zf rfl (Zx ao)) rfl (Zm (v := Vi (n)) rfl aZ (WL_run rfl (Zf rfl (Zx ao)) rfl (Exec.leq rfl rfl rfl (Za rfl rfl (Exec.pick_f (v := Value.bool (decide (gs ≤ n))) rfl (Zx ao) rfl (Zb (Ze ?_)))))))
   have gD := Zu a7
   subst aT
   exact ⟨fU, dV, ((((d9).f3).f3).f3).f3, bv, aZ, ck, rfl, rfl, bw, bx, aS, rfl⟩
  intro gT i0 dl
  obtain ⟨fV, aq, aK, bz, cl, b0, eJ, eK, cm, cn, co, cp⟩ := dl
  refine (Ze ?_)
  rcases ite_some x with ⟨aM, x⟩ | ⟨aM, x⟩
  ·refine W_cond_t cp aM (W_exit (at_exit (ib_here (Ze (Zd (Za rfl rfl (Exec.add rfl co rfl (Za rfl rfl (Zm (v := Vi (IntKind.i64.wrap ((ap : Int) + 1))) rfl rfl (Zb (Ze ?_)))))))))))
   have gE := Zu x
   subst cA
   exact ⟨fV, ar, (Zt p aq), (((((aK).f3).drop).f2).f2).f2, bz, cl, b0, cm, cn, (Eq.trans rfl (wrap_up bP (SliceRep.le (ab.mono (Zt (Zt (Zt a b) h) m)))))⟩
  refine W_cond_f cp aM ?_
  replace aM := Zk aM
  refine W_skip (Ze (Zc (W_dl (n0 := 14) (qs 0 11 (.q 13 (.e 11 [13] (.q 12 .done)))) hmix (by kernel_rfl) (by kernel_rfl) (DL_q rfl rfl (Zm (v := Value.pointer (some ⟨d, 0, none⟩)) rfl bz ⟨rfl, ?_⟩)))))
  refine DL_q rfl rfl (Exec.nilCheck_ptr rfl rfl ⟨rfl, ?_⟩)
  refine DL_q rfl rfl (Zp F70_0 rfl rfl rfl ⟨rfl, ?_⟩)
  refine DL_q rfl rfl (Zp F26_3 rfl rfl rfl ⟨rfl, ?_⟩)
  refine DL_q rfl rfl (Zn (aK.drew) A24 rfl rfl rfl ⟨rfl, ?_⟩)
  refine DL_q rfl rfl (Zp F64_1 rfl eK rfl ⟨rfl, ?_⟩)
  refine DL_q rfl rfl (Zn ((aK.drew).f3) A3 rfl rfl rfl ⟨rfl, ?_⟩)
  obtain ⟨gl, fs, x⟩ := Zg x
  refine DL_q rfl rfl (Exec.index_repE S24 rfl rfl rfl (an.mono (Zt (Zt (Zt (Zt (Zt a b) h) m) p) aq)) fs ?_)
  intro g2 hh cQ gF
  refine ⟨rfl, ?_⟩
  refine DL_q rfl rfl (Zp F59_3 rfl rfl rfl ⟨rfl, ?_⟩)
  refine DL_q rfl rfl (Zw (E := (encSlice encFact)) aK.drew A23 rfl rfl rfl (cQ.sub (Sub.iso (Sub.snd (Sub.snd (Sub.snd (Sub.fst (Sub.refl _)) rfl) rfl) rfl)) rfl) ?_)
  intro hO ft
  have fK : SliceRep _ _ _ (gl.Over) := encSlice_val.1 ft
  refine ⟨rfl, ?_⟩
  refine DL_q rfl rfl (Zm (v := ak) rfl b0 ⟨rfl, ?_⟩)
  refine DL_q rfl rfl (Zm (v := Vi (0)) rfl rfl ⟨rfl, ?_⟩)
  obtain ⟨gu, fv, x⟩ := Zg x
  refine DL_e rfl rfl (Tc rfl rfl rfl (Zi rfl (Zi rfl args_nil)) (simulate_missing_sim fv aK.drew fK (ba.mono (Zt p aq))).r ?_)
  rintro gf i1 ⟨cD, _, aB, dA, rfl, b3⟩
  refine ⟨(ag_cons (ag_r rfl rfl (Zm (v := Vi (0)) rfl rfl ⟨rfl, rfl⟩)) ag_nil), ?_⟩
  refine DL_q rfl rfl (Zr S23 rfl rfl b3 ⟨rfl, ?_⟩)
  refine DL_done (Zb (Ze ?_))
  obtain ⟨bq, cX, x⟩ := Zg x
  refine W_block (W_forS (fun k' s' f' w' => (fun (bq : (List simulate_Problem)) => ∃ (cE : PHeap) (aR : Value), PHeap.le cD cE ∧ St w0 cE (Res.box d 70 [af, ag, ah, ai, z, aj, o, aR, Vi (g.out.Makespan)] :: Res.arr (encSlice (encInt .i64)) 22 o g.out.States :: Res.arr encsimulate_Problem 52 aR bq :: H) w' ∧ f' 0 = Value.pointer (some ⟨d, 0, none⟩) ∧ f' 1 = Vi (n) ∧ f' 20 = ak ∧ f' 21 = Vi ((ap : Int)) ∧ f' 106 = z ∧ f' 107 = Vi ((g.l.length : Int)) ∧ f' 108 = Vi ((ap : Int)) ∧ f' 135 = gf ∧ f' 136 = Vi ((gu.length : Int)) ∧ f' 137 = Vi (k' : Int)) s') cX ?_ ?_ ?_)
  ·have dB := ((dA).f3).drop
   exact ⟨cD, ar, (Zv _), (((dB).f2).f2).f2, bz, cl, b0, eJ, cm, cn, co, rfl, rfl, rfl⟩
  ·intro dN bq fW gU i2 dL dh aO
   obtain ⟨h3, aR, a4, bM, cq, cr, eL, ct, eM, eN, eO, cu, cv, b9⟩ := dh
   refine Zc (Zd (Za rfl rfl (Zq rfl b9 cv (Zb (Ze (Zc (W_true (Zx (decide_eq_true (by omega))) (W_skip (Ze (Zc (W_block (Zc (Zd ?_)))))))))))))
   obtain ⟨bg, fw, aO⟩ := Zg aO
   refine Za rfl rfl (Exec.index_rep S23 rfl cu b9 (b3.mono a4) fw ?_)
   intro g3 hi cR
   refine Za rfl rfl (Zw (E := encFact) bM A75 rfl rfl rfl cR ?_)
   intro hP fx
   obtain rfl := encFact_val.1 fx
   refine Za rfl rfl (Exec.alloc (cs := [Vi (0), Vi (0)]) bM Z75 rfl rfl ?_)
   intro g4 i3 dC
   refine Za rfl rfl (Exec.store_box (ds := [Vi (bg.Var), Vi (bg.Val)]) (es := [Vi (bg.Var), Vi (bg.Val)]) dC A75 rfl rfl rfl rfl (Zj rfl (Zj rfl one_nil)) (Nat.le_of_ble_eq_true rfl) rfl ?_)
   intro i4 bN
   refine Zb (Ze (Zd (Za rfl rfl (Zm (v := Value.pointer (some ⟨d, 0, none⟩)) rfl cq (Za rfl rfl (Zm (v := Vi (n)) rfl cr (Za rfl rfl (Zm (v := Vi ((ap : Int))) rfl ct (Za rfl rfl (Zp F75_0 rfl rfl rfl (Za rfl rfl (Zn (bN) A3 rfl rfl rfl ?_))))))))))))
   obtain ⟨ha, fy, aO⟩ := Zg aO
   refine Za rfl rfl (Tc rfl rfl rfl (Zi rfl (Zi rfl (Zi rfl (Zi rfl (Zi rfl (Zi rfl args_nil)))))) (simulate_run_report_sim fy (((bN).f3).f3).f3 (au.mono (Zt (Zt (Zt (Zt (Zt (Zt (Zt a b) h) m) p) aq) aB) a4)) (av.mono (Zt (Zt (Zt (Zt (Zt (Zt (Zt a b) h) m) p) aq) aB) a4)) (aw.mono (Zt (Zt (Zt (Zt (Zt (Zt (Zt a b) h) m) p) aq) aB) a4)) (an.mono (Zt (Zt (Zt (Zt (Zt (Zt (Zt a b) h) m) p) aq) aB) a4)) (ab.mono (Zt (Zt (Zt (Zt (Zt (Zt (Zt a b) h) m) p) aq) aB) a4)) (ax.mono (Zt (Zt (Zt (Zt (Zt (Zt (Zt a b) h) m) p) aq) aB) a4))).r ?_)
   rintro _ i5 ⟨fX, gg, dW, dD, rfl⟩
   refine Zb (ib_normal (Ze (Zd (Za rfl rfl (Exec.add rfl b9 rfl (Za rfl rfl (Zm (v := Vi (IntKind.i64.wrap ((dN : Int) + 1))) rfl rfl (Zb (Ze ?_)))))))))
   have gG := Zu aO
   subst fW
   exact ⟨fX, gg, (Zt a4 dW), (((((dD).f3).drop).f2).f2).f2, cq, cr, eL, ct, eM, eN, eO, cu, cv, (Eq.trans rfl (wrap_up dL (SliceRep.le b3)))⟩
  intro gV i6 di
  obtain ⟨fY, aR, dX, dE, eP, eQ, eR, hq, eS, eT, eU, hr, eV, gm⟩ := di
  refine Zc (Zd (Za rfl rfl (Zq rfl gm eV (Zb (Ze (Zc (W_false (Zx (decide_eq_false (by omega))) (W_exit (at_exit (at_exit (ib_here (ib_normal (Ze (Zd (Za rfl rfl (Exec.add rfl eU rfl (Za rfl rfl (Zm (v := Vi (IntKind.i64.wrap ((ap : Int) + 1))) rfl rfl (Zb (Ze ?_))))))))))))))))))))
  have gH := Zu x
  subst cA
  exact ⟨fY, aR, (Zt (Zt (Zt p aq) aB) dX), (((dE).f2).f2).f2, eP, eQ, eR, eS, eT, (Eq.trans rfl (wrap_up bP (SliceRep.le (ab.mono (Zt (Zt (Zt a b) h) m)))))⟩
 intro gW i7 dj
 obtain ⟨fZ, ar, aY, bO, cw, hs, cx, ht, eW, gn⟩ := dj
 refine Zc (Zd (Za rfl rfl (Zq rfl gn eW (Zb (Ze (Zc (W_false (Zx (decide_eq_false (by omega))) (W_exit (at_exit (at_exit (ib_here (Ze (Zc (Zd (Za rfl rfl (Zm (v := Value.pointer (some ⟨d, 0, none⟩)) rfl cw (Za rfl rfl (Zm (v := Value.pointer (some ⟨d, 0, none⟩)) rfl cw (Za rfl rfl (Exec.nilCheck_ptr rfl rfl (Za rfl rfl (Zp F70_2 rfl rfl rfl (Za rfl rfl (Zp F34_1 rfl rfl rfl (Za rfl rfl (Zn (bO) A31 rfl rfl rfl (Za rfl rfl (Zm (v := ak) rfl cx (Za rfl rfl (Exec.buildSlice (Te := 22) (cs := [ak]) bO rfl (parts_cons (c := [ak]) (cells_of rfl (cells_one ((ba.mono aY)).one)) parts_nil) (fun _ => by kernel_rfl) ?_))))))))))))))))))))))))))))))
 intro g5 i8 dF
 obtain ⟨hb, fz, hm⟩ := Zg hm
 refine Za rfl rfl (Exec.append_box (E := (encSlice (encInt .i64))) (ys := [gr]) (dF).f2 S31 Z22 rfl (by decide) rfl rfl rfl rfl ⟨[ak], [], rfl, ⟨_, rfl, (ba.mono aY)⟩, rfl⟩ rfl fz ?_)
 intro b6 i9 bl
 refine Za rfl rfl (Exec.nilCheck_ptr rfl rfl (Za rfl rfl (Zp F70_2 rfl rfl rfl (Za rfl rfl (Zp F34_1 rfl rfl rfl (Za rfl rfl (Exec.store_box (ds := [b6]) (es := [af, ag, ah, ai, z, aj, b6, ar, Vi (g.out.Makespan)]) (bl).f1 A31 rfl rfl rfl (cells_one (((bl).f1).f1).arr_one) (Zj (((bl).f1).f1).arr_one one_nil) (Nat.le_of_ble_eq_true rfl) rfl ?_)))))))
 intro iA dG
 refine Zb (Ze (Zc (Zd (Za rfl rfl (Zm (v := ak) rfl cx (Za rfl rfl (Zo (v := ak) rfl rfl (Zb (Ze (W_ret ?_))))))))))
 have gI := Zu hm
 subst r
 refine ⟨_, ret1 rfl, ?_⟩
 exact ⟨fZ, ak, b6, ar, (Zt (Zt (Zt (Zt a b) h) m) aY), (((dG).f2).f2).f2, rfl, (ba.mono aY)⟩
theorem simulate_Run_sim {w0 w : World} {s : PHeap} {H : List Res} {fu : Nat} {aB : Temporal} {bD : (List Launch)} {d : Value} {g : Value} {i : Value} {j : Value} {p : Value} {r : (Option Int) × simulate_Report} (hm : simulate_Run_p fu aB bD = some r) (hS : St w0 s (H) w) (aD : SliceRep (encInt .i64) s d aB.Vars) (ax : SliceRep (encInt .i64) s g aB.Init) (ay : SliceRep encFact s i aB.Goal) (aE : SliceRep encJob s j aB.Jobs) (az : SliceRep encLaunch s p bD) :
  Calls Tryz.prog 7 #[Value.agg #[d, g, i, j], p] w fun e w' => ∃ v, e = .returned v ∧ ((un2 fun (ex : (Option Int)) (aU : simulate_Report) => ∃ (aA : PHeap) (cm : Value) (cn : Value) (co : Value), PHeap.le s aA ∧ St w0 aA (H) w' ∧ v = Value.tuple #[Value.agg #[cm, cn, co, Vi (aU.Makespan)], errV 77 (ex)] ∧ SliceRep encsimulate_Event aA cm aU.Events ∧ SliceRep (encSlice (encInt .i64)) aA cn aU.States ∧ SliceRep encsimulate_Problem aA co aU.Problems) r) := by
 unfold simulate_Run_p at hm
 refine calls_of_W Tryz.func7 rfl rfl (Zc (Zd (Za rfl rfl (Exec.box (cs := [d, g, i, j]) hS rfl rfl rfl ?_))))
 intro u fw cD
 refine Za rfl rfl (Exec.alloc (cs := [Value.slice none 0 0, Value.slice none 0 0, Value.slice none 0 0, Vi (0)]) cD Z34 rfl rfl ?_)
 intro o fx bv
 refine Za rfl rfl (Zo (v := errV 77 (none)) rfl rfl (Zb (Ze (Zc (Zc (Zd (Za rfl rfl (Exec.load_box_agg (ds := [d, g, i, j]) ((bv).f1) A26 rfl rfl rfl (Za rfl rfl (Zm (v := p) rfl rfl ?_))))))))))
 obtain ⟨ee, d5, hm⟩ := Zg hm
 obtain ⟨bn, q⟩ := ee
 replace hm := un2_eq hm
 refine Za rfl rfl (Tc rfl rfl rfl (Zi rfl (Zi rfl args_nil)) (temporal_Validate_sim d5 bv aD ax ay aE az).r ?_)
 rintro _ fy ⟨bZ, l, bw, rfl⟩
 refine Za rfl rfl (Zm (v := Value.tuple #[Vi (bn), errV 77 (q)]) rfl rfl (Za rfl rfl (Exec.extract (v := Vi (bn)) rfl rfl rfl (Za rfl rfl (Exec.extract (v := errV 77 (q)) rfl rfl rfl (Za rfl rfl (Zo (v := Vi (bn)) rfl rfl (Za rfl rfl (Zo (v := errV 77 (q)) rfl rfl (Zb (Ze (Zc (W_mid (M := fun f' w' => ∃ (ca : PHeap) , PHeap.le bZ ca ∧ St w0 ca (Res.box u 26 [d, g, i, j] :: Res.box o 34 [Value.slice none 0 0, Value.slice none 0 0, Value.slice none 0 0, Vi (0)] :: H) w' ∧ f' 1 = p ∧ f' 2 = Value.pointer (some ⟨u, 0, none⟩) ∧ f' 4 = Value.pointer (some ⟨o, 0, none⟩) ∧ f' 7 = errV 77 (q) ∧ f' 27 = Value.bool ((q.isSome && !(simulate_invalid_t q)))) ?_ ?_)))))))))))))
 ·refine Zd (Za rfl rfl (Zm (v := errV 77 (q)) rfl rfl (Za rfl rfl (Exec.err_neq_nil (T := 77) Tryz.underlying36 rfl rfl rfl (Za rfl rfl (Zm (v := Value.bool (q.isSome)) rfl rfl ?_))))))
  by_cases af : q.isSome = true
  ·refine WL_run rfl (Zf rfl (Zx af)) rfl (Zm (v := errV 77 (q)) rfl rfl (WL_run rfl (Zf rfl (Zx af)) rfl (Tc rfl rfl rfl (Zi rfl args_nil) (simulate_invalid_sim (simulate_invalid_tot q) bw ).r ?_)))
   rintro _ fz ⟨dV, di, cE, rfl⟩
   refine WL_run rfl (Zf rfl (Zx af)) rfl (Exec.not rfl rfl (Za rfl rfl (Zs (v := Value.bool (!(simulate_invalid_t q))) rfl (Zx af) rfl (Zb (Ze ?_)))))
   exact ⟨dV, di, (cE).f1, rfl, rfl, rfl, rfl, (Zx (and_t af)).symm⟩
  replace af := Zk af
  refine WL_passes 4 (by rw [af]; rfl) ?_
  refine Zb (Ze ?_)
  exact ⟨bZ, (Zv _), (bw).f1, rfl, rfl, rfl, rfl, (Zx (and_f af)).symm⟩
 intro eJ f0 c9
 obtain ⟨dW, m, aV, dp, be, bf, dq, bE⟩ := c9
 refine (Ze ?_)
 rcases ite_some hm with ⟨a1, hm⟩ | ⟨a1, hm⟩
 ·refine W_cond_t bE a1 (Zc (Zd (Za rfl rfl (Exec.build rfl parts_nil (v := Value.agg #[Value.slice none 0 0, Value.slice none 0 0, Value.slice none 0 0, Vi (0)]) (fun _ => by kernel_rfl) (Za rfl rfl (Zm (v := errV 77 (q)) rfl dq (Za rfl rfl (Exec.store_box (ds := [Value.slice none 0 0, Value.slice none 0 0, Value.slice none 0 0, Vi (0)]) (es := [Value.slice none 0 0, Value.slice none 0 0, Value.slice none 0 0, Vi (0)]) (aV).f1 A34 rfl bf rfl rfl (Zj rfl (Zj rfl (Zj rfl (Zj rfl one_nil)))) (Nat.le_of_ble_eq_true rfl) rfl ?_))))))))
  intro f5 bx
  refine Za rfl rfl (Zo (v := errV 77 (q)) rfl rfl (Zb (Ze (W_ret (at_ret ?_)))))
  have e6 := Zu hm
  subst r
  refine ⟨_, retG2 rfl ⟨_, _, bf, cellRes (bx) A34⟩ rfl, ?_⟩
  exact ⟨dW, (Value.slice none 0 0), (Value.slice none 0 0), (Value.slice none 0 0), (Zt l m), ((bx).drop).drop, (tup2 rfl rfl), (SliceRep.nil _ _), (SliceRep.nil _ _), (SliceRep.nil _ _)⟩
 refine W_cond_f bE a1 ?_
 replace a1 := Zk a1
 refine W_skip (Ze (Zc (Zd (Za rfl rfl (Exec.load_box_agg (ds := [d, g, i, j]) (aV) A26 rfl be rfl (Za rfl rfl (Zm (v := p) rfl dp (Za rfl rfl (Exec.build rfl (parts_cons (c := [d, g, i, j]) (cells_of rfl rfl) (parts_cons (c := [p]) (cells_of rfl (cells_one ((az.mono (Zt l m))).one)) parts_nil)) (v := Value.agg #[d, g, i, j, p, Value.slice none 0 0, Value.slice none 0 0, Value.slice none 0 0, Vi (0)]) (fun _ => by kernel_rfl) (Za rfl rfl (Exec.box (cs := [d, g, i, j, p, Value.slice none 0 0, Value.slice none 0 0, Value.slice none 0 0, Vi (0)]) aV rfl rfl rfl ?_)))))))))))
 intro a f6 cF
 have cG := cF.nilArr encsimulate_Event 49
 have cH := cG.nilArr (encSlice (encInt .i64)) 22
 have cI := cH.nilArr encsimulate_Problem 52
 refine Za rfl rfl (Zo (v := Value.pointer (some ⟨a, 0, none⟩)) rfl rfl (Zb (Ze (Zc (Zd (Za rfl rfl (Zm (v := Value.pointer (some ⟨a, 0, none⟩)) rfl rfl ?_)))))))
 obtain ⟨ef, d6, hm⟩ := Zg hm
 obtain ⟨ae, eX⟩ := ef
 replace hm := un2_eq hm
 refine Za rfl rfl (Tc rfl rfl rfl (Zi rfl args_nil) (simulate_run_events_sim d6 (((cI).f1).f2).f3 (aD.mono (Zt l m)) (ax.mono (Zt l m)) (ay.mono (Zt l m)) (aE.mono (Zt l m)) (az.mono (Zt l m))).r ?_)
 rintro _ f7 ⟨fi, ej, t, bz, rfl⟩
 refine Zb (Ze (Zc (Zd (Za rfl rfl (Zp F26_1 rfl be rfl (Za rfl rfl (Zn ((bz).f4) A22 rfl rfl rfl ?_)))))))
 obtain ⟨fR, d7, hm⟩ := Zg hm
 refine Za rfl rfl (Tc rfl rfl rfl (Zi rfl args_nil) (slices_Clone_int_sim d7 bz (ax.mono (Zt (Zt l m) t))).r ?_)
 rintro cp f8 ⟨cb, _, x, cJ, rfl⟩
 refine Za rfl rfl (Zo (v := cp) rfl rfl (Zb (Ze (Zc (Zc (Zd (Za rfl rfl (Zo (v := Vi (0)) rfl rfl (Zb (Ze ?_))))))))))
 obtain ⟨bp, cz, eV, dc, cY⟩ := ctl_some hm
 refine W_mid (M := fun f' w' => ∃ s', (bp = .next s' ∨ bp = .brk s') ∧ (un5 fun (ck : (List Int)) (b7 : Int) (cu : (List simulate_Event)) (aI : (List (List Int))) (b8 : (List simulate_Problem)) => ∃ (aO : PHeap) (aR : Value) (aj : Value) (aa : Value) (aS : Value), PHeap.le cb aO ∧ St w0 aO (Res.box u 26 [d, g, i, j] :: Res.box o 34 [Value.slice none 0 0, Value.slice none 0 0, Value.slice none 0 0, Vi (0)] :: Res.box a 70 [d, g, i, j, p, aj, aa, aS, Vi (ae)] :: Res.arr (encSlice (encInt .i64)) 22 aa aI :: Res.arr encsimulate_Problem 52 aS b8 :: H) w' ∧ f' 2 = Value.pointer (some ⟨u, 0, none⟩) ∧ f' 4 = Value.pointer (some ⟨o, 0, none⟩) ∧ f' 8 = Value.pointer (some ⟨a, 0, none⟩) ∧ f' 9 = aR ∧ f' 10 = Vi (b7) ∧ SliceRep (encInt .i64) aO aR ck ∧ SliceRep encsimulate_Event aO aj cu) s') ?_ ?_
 ·refine W_block (W_while (fun s' f' w' => (un5 fun (cl : (List Int)) (y : Int) (bo : (List simulate_Event)) (a6 : (List (List Int))) (a7 : (List simulate_Problem)) => ∃ (aP : PHeap) (am : Value) (an : Value) (ab : Value) (ac : Value), PHeap.le cb aP ∧ St w0 aP (Res.box u 26 [d, g, i, j] :: Res.box o 34 [Value.slice none 0 0, Value.slice none 0 0, Value.slice none 0 0, Vi (0)] :: Res.box a 70 [d, g, i, j, p, an, ab, ac, Vi (ae)] :: Res.arr (encSlice (encInt .i64)) 22 ab a6 :: Res.arr encsimulate_Problem 52 ac a7 :: H) w' ∧ f' 2 = Value.pointer (some ⟨u, 0, none⟩) ∧ f' 4 = Value.pointer (some ⟨o, 0, none⟩) ∧ f' 8 = Value.pointer (some ⟨a, 0, none⟩) ∧ f' 9 = am ∧ f' 10 = Vi (y) ∧ SliceRep (encInt .i64) aP am cl ∧ SliceRep encsimulate_Event aP an bo) s') cz ?_ ?_)
  ·obtain ⟨fj, dj, cK, dN⟩ := cJ.freezeArr
   obtain ⟨dX, b9, cL, dO⟩ := (cK).f1.freezeArr
   exact ⟨dX, cp, ej, (Value.slice none 0 0), (Value.slice none 0 0), (Zt dj b9), (((((cL).f2).f2).f2).f4).f4, be, bf, rfl, rfl, rfl, (dN.mono b9), dO⟩
  intro eg bq eK f9 c3 n df
  obtain ⟨cl, y, bo, a6, a7⟩ := eg
  replace n := un5_eq n
  obtain ⟨aQ, am, an, ab, ac, ar, aW, bF, bG, bg, bH, aK, b6, ag⟩ := c3
  refine Zc (Zc (Zd (Za rfl rfl (Zm (v := Vi (y)) rfl aK (Za rfl rfl (Zm (v := Value.pointer (some ⟨a, 0, none⟩)) rfl bg (Za rfl rfl (Exec.nilCheck_ptr rfl rfl (Za rfl rfl (Zp F70_2 rfl rfl rfl (Za rfl rfl (Zp F34_0 rfl rfl rfl (Za rfl rfl (Zn ((aW).f2) A30 rfl rfl rfl (Za rfl rfl (Zr S30 rfl rfl ag (Za rfl rfl (Zq rfl rfl rfl (Zb (Ze ?_))))))))))))))))))))
  rcases ite_some n with ⟨a2, n⟩ | ⟨a2, n⟩
  ·refine W_cond_t rfl a2 (W_skip (Ze (W_block (Zc (Zd (Za rfl rfl (Zm (v := Vi (y)) rfl aK (Za rfl rfl (Zo (v := Vi (y)) rfl rfl (Zb (Ze (Zc ?_))))))))))))
   obtain ⟨br, c0, eW, dd, cZ⟩ := ctl_some n
   refine W_mid (M := fun f' w' => ∃ s', (br = .next s' ∨ br = .brk s') ∧ (fun (a5 : Int) => ∃ (cc : PHeap) , PHeap.le aQ cc ∧ St w0 cc (Res.box u 26 [d, g, i, j] :: Res.box o 34 [Value.slice none 0 0, Value.slice none 0 0, Value.slice none 0 0, Vi (0)] :: Res.box a 70 [d, g, i, j, p, an, ab, ac, Vi (ae)] :: Res.arr (encSlice (encInt .i64)) 22 ab a6 :: Res.arr encsimulate_Problem 52 ac a7 :: H) w' ∧ f' 2 = Value.pointer (some ⟨u, 0, none⟩) ∧ f' 4 = Value.pointer (some ⟨o, 0, none⟩) ∧ f' 8 = Value.pointer (some ⟨a, 0, none⟩) ∧ f' 9 = am ∧ f' 10 = Vi (y) ∧ f' 11 = Vi (a5)) s') ?_ ?_
   ·refine W_block (W_while (fun s' f' w' => (fun (ak : Int) => ∃ (cd : PHeap) , PHeap.le aQ cd ∧ St w0 cd (Res.box u 26 [d, g, i, j] :: Res.box o 34 [Value.slice none 0 0, Value.slice none 0 0, Value.slice none 0 0, Vi (0)] :: Res.box a 70 [d, g, i, j, p, an, ab, ac, Vi (ae)] :: Res.arr (encSlice (encInt .i64)) 22 ab a6 :: Res.arr encsimulate_Problem 52 ac a7 :: H) w' ∧ f' 2 = Value.pointer (some ⟨u, 0, none⟩) ∧ f' 4 = Value.pointer (some ⟨o, 0, none⟩) ∧ f' 8 = Value.pointer (some ⟨a, 0, none⟩) ∧ f' 9 = am ∧ f' 10 = Vi (y) ∧ f' 11 = Vi (ak)) s') c0 ?_ ?_)
    ·have cM := (aW).f4
     exact ⟨aQ, (Zv _), ((((cM).f4).f4).f4).f4, bF, bG, bg, bH, aK, rfl⟩
    intro ak bs eL fA c4 ap dg
    obtain ⟨bk, a8, cN, bI, bJ, a9, bK, bh, aL⟩ := c4
    refine Zc (Zc ?_)
    obtain ⟨aC, ah, ap⟩ := Zg ap
    refine W_mid (M := fun f' w' => (fun (aC : Bool) => ∃ (ce : PHeap) , PHeap.le bk ce ∧ St w0 ce (Res.box u 26 [d, g, i, j] :: Res.box o 34 [Value.slice none 0 0, Value.slice none 0 0, Value.slice none 0 0, Vi (0)] :: Res.box a 70 [d, g, i, j, p, an, ab, ac, Vi (ae)] :: Res.arr (encSlice (encInt .i64)) 22 ab a6 :: Res.arr encsimulate_Problem 52 ac a7 :: H) w' ∧ f' 2 = Value.pointer (some ⟨u, 0, none⟩) ∧ f' 4 = Value.pointer (some ⟨o, 0, none⟩) ∧ f' 8 = Value.pointer (some ⟨a, 0, none⟩) ∧ f' 9 = am ∧ f' 10 = Vi (y) ∧ f' 11 = Vi (ak) ∧ f' 76 = Value.bool (aC)) aC) ?_ ?_
    ·refine W_dl (n0 := 29) (qs 0 29 .done) hmix (by kernel_rfl) (by kernel_rfl) ?_
     have ao := cN.drew
     refine DL_q rfl rfl (Zm (v := Vi (ak)) rfl aL ⟨rfl, ?_⟩)
     refine DL_q rfl rfl (Zm (v := Value.pointer (some ⟨a, 0, none⟩)) rfl a9 ⟨rfl, ?_⟩)
     refine DL_q rfl rfl (Exec.nilCheck_ptr rfl rfl ⟨rfl, ?_⟩)
     refine DL_q rfl rfl (Zp F70_2 rfl rfl rfl ⟨rfl, ?_⟩)
     refine DL_q rfl rfl (Zp F34_0 rfl rfl rfl ⟨rfl, ?_⟩)
     refine DL_q rfl rfl (Zn ((ao).f2) A30 rfl rfl rfl ⟨rfl, ?_⟩)
     refine DL_q rfl rfl (Zr S30 rfl rfl (ag.mono a8) ⟨rfl, ?_⟩)
     refine DL_q rfl rfl (Zq rfl rfl rfl ⟨rfl, ?_⟩)
     refine DL_q rfl rfl (Zm (v := Value.bool (decide (ak < (bo.length : Int)))) rfl rfl ⟨rfl, ?_⟩)
     rcases ite_some ah with ⟨b, ah⟩ | ⟨b, ah⟩
     ·refine DL_qg rfl rfl (Zf rfl (Zx b)) (Zm (v := Value.pointer (some ⟨a, 0, none⟩)) rfl a9 ⟨rfl, ?_⟩)
      refine DL_qg rfl rfl (Zf rfl (Zx b)) (Exec.nilCheck_ptr rfl rfl ⟨rfl, ?_⟩)
      refine DL_qg rfl rfl (Zf rfl (Zx b)) (Zp F70_2 rfl rfl rfl ⟨rfl, ?_⟩)
      refine DL_qg rfl rfl (Zf rfl (Zx b)) (Zp F34_0 rfl rfl rfl ⟨rfl, ?_⟩)
      refine DL_qg rfl rfl (Zf rfl (Zx b)) (Zn ((ao).f2) A30 rfl rfl rfl ⟨rfl, ?_⟩)
      refine DL_qg rfl rfl (Zf rfl (Zx b)) (Zm (v := Vi (ak)) rfl aL ⟨rfl, ?_⟩)
      obtain ⟨cr, d8, ah⟩ := Zg ah
      refine DL_qg rfl rfl (Zf rfl (Zx b)) (Exec.index_repE S30 rfl rfl rfl (ag.mono a8) d8 ?_)
      intro ey fc cv e7
      refine ⟨rfl, ?_⟩
      refine DL_qg rfl rfl (Zf rfl (Zx b)) (Zp F49_0 rfl rfl rfl ⟨rfl, ?_⟩)
      refine DL_qg rfl rfl (Zf rfl (Zx b)) (Zw (E := (encInt .i64)) ao A3 rfl rfl rfl (cv.sub (Sub.iso (Sub.fst (Sub.refl _))) rfl) ?_)
      intro ek d9
      obtain rfl : ek = Vi (cr.At) := encInt_val.1 d9
      refine ⟨rfl, ?_⟩
      refine DL_qg rfl rfl (Zf rfl (Zx b)) (Zm (v := Value.pointer (some ⟨a, 0, none⟩)) rfl a9 ⟨rfl, ?_⟩)
      refine DL_qg rfl rfl (Zf rfl (Zx b)) (Exec.nilCheck_ptr rfl rfl ⟨rfl, ?_⟩)
      refine DL_qg rfl rfl (Zf rfl (Zx b)) (Zp F70_2 rfl rfl rfl ⟨rfl, ?_⟩)
      refine DL_qg rfl rfl (Zf rfl (Zx b)) (Zp F34_0 rfl rfl rfl ⟨rfl, ?_⟩)
      refine DL_qg rfl rfl (Zf rfl (Zx b)) (Zn ((ao).f2) A30 rfl rfl rfl ⟨rfl, ?_⟩)
      refine DL_qg rfl rfl (Zf rfl (Zx b)) (Zm (v := Vi (y)) rfl bh ⟨rfl, ?_⟩)
      obtain ⟨ct, dA, ah⟩ := Zg ah
      refine DL_qg rfl rfl (Zf rfl (Zx b)) (Exec.index_repE S30 rfl rfl rfl (ag.mono a8) dA ?_)
      intro ez fd cw e8
      refine ⟨rfl, ?_⟩
      refine DL_qg rfl rfl (Zf rfl (Zx b)) (Zp F49_0 rfl rfl rfl ⟨rfl, ?_⟩)
      refine DL_qg rfl rfl (Zf rfl (Zx b)) (Zw (E := (encInt .i64)) ao A3 rfl rfl rfl (cw.sub (Sub.iso (Sub.fst (Sub.refl _))) rfl) ?_)
      intro el dB
      obtain rfl : el = Vi (ct.At) := encInt_val.1 dB
      refine ⟨rfl, ?_⟩
      refine DL_qg rfl rfl (Zf rfl (Zx b)) (Exec.eql rfl rfl rfl ⟨rfl, ?_⟩)
      refine DL_q rfl rfl (Zs (v := Value.bool (decide (cr.At = ct.At))) rfl (Zx b) rfl ⟨rfl, ?_⟩)
      refine DL_done (Zb (Ze ?_))
      have e9 := Zu ah
      subst aC
      exact ⟨bk, (Zv _), (((((ao).f4).f4).f4).f4).f4, bI, bJ, a9, bK, bh, aL, rfl⟩
     replace b := Zk b
     refine DL_passes 20 (by rw [b]; rfl) ?_
     refine DL_done (Zb (Ze ?_))
     have eA := Zu ah
     subst aC
     exact ⟨bk, (Zv _), (((((ao).f4).f4).f4).f4).f4, bI, bJ, a9, bK, bh, aL, rfl⟩
    intro eM fB cA
    obtain ⟨cf, bA, b0, bL, bM, bN, bO, bP, bQ, bR⟩ := cA
    refine (Ze ?_)
    rcases ite_some ap with ⟨a3, ap⟩ | ⟨a3, ap⟩
    ·refine W_cond_t bR a3 (W_skip (Ze (W_block (Zd (Za rfl rfl (Zm (v := Vi (ak)) rfl bQ (Za rfl rfl (Exec.add rfl rfl rfl (Za rfl rfl (Zo (v := Vi (IntKind.i64.wrap (ak + 1))) rfl rfl (Zb (ib_normal (Ze ?_)))))))))))))
     have eB := Zu ap
     subst bs
     refine ⟨_, rfl, ?_⟩; exact ⟨cf, (Zt a8 bA), (((((b0).f4).f4).f4).f4).f4, bL, bM, bN, bO, bP, rfl⟩
    refine W_cond_f bR a3 ?_
    replace a3 := Zk a3
    refine W_exit (at_exit (at_exit (ib_here (Ze ?_))))
    have eC := Zu ap
    subst bs
    refine ⟨_, .inr (dg (by intro _ h; cases h)), ?_⟩; exact ⟨cf, (Zt a8 bA), (((((b0).f4).f4).f4).f4).f4, bL, bM, bN, bO, bP, bQ⟩
   rintro eN fC ⟨a5, b4, cB⟩
   have n := b4.elim (dd _) (cZ _)
   clear b4
   obtain ⟨fk, z, aF, dr, dt, aM, du, bS, bT⟩ := cB
   refine (Ze (Zc (W_dl (n0 := 20) (qs 0 19 (.e 19 [] .done)) hmix (by kernel_rfl) (by kernel_rfl) (DL_q rfl rfl (Zm (v := Value.pointer (some ⟨a, 0, none⟩)) rfl aM ⟨rfl, ?_⟩)))))
   refine DL_q rfl rfl (Zm (v := Value.pointer (some ⟨a, 0, none⟩)) rfl aM ⟨rfl, ?_⟩)
   refine DL_q rfl rfl (Exec.nilCheck_ptr rfl rfl ⟨rfl, ?_⟩)
   refine DL_q rfl rfl (Zp F70_2 rfl rfl rfl ⟨rfl, ?_⟩)
   refine DL_q rfl rfl (Zp F34_0 rfl rfl rfl ⟨rfl, ?_⟩)
   refine DL_q rfl rfl (Zn ((aF.drew).f2) A30 rfl rfl rfl ⟨rfl, ?_⟩)
   refine DL_q rfl rfl (Zm (v := Vi (y)) rfl bS ⟨rfl, ?_⟩)
   obtain ⟨et, dC, n⟩ := Zg n
   refine DL_q rfl rfl (Exec.index_repE S30 rfl rfl rfl (ag.mono z) dC ?_)
   intro e0 fe cx eD
   refine ⟨rfl, ?_⟩
   refine DL_q rfl rfl (Zp F49_0 rfl rfl rfl ⟨rfl, ?_⟩)
   refine DL_q rfl rfl (Zw (E := (encInt .i64)) aF.drew A3 rfl rfl rfl (cx.sub (Sub.iso (Sub.fst (Sub.refl _))) rfl) ?_)
   intro em dD
   obtain rfl : em = Vi (et.At) := encInt_val.1 dD
   refine ⟨rfl, ?_⟩
   refine DL_q rfl rfl (Zm (v := Value.pointer (some ⟨a, 0, none⟩)) rfl aM ⟨rfl, ?_⟩)
   refine DL_q rfl rfl (Exec.nilCheck_ptr rfl rfl ⟨rfl, ?_⟩)
   refine DL_q rfl rfl (Zp F70_2 rfl rfl rfl ⟨rfl, ?_⟩)
   refine DL_q rfl rfl (Zp F34_0 rfl rfl rfl ⟨rfl, ?_⟩)
   refine DL_q rfl rfl (Zn ((aF.drew).f2) A30 rfl rfl rfl ⟨rfl, ?_⟩)
   refine DL_q rfl rfl (Zm (v := Vi (y)) rfl bS ⟨rfl, ?_⟩)
   refine DL_q rfl rfl (Zm (v := Vi (a5)) rfl bT ⟨rfl, ?_⟩)
   obtain ⟨e3, dE, n⟩ := Zg n
   refine DL_q rfl rfl (Exec.slice_both S30 rfl rfl rfl rfl (ag.mono z) dE ?_)
   intro fr dP
   refine ⟨rfl, ?_⟩
   refine DL_q rfl rfl (Zm (v := am) rfl du ⟨rfl, ?_⟩)
   obtain ⟨eh, dF, n⟩ := Zg n
   obtain ⟨fS, eY, eZ⟩ := eh
   replace n := un3_eq n
   refine DL_e rfl rfl (Tc rfl rfl rfl (Zi rfl (Zi rfl (Zi rfl (Zi rfl args_nil)))) (simulate_run_tick_sim dF (((aF.drew).f4).f4).f4 (aD.mono (Zt (Zt (Zt (Zt (Zt l m) t) x) ar) z)) (ax.mono (Zt (Zt (Zt (Zt (Zt l m) t) x) ar) z)) (ay.mono (Zt (Zt (Zt (Zt (Zt l m) t) x) ar) z)) (aE.mono (Zt (Zt (Zt (Zt (Zt l m) t) x) ar) z)) (az.mono (Zt (Zt (Zt (Zt (Zt l m) t) x) ar) z)) (ag.mono z) dP (b6.mono z)).r ?_)
   rintro cq fD ⟨dY, _, en, eo, bB, cO, rfl, dQ⟩
   refine ⟨ag_nil, ?_⟩
   refine DL_done (Za rfl rfl (Zo (v := cq) rfl rfl (Zb (Ze (Zd (Za rfl rfl (Zm (v := Vi (a5)) rfl bT (Za rfl rfl (Zo (v := Vi (a5)) rfl rfl (Zb (ib_normal (Ze ?_))))))))))))
   have eE := Zu n
   subst bq
   refine ⟨_, rfl, ?_⟩; exact ⟨dY, cq, an, en, eo, (Zt (Zt ar z) bB), (((((cO).f2).f2).f2).f4).f4, dr, dt, aM, rfl, rfl, dQ, (ag.mono (Zt z bB))⟩
  refine W_cond_f rfl a2 ?_
  replace a2 := Zk a2
  refine W_exit (at_exit (at_exit (ib_here (Ze ?_))))
  have eF := Zu n
  subst bq
  refine ⟨_, .inr (df (by intro _ h; cases h)), ?_⟩; exact ⟨aQ, am, an, ab, ac, ar, (((((aW).f4).f4).f4).f4).f4, bF, bG, bg, bH, aK, b6, ag⟩
 rintro eO fE ⟨ei, b5, cC⟩
 have hm := b5.elim (dc _) (cY _)
 clear b5
 obtain ⟨ck, b7, cu, aI, b8⟩ := ei
 replace hm := un5_eq hm
 obtain ⟨fl, aR, aj, aa, aS, au, b1, dv, dw, dx, dy, fg, de, aZ⟩ := cC
 refine (Ze (Zc (Zc (Zd (Za rfl rfl (Zp F26_2 rfl dv rfl (Za rfl rfl (Zn (b1) A23 rfl rfl rfl (Za rfl rfl (Zm (v := aR) rfl dy ?_))))))))))
 obtain ⟨ew, dG, hm⟩ := Zg hm
 refine Za rfl rfl (Tc rfl rfl rfl (Zi rfl (Zi rfl args_nil)) (simulate_missing_sim dG b1 (ay.mono (Zt (Zt (Zt (Zt l m) t) x) au)) de).r ?_)
 rintro ep fF ⟨cg, _, ai, cP, rfl, bj⟩
 refine Za rfl rfl (Zr S23 rfl rfl bj (Za rfl rfl (Zm (v := Vi (0)) rfl rfl (Zb (Ze ?_)))))
 obtain ⟨aJ, c1, hm⟩ := Zg hm
 refine W_block (W_forS (fun k' s' f' w' => (fun (aJ : (List simulate_Problem)) => ∃ (ch : PHeap) (ad : Value), PHeap.le cg ch ∧ St w0 ch (Res.box o 34 [Value.slice none 0 0, Value.slice none 0 0, Value.slice none 0 0, Vi (0)] :: Res.box a 70 [d, g, i, j, p, aj, aa, ad, Vi (ae)] :: Res.arr (encSlice (encInt .i64)) 22 aa aI :: Res.arr encsimulate_Problem 52 ad aJ :: H) w' ∧ f' 4 = Value.pointer (some ⟨o, 0, none⟩) ∧ f' 8 = Value.pointer (some ⟨a, 0, none⟩) ∧ f' 103 = ep ∧ f' 104 = Vi ((ew.length : Int)) ∧ f' 105 = Vi (k' : Int)) s') c1 ?_ ?_ ?_)
 ·have cQ := (cP).drop
  exact ⟨cg, aS, (Zv _), ((((cQ).f3).f3).f3).f3, dw, dx, rfl, rfl, rfl⟩
 ·intro dh aJ dZ eP fG da c5 a4
  obtain ⟨fm, ad, al, b2, dz, bi, bU, bV, bl⟩ := c5
  refine Zc (Zd (Za rfl rfl (Zq rfl bl bV (Zb (Ze (Zc (W_true (Zx (decide_eq_true (by omega))) (W_skip (Ze (Zc (W_block (Zc (Zd ?_)))))))))))))
  obtain ⟨aT, dH, a4⟩ := Zg a4
  refine Za rfl rfl (Exec.index_rep S23 rfl bU bl (bj.mono al) dH ?_)
  intro e1 ff cy
  refine Za rfl rfl (Zw (E := encFact) b2 A75 rfl rfl rfl cy ?_)
  intro fs dI
  obtain rfl := encFact_val.1 dI
  refine Za rfl rfl (Exec.alloc (cs := [Vi (0), Vi (0)]) b2 Z75 rfl rfl ?_)
  intro e2 fH cR
  refine Za rfl rfl (Exec.store_box (ds := [Vi (aT.Var), Vi (aT.Val)]) (es := [Vi (aT.Var), Vi (aT.Val)]) cR A75 rfl rfl rfl rfl (Zj rfl (Zj rfl one_nil)) (Nat.le_of_ble_eq_true rfl) rfl ?_)
  intro fI aX
  refine Zb (Ze (W_dl (n0 := 9) (qs 0 8 (.e 8 [] .done)) hmix (by kernel_rfl) (by kernel_rfl) (DL_q rfl rfl (Zm (v := Value.pointer (some ⟨a, 0, none⟩)) rfl bi ⟨rfl, ?_⟩))))
  refine DL_q rfl rfl (Zm (v := Value.pointer (some ⟨a, 0, none⟩)) rfl bi ⟨rfl, ?_⟩)
  refine DL_q rfl rfl (Exec.nilCheck_ptr rfl rfl ⟨rfl, ?_⟩)
  refine DL_q rfl rfl (Zp F70_2 rfl rfl rfl ⟨rfl, ?_⟩)
  refine DL_q rfl rfl (Zp F34_3 rfl rfl rfl ⟨rfl, ?_⟩)
  refine DL_q rfl rfl (Zn ((aX.drew).f2) A3 rfl rfl rfl ⟨rfl, ?_⟩)
  refine DL_q rfl rfl (Zp F75_0 rfl rfl rfl ⟨rfl, ?_⟩)
  refine DL_q rfl rfl (Zn (aX.drew) A3 rfl rfl rfl ⟨rfl, ?_⟩)
  obtain ⟨fa, dJ, a4⟩ := Zg a4
  refine DL_e rfl rfl (Tc rfl rfl rfl (Zi rfl (Zi rfl (Zi rfl (Zi rfl (Zi rfl (Zi rfl args_nil)))))) (simulate_run_report_sim dJ (((aX.drew).f4).f4).f4 (aD.mono (Zt (Zt (Zt (Zt (Zt (Zt l m) t) x) au) ai) al)) (ax.mono (Zt (Zt (Zt (Zt (Zt (Zt l m) t) x) au) ai) al)) (ay.mono (Zt (Zt (Zt (Zt (Zt (Zt l m) t) x) au) ai) al)) (aE.mono (Zt (Zt (Zt (Zt (Zt (Zt l m) t) x) au) ai) al)) (az.mono (Zt (Zt (Zt (Zt (Zt (Zt l m) t) x) au) ai) al)) (aZ.mono (Zt ai al))).r ?_)
  rintro _ fJ ⟨ea, er, dk, cS, rfl⟩
  refine ⟨ag_nil, ?_⟩
  refine DL_done (Zb (ib_normal (Ze (Zd (Za rfl rfl (Exec.add rfl bl rfl (Za rfl rfl (Zm (v := Vi (IntKind.i64.wrap ((dh : Int) + 1))) rfl rfl (Zb (Ze ?_))))))))))
  have eG := Zu a4
  subst dZ
  exact ⟨ea, er, (Zt al dk), ((((((cS).f3).drop).f2).f2).f2).f3, dz, bi, bU, bV, (Eq.trans rfl (wrap_up da (SliceRep.le bj)))⟩
 intro eQ fK c6
 obtain ⟨ci, ad, ba, aG, d0, bW, fh, d1, eu⟩ := c6
 refine Zc (Zd (Za rfl rfl (Zq rfl eu d1 (Zb (Ze (Zc (W_false (Zx (decide_eq_false (by omega))) (W_exit (at_exit (at_exit (ib_here (Ze (Zc (Zc (Zd (Za rfl rfl (Zm (v := Value.pointer (some ⟨a, 0, none⟩)) rfl bW (Za rfl rfl (Exec.nilCheck_ptr rfl rfl (Za rfl rfl (Zp F70_2 rfl rfl rfl (Za rfl rfl (Zp F34_1 rfl rfl rfl (Za rfl rfl (Zn ((aG).f1) A31 rfl rfl rfl (Za rfl rfl (Exec.len_arr ((aG).f2) S31 rfl rfl (Za rfl rfl (Zm (v := Vi (0)) rfl rfl (Zb (Ze ?_)))))))))))))))))))))))))))))))
 obtain ⟨bb, c2, hm⟩ := Zg hm
 refine W_block (W_forS (fun k' s' f' w' => (fun (bb : (List (List Int))) => ∃ (cj : PHeap) , PHeap.le ci cj ∧ St w0 cj (Res.box o 34 [Value.slice none 0 0, Value.slice none 0 0, Value.slice none 0 0, Vi (0)] :: Res.box a 70 [d, g, i, j, p, aj, aa, ad, Vi (ae)] :: Res.arr (encSlice (encInt .i64)) 22 aa bb :: Res.arr encsimulate_Problem 52 ad aJ :: H) w' ∧ f' 4 = Value.pointer (some ⟨o, 0, none⟩) ∧ f' 8 = Value.pointer (some ⟨a, 0, none⟩) ∧ f' 124 = Vi ((aI.length : Int)) ∧ f' 125 = Vi (k' : Int)) s') c2 ?_ ?_ ?_)
 ·have cT := (aG).f3
  exact ⟨ci, (Zv _), (((cT).f3).f3).f3, d0, bW, rfl, rfl⟩
 ·intro aw bb eb eR fL db c7 aq
  obtain ⟨fn, dl, a0, d2, aN, bX, bm⟩ := c7
  refine Zc (Zd (Za rfl rfl (Zq rfl bm bX (Zb (Ze (Zc (W_true (Zx (decide_eq_true (by omega))) (W_skip (Ze (Zc (W_block (Zc (Zd (Za rfl rfl (Zm (v := Vi ((aw : Int))) rfl bm (Za rfl rfl (Zo (v := Vi ((aw : Int))) rfl rfl (Zb (Ze (W_dl (n0 := 15) (qs 0 14 (.e 14 [0, 1, 2, 3, 4, 5] .done)) hmix (by kernel_rfl) (by kernel_rfl) (DL_q rfl rfl (Zm (v := Value.pointer (some ⟨a, 0, none⟩)) rfl aN ⟨rfl, ?_⟩))))))))))))))))))))))
  refine DL_q rfl rfl (Exec.nilCheck_ptr rfl rfl ⟨rfl, ?_⟩)
  refine DL_q rfl rfl (Zp F70_2 rfl rfl rfl ⟨rfl, ?_⟩)
  refine DL_q rfl rfl (Zp F34_1 rfl rfl rfl ⟨rfl, ?_⟩)
  refine DL_q rfl rfl (Zn ((a0.drew).f1) A31 rfl rfl rfl ⟨rfl, ?_⟩)
  refine DL_q rfl rfl (Zm (v := Vi ((aw : Int))) rfl rfl ⟨rfl, ?_⟩)
  refine DL_q rfl rfl (Zm (v := Value.pointer (some ⟨a, 0, none⟩)) rfl aN ⟨rfl, ?_⟩)
  refine DL_q rfl rfl (Exec.nilCheck_ptr rfl rfl ⟨rfl, ?_⟩)
  refine DL_q rfl rfl (Zp F70_2 rfl rfl rfl ⟨rfl, ?_⟩)
  refine DL_q rfl rfl (Zp F34_1 rfl rfl rfl ⟨rfl, ?_⟩)
  refine DL_q rfl rfl (Zn ((a0.drew).f1) A31 rfl rfl rfl ⟨rfl, ?_⟩)
  refine DL_q rfl rfl (Zm (v := Vi ((aw : Int))) rfl rfl ⟨rfl, ?_⟩)
  obtain ⟨fQ, av, aq⟩ := Zg aq
  obtain ⟨eT, e4, bt⟩ := ((a0.drew).f2).arr_at av
  refine DL_q rfl rfl (Exec.index_slice S31 rfl bt rfl (idx_some av).1 (idx_some av).2.1 ⟨rfl, ?_⟩)
  refine DL_q rfl rfl (Exec.load_arr (F := (encSlice (encInt .i64))) ((a0.drew).f2) bt A22 rfl rfl rfl av (Sub.refl _) ?_)
  intro ft dK
  have dR := encSlice_val.1 dK
  refine ⟨rfl, ?_⟩
  obtain ⟨fT, dL, aq⟩ := Zg aq
  refine DL_e rfl rfl (Tc rfl rfl rfl (Zi rfl args_nil) (slices_Clone_int_sim dL a0.drew dR).r ?_)
  rintro fv fM ⟨fo, _, dm, aY, rfl⟩
  refine ⟨(ag_cons (ag_r rfl rfl (Zm (v := Value.pointer (some ⟨a, 0, none⟩)) rfl aN ⟨rfl, rfl⟩)) (ag_cons (ag_r rfl rfl (Exec.nilCheck_ptr rfl rfl ⟨rfl, rfl⟩)) (ag_cons (ag_r rfl rfl (Zp F70_2 rfl rfl rfl ⟨rfl, rfl⟩)) (ag_cons (ag_r rfl rfl (Zp F34_1 rfl rfl rfl ⟨rfl, rfl⟩)) (ag_cons (ag_r rfl rfl (Zn ((aY).f2) A31 rfl rfl rfl ⟨rfl, rfl⟩)) (ag_cons (ag_r rfl rfl (Zm (v := Vi ((aw : Int))) rfl rfl ⟨rfl, rfl⟩)) ag_nil)))))), ?_⟩
  refine DL_done ?_
  obtain ⟨eU, e5, bu⟩ := ((aY).f3).arr_at av
  refine Za rfl rfl (Exec.index_slice S31 rfl bu rfl (idx_some av).1 (idx_some av).2.1 ?_)
  obtain ⟨ec, dn, cU, dS⟩ := aY.freezeArr
  obtain ⟨fb, dM, aq⟩ := Zg aq
  refine Za rfl rfl (Exec.store_arr (cU).f2 bu A22 rfl rfl rfl rfl (encSlice_val.2 dS) dM ?_)
  intro fN cV
  refine Zb (ib_normal (Ze (Zd (Za rfl rfl (Exec.add rfl bm rfl (Za rfl rfl (Zm (v := Vi (IntKind.i64.wrap ((aw : Int) + 1))) rfl rfl (Zb (Ze ?_)))))))))
  have eH := Zu aq
  subst eb
  exact ⟨ec, (Zt (Zt dl dm) dn), ((((cV).f3).f1).f3).f3, d2, aN, bX, (Eq.trans rfl (wrap_up db ((aG).f2).arr_le))⟩
 intro eS fO c8
 obtain ⟨fp, bc, aH, bY, d3, d4, ev⟩ := c8
 refine Zc (Zd (Za rfl rfl (Zq rfl ev d4 (Zb (Ze (Zc (W_false (Zx (decide_eq_false (by omega))) (W_exit (at_exit (at_exit (ib_here (Ze (Zc (Zd (Za rfl rfl (Zm (v := Value.pointer (some ⟨a, 0, none⟩)) rfl d3 (Za rfl rfl (Exec.nilCheck_ptr rfl rfl (Za rfl rfl (Zp F70_2 rfl rfl rfl (Za rfl rfl (Exec.load_box_agg (ds := [aj, aa, ad, Vi (ae)]) ((aH).f1) A34 rfl rfl rfl (Za rfl rfl (Exec.store_box (ds := [aj, aa, ad, Vi (ae)]) (es := [aj, aa, ad, Vi (ae)]) aH A34 rfl bY rfl rfl (Zj ((aZ.mono (Zt (Zt ai ba) bc))).one (Zj ((aH).f2).arr_one (Zj ((aH).f3).arr_one (Zj rfl one_nil)))) (Nat.le_of_ble_eq_true rfl) rfl ?_))))))))))))))))))))))))
 intro fP b3
 refine Za rfl rfl (Zo (v := errV 77 (none)) rfl rfl (Zb (Ze (W_ret ?_))))
 have eI := Zu hm
 subst r
 refine ⟨_, retG2 rfl ⟨_, _, bY, cellRes (b3) A34⟩ rfl, ?_⟩
 obtain ⟨fq, bC, cW, dT⟩ := (b3).f2.freezeArr
 obtain ⟨ed, bd, cX, dU⟩ := (cW).f2.freezeArr
 exact ⟨ed, aj, aa, ad, (Zt (Zt (Zt (Zt (Zt (Zt (Zt (Zt (Zt l m) t) x) au) ai) ba) bc) bC) bd), ((cX).drop).drop, (tup2 rfl rfl), (aZ.mono (Zt (Zt (Zt (Zt ai ba) bc) bC) bd)), (dT.mono bd), dU⟩
theorem A52 : tyAgg Tryz.prog 52 = some (true, 5) := by kernel_rfl
theorem IS52 : intStruct Tryz.prog 52 5 = true := by kernel_rfl
end Go.Pw
