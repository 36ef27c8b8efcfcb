/-
  The walks (printed by my generator).
-/
import Derived.Test.YtcabhickgjhkhaaGreatDoorL29
import Derived.Test.YtcabhickgjhkhaaGreatDoorIs4
import Derived.Test.YtcabhickgjhkhaaGreatDoorIsSo
set_option maxRecDepth 100000
set_option maxHeartbeats 4000000
set_option linter.unusedVariables false
namespace Go.Pw
open Go.Proofs
theorem slices_Compact_int_o_sim {w0 w : World} {s : PHeap} {H : List Res} {an : (List Int)} {a : Value} {r : Nat × (List Int)} (hm : slices_Compact_int_o_p an = some r) (hS : St w0 s (Res.arr (encInt .i64) 3 a an :: H) w)  :
  Calls Tryz.prog 51 #[a] w fun e w' => ∃ v, e = .returned v ∧ ((un2 fun (b7 : Nat) (bl : (List Int)) => ∃ (aL : PHeap) (aR : Value), PHeap.le s aL ∧ St w0 aL (Res.arr (encInt .i64) 3 a bl :: H) w' ∧ v = aR ∧ SubOf 1 a aR 0 b7) r) := by
 unfold slices_Compact_int_o_p at hm
 refine calls_of_W Tryz.func51 rfl rfl (Zc (Zd (Za rfl rfl (Zo (v := Value.slice none 0 0) rfl rfl (Zb (Ze (Zc (Zc (Zd (Za rfl rfl (Zm (v := a) rfl rfl (Za rfl rfl (Exec.len_arr (hS) S24 rfl rfl (Za rfl rfl (Zq rfl rfl rfl (Zb (Ze ?_)))))))))))))))))
 rcases ite_some hm with ⟨q, hm⟩ | ⟨q, hm⟩
 ·refine W_cond_t rfl q (Zc (Zd (Za rfl rfl (Zm (v := a) rfl rfl (Za rfl rfl (Zo (v := a) rfl rfl (Zb (Ze (W_ret (at_ret ?_))))))))))
  have bE := Zu hm
  subst r
  refine ⟨_, ret1 rfl, ?_⟩
  exact ⟨s, a, (Zv _), hS, rfl, (Or.inl ⟨rfl, rfl, (hS).arr_shape⟩)⟩
 refine W_cond_f rfl q ?_
 replace q := Zk q
 refine W_skip (Ze (Zc (Zc (Zd (Za rfl rfl (Zo (v := Vi (1)) rfl rfl (Zb (Ze ?_))))))))
 obtain ⟨av, aV, bj, bg, be⟩ := ctl_some hm
 refine W_mid (M := fun f' w' => ∃ s', (av = .next s' ∨ av = .brk s') ∧ (fun (aB : Int) => ∃ (aM : PHeap) , PHeap.le s aM ∧ St w0 aM (Res.arr (encInt .i64) 3 a an :: H) w' ∧ f' 0 = a ∧ f' 3 = Vi (aB)) s') ?_ ?_
 ·refine W_block (W_while (fun s' f' w' => (fun (j : Int) => ∃ (aN : PHeap) , PHeap.le s aN ∧ St w0 aN (Res.arr (encInt .i64) 3 a an :: H) w' ∧ f' 0 = a ∧ f' 3 = Vi (j)) s') aV ?_ ?_)
  ·exact ⟨s, (Zv _), hS, rfl, rfl⟩
  intro j ap bO cn aX b aA
  obtain ⟨ab, ar, aq, m, n⟩ := aX
  refine Zc (Zc (Zd (Za rfl rfl (Zm (v := Vi (j)) rfl n (Za rfl rfl (Zm (v := a) rfl m (Za rfl rfl (Exec.len_arr (aq) S24 rfl rfl (Za rfl rfl (Zq rfl rfl rfl (Zb (Ze ?_))))))))))))
  rcases ite_some b with ⟨t, b⟩ | ⟨t, b⟩
  ·refine W_cond_t rfl t (W_skip (Ze (Zc (W_block (Zc (W_dl (n0 := 10) (qs 0 10 .done) hmix (by kernel_rfl) (by kernel_rfl) ?_))))))
   have l := aq.drew
   refine DL_q rfl rfl (Zm (v := a) rfl m ⟨rfl, ?_⟩)
   refine DL_q rfl rfl (Zm (v := Vi (j)) rfl n ⟨rfl, ?_⟩)
   obtain ⟨cu, ag, b⟩ := Zg b
   obtain ⟨bT, b8, ay⟩ := (l).arr_at ag
   refine DL_q rfl rfl (Exec.index_slice S24 rfl ay rfl (idx_some ag).1 (idx_some ag).2.1 ⟨rfl, ?_⟩)
   refine DL_q rfl rfl (Exec.load_arr (F := (encInt .i64)) (l) ay A3 rfl rfl rfl ag (Sub.refl _) ?_)
   intro ch bu
   obtain rfl := encInt_val.1 bu
   refine ⟨rfl, ?_⟩
   refine DL_q rfl rfl (Zm (v := a) rfl m ⟨rfl, ?_⟩)
   refine DL_q rfl rfl (Zm (v := Vi (j)) rfl n ⟨rfl, ?_⟩)
   refine DL_q rfl rfl (Exec.sub rfl rfl rfl ⟨rfl, ?_⟩)
   obtain ⟨cv, ah, b⟩ := Zg b
   obtain ⟨bU, b9, az⟩ := (l).arr_at ah
   refine DL_q rfl rfl (Exec.index_slice S24 rfl az rfl (idx_some ah).1 (idx_some ah).2.1 ⟨rfl, ?_⟩)
   refine DL_q rfl rfl (Exec.load_arr (F := (encInt .i64)) (l) az A3 rfl rfl rfl ah (Sub.refl _) ?_)
   intro ci bv
   obtain rfl := encInt_val.1 bv
   refine ⟨rfl, ?_⟩
   refine DL_q rfl rfl (Exec.eql rfl rfl rfl ⟨rfl, ?_⟩)
   refine DL_done (Zb (Ze ?_))
   rcases ite_some b with ⟨u, b⟩ | ⟨u, b⟩
   ·refine W_cond_t rfl u (Zc (Zd (Za rfl rfl (Zm (v := a) rfl m (Za rfl rfl (Zm (v := Vi (j)) rfl n ?_))))))
    obtain ⟨cb, ai, b⟩ := Zg b
    refine Za rfl rfl (Exec.sub_from (l) S24 rfl rfl rfl ai ?_)
    intro k ac
    refine Za rfl rfl (Zo (v := k) rfl rfl (Zb (Ze (Zc (Zc (Zd (Za rfl rfl (Zo (v := Vi (1)) rfl rfl (Zb (Ze ?_))))))))))
    obtain ⟨aw, aW, bZ, bh, bf⟩ := ctl_some b
    refine W_mid (M := fun f' w' => ∃ s', (aw = .next s' ∨ aw = .brk s') ∧ (un3 fun (ad : Int) (aC : Int) (aE : (List Int)) => ∃ (aO : PHeap) , PHeap.le ab aO ∧ St w0 aO (Res.arr (encInt .i64) 3 a aE :: H) w' ∧ f' 0 = a ∧ f' 3 = Vi (ad) ∧ f' 4 = k ∧ f' 5 = Vi (aC)) s') ?_ ?_
    ·refine W_block (W_while (fun s' f' w' => (un3 fun (aa : Int) (i : Int) (aF : (List Int)) => ∃ (aP : PHeap) , PHeap.le ab aP ∧ St w0 aP (Res.arr (encInt .i64) 3 a aF :: H) w' ∧ f' 0 = a ∧ f' 3 = Vi (aa) ∧ f' 4 = k ∧ f' 5 = Vi (i)) s') aW ?_ ?_)
     ·exact ⟨ab, (Zv _), l, m, n, rfl, rfl⟩
     intro b5 ax bP co aY c bk
     obtain ⟨aa, i, aF⟩ := b5
     replace c := un3_eq c
     obtain ⟨am, aG, a4, ae, af, o, p⟩ := aY
     refine Zc (Zc (Zd (Za rfl rfl (Zm (v := Vi (i)) rfl p (Za rfl rfl (Zm (v := k) rfl o (Za rfl rfl (Exec.len_sub S24 ac rfl rfl (Za rfl rfl (Zq rfl rfl rfl (Zb (Ze ?_))))))))))))
     rcases ite_some c with ⟨x, c⟩ | ⟨x, c⟩
     ·refine W_cond_t rfl x (W_skip (Ze (Zc (W_block (Zc (W_dl (n0 := 10) (qs 0 10 .done) hmix (by kernel_rfl) (by kernel_rfl) ?_))))))
      have g := a4.drew
      refine DL_q rfl rfl (Zm (v := k) rfl o ⟨rfl, ?_⟩)
      refine DL_q rfl rfl (Zm (v := Vi (i)) rfl p ⟨rfl, ?_⟩)
      obtain ⟨cw, aj, c⟩ := Zg c
      obtain ⟨bV, bA, a0⟩ := (g).arr_at (idxV_some aj).2.2
      refine DL_q rfl rfl (Exec.index_sub S24 (view_some ai).1 ac a0 rfl rfl rfl (idxV_some aj).1 (idxV_some aj).2.1 ⟨rfl, ?_⟩)
      refine DL_q rfl rfl (Exec.load_arr (F := (encInt .i64)) (g) a0 A3 rfl rfl rfl (idxV_some aj).2.2 (Sub.refl _) ?_)
      intro cj bw
      obtain rfl := encInt_val.1 bw
      refine ⟨rfl, ?_⟩
      refine DL_q rfl rfl (Zm (v := k) rfl o ⟨rfl, ?_⟩)
      refine DL_q rfl rfl (Zm (v := Vi (i)) rfl p ⟨rfl, ?_⟩)
      refine DL_q rfl rfl (Exec.sub rfl rfl rfl ⟨rfl, ?_⟩)
      obtain ⟨cx, ak, c⟩ := Zg c
      obtain ⟨bW, bB, a1⟩ := (g).arr_at (idxV_some ak).2.2
      refine DL_q rfl rfl (Exec.index_sub S24 (view_some ai).1 ac a1 rfl rfl rfl (idxV_some ak).1 (idxV_some ak).2.1 ⟨rfl, ?_⟩)
      refine DL_q rfl rfl (Exec.load_arr (F := (encInt .i64)) (g) a1 A3 rfl rfl rfl (idxV_some ak).2.2 (Sub.refl _) ?_)
      intro ck bx
      obtain rfl := encInt_val.1 bx
      refine ⟨rfl, ?_⟩
      refine DL_q rfl rfl (Exec.neq rfl rfl rfl ⟨rfl, ?_⟩)
      refine DL_done (Zb (Ze ?_))
      obtain ⟨ao, d, c⟩ := Zg c
      refine W_mid (M := fun f' w' => (un2 fun (aD : Int) (aH : (List Int)) => ∃ (aQ : PHeap) , PHeap.le am aQ ∧ St w0 aQ (Res.arr (encInt .i64) 3 a aH :: H) w' ∧ f' 0 = a ∧ f' 3 = Vi (aD) ∧ f' 4 = k ∧ f' 5 = Vi (i)) ao) ?_ ?_
      ·rcases ite_some d with ⟨z, d⟩ | ⟨z, d⟩
       ·refine W_cond_t rfl z (Zc (Zd (Za rfl rfl (Zm (v := a) rfl ae (Za rfl rfl (Zm (v := Vi (aa)) rfl af (Za rfl rfl (Zm (v := k) rfl o (Za rfl rfl (Zm (v := Vi (i)) rfl p ?_))))))))))
        obtain ⟨cy, al, d⟩ := Zg d
        obtain ⟨bX, bC, a2⟩ := (g).arr_at (idxV_some al).2.2
        refine Za rfl rfl (Exec.index_sub S24 (view_some ai).1 ac a2 rfl rfl rfl (idxV_some al).1 (idxV_some al).2.1 (Za rfl rfl (Exec.load_arr (F := (encInt .i64)) (g) a2 A3 rfl rfl rfl (idxV_some al).2.2 (Sub.refl _) ?_)))
        intro cl bz
        obtain rfl := encInt_val.1 bz
        obtain ⟨cz, au, d⟩ := Zg d
        obtain ⟨bY, bD, a3⟩ := (g).arr_at au
        refine Za rfl rfl (Exec.index_slice S24 rfl a3 rfl (idx_some au).1 (idx_some au).2.1 ?_)
        obtain ⟨ca, b0, d⟩ := Zg d
        refine Za rfl rfl (Exec.store_arr g a3 A3 rfl rfl rfl rfl (encInt_val.2 rfl) b0 ?_)
        intro cp bc
        refine Zb (Ze (Zd (Za rfl rfl (Zm (v := Vi (aa)) rfl af (Za rfl rfl (Exec.add rfl rfl rfl (Za rfl rfl (Zo (v := Vi (IntKind.i64.wrap (aa + 1))) rfl rfl (Zb (Ze ?_))))))))))
        have bF := Zu d
        subst ao
        exact ⟨am, (Zv _), bc, ae, rfl, o, p⟩
       refine W_cond_f rfl z ?_
       replace z := Zk z
       refine W_skip (Ze ?_)
       have bG := Zu d
       subst ao
       exact ⟨am, (Zv _), g, ae, af, o, p⟩
      intro bQ cq aZ
      obtain ⟨aD, aH⟩ := ao
      replace c := un2_eq c
      obtain ⟨b2, bm, bd, bp, bq, br, bs⟩ := aZ
      refine (ib_normal (Ze (Zd (Za rfl rfl (Zm (v := Vi (i)) rfl bs (Za rfl rfl (Exec.add rfl rfl rfl (Za rfl rfl (Zo (v := Vi (IntKind.i64.wrap (i + 1))) rfl rfl (Zb (Ze ?_)))))))))))
      have bH := Zu c
      subst ax
      refine ⟨_, rfl, ?_⟩; exact ⟨b2, (Zt aG bm), bd, bp, bq, br, rfl⟩
     refine W_cond_f rfl x ?_
     replace x := Zk x
     refine W_exit (at_exit (at_exit (ib_here (Ze ?_))))
     have bI := Zu c
     subst ax
     refine ⟨_, .inr (bk (by intro _ h; cases h)), ?_⟩; exact ⟨am, aG, a4, ae, af, o, p⟩
    rintro bR cr ⟨b6, a8, ba⟩
    have b := a8.elim (bh _) (bf _)
    clear a8
    obtain ⟨ad, aC, aE⟩ := b6
    replace b := un3_eq b
    obtain ⟨b3, bn, a5, aI, aJ, ce, cf⟩ := ba
    refine (Ze (Zc (Zd (Za rfl rfl (Zm (v := a) rfl aI (Za rfl rfl (Zm (v := Vi (ad)) rfl aJ ?_)))))))
    obtain ⟨cc, aK, b⟩ := Zg b
    refine Za rfl rfl (Exec.sub_from (a5) S24 rfl rfl rfl aK ?_)
    intro cm aT
    refine Za rfl rfl (Exec.clear_sub (E := (encInt .i64)) (y := 0) a5 aT (view_some aK).2.2.2.2.2 S24 Z3 rfl rfl rfl ?_)
    intro cs a6
    refine Zb (Ze (Zc (Zd (Za rfl rfl (Zm (v := a) rfl aI (Za rfl rfl (Zm (v := Vi (ad)) rfl aJ ?_)))))))
    obtain ⟨cd, b1, b⟩ := Zg b
    refine Za rfl rfl (Exec.sub_to (a6) S24 rfl rfl rfl b1 ?_)
    intro aS aU
    refine Za rfl rfl (Zo (v := aS) rfl rfl (Zb (Ze (W_ret (ib_ret (at_ret (at_ret (ib_ret (at_ret (at_ret ?_))))))))))
    have bJ := Zu b
    subst ap
    have bi := bj _ (aA (by intro _ h; cases h))
    have bK := Zu bi
    subst r
    refine ⟨_, ret1 rfl, ?_⟩
    exact ⟨b3, aS, (Zt ar bn), a6, rfl, aU⟩
   refine W_cond_f rfl u ?_
   replace u := Zk u
   refine W_skip (ib_normal (Ze (Zd (Za rfl rfl (Zm (v := Vi (j)) rfl n (Za rfl rfl (Exec.add rfl rfl rfl (Za rfl rfl (Zo (v := Vi (IntKind.i64.wrap (j + 1))) rfl rfl (Zb (Ze ?_)))))))))))
   have bL := Zu b
   subst ap
   refine ⟨_, rfl, ?_⟩; exact ⟨ab, ar, l, m, rfl⟩
  refine W_cond_f rfl t ?_
  replace t := Zk t
  refine W_exit (at_exit (at_exit (ib_here (Ze ?_))))
  have bM := Zu b
  subst ap
  refine ⟨_, .inr (aA (by intro _ h; cases h)), ?_⟩; exact ⟨ab, ar, aq, m, n⟩
 rintro bS ct ⟨aB, a9, bb⟩
 have hm := a9.elim (bg _) (be _)
 clear a9
 obtain ⟨b4, bo, a7, bt, cg⟩ := bb
 refine (Ze (Zc (Zd (Za rfl rfl (Zm (v := a) rfl bt (Za rfl rfl (Zo (v := a) rfl rfl (Zb (Ze (W_ret ?_))))))))))
 have bN := Zu hm
 subst r
 refine ⟨_, ret1 rfl, ?_⟩
 exact ⟨b4, a, bo, a7, rfl, (Or.inl ⟨rfl, rfl, (a7).arr_shape⟩)⟩
theorem cmp_isNaN_int_sim {w0 w : World} {s : PHeap} {H : List Res} {a : Int}  {r : Bool} (hm : cmp_isNaN_int_p a = some r) (hS : St w0 s (H) w)  :
  Calls Tryz.prog 85 #[Vi (a)] w fun e w' => ∃ v, e = .returned v ∧ ((fun (c : Bool) => ∃ (b : PHeap) , PHeap.le s b ∧ St w0 b (H) w' ∧ v = Value.bool (c)) r) := by
 unfold cmp_isNaN_int_p at hm
 refine calls_of_W Tryz.func85 rfl rfl (Zc (Zd (Za rfl rfl (Zo (v := Value.bool (false)) rfl rfl (Zb (Ze (Zc (Zd (Za rfl rfl (Zm (v := Vi (a)) rfl rfl (Za rfl rfl (Zm (v := Vi (a)) rfl rfl (Za rfl rfl (Exec.neq rfl rfl rfl (Za rfl rfl (Zo (v := Value.bool (!decide (a = a))) rfl rfl (Zb (Ze (W_ret ?_)))))))))))))))))))
 have d := Zu hm
 subst r
 refine ⟨_, ret1 rfl, ?_⟩
 exact ⟨s, (Zv _), hS, rfl⟩
theorem cmp_Compare_int_sim {w0 w : World} {s : PHeap} {H : List Res} {b : Int} {a : Int}  {r : Int} (hm : cmp_Compare_int_p b a = some r) (hS : St w0 s (H) w)  :
  Calls Tryz.prog 81 #[Vi (b), Vi (a)] w fun e w' => ∃ v, e = .returned v ∧ ((fun (o : Int) => ∃ (m : PHeap) , PHeap.le s m ∧ St w0 m (H) w' ∧ v = Vi (o)) r) := by
 unfold cmp_Compare_int_p at hm
 refine calls_of_W Tryz.func81 rfl rfl (Zc (Zd (Za rfl rfl (Zo (v := Vi (0)) rfl rfl (Zb (Ze (Zc (Zd (Za rfl rfl (Zm (v := Vi (b)) rfl rfl (Za rfl rfl (Tc rfl rfl rfl (Zi rfl args_nil) (cmp_isNaN_int_sim (cmp_isNaN_int_tot b) hS ).r ?_))))))))))))
 rintro _ aa ⟨z, d, n, rfl⟩
 refine Za rfl rfl (Zo (v := Value.bool ((cmp_isNaN_int_t b))) rfl rfl (Zb (Ze (Zc (Zd (Za rfl rfl (Zm (v := Vi (a)) rfl rfl (Za rfl rfl (Tc rfl rfl rfl (Zi rfl args_nil) (cmp_isNaN_int_sim (cmp_isNaN_int_tot a) n ).r ?_)))))))))
 rintro _ ab ⟨g, f, c, rfl⟩
 refine Za rfl rfl (Zo (v := Value.bool ((cmp_isNaN_int_t a))) rfl rfl (Zb (Ze (Zc (Zc (Zd (Za rfl rfl (Zm (v := Value.bool ((cmp_isNaN_int_t b))) rfl rfl (Zb (Ze ?_))))))))))
 rcases ite_some hm with ⟨h, hm⟩ | ⟨h, hm⟩
 ·refine W_cond_t rfl h (Zc (Zc (Zd (Za rfl rfl (Zm (v := Value.bool ((cmp_isNaN_int_t a))) rfl rfl (Zb (Ze ?_)))))))
  rcases ite_some hm with ⟨i, hm⟩ | ⟨i, hm⟩
  ·refine W_cond_t rfl i (Zc (Zd (Za rfl rfl (Zo (v := Vi (0)) rfl rfl (Zb (Ze (W_ret (at_ret (at_ret ?_)))))))))
   have p := Zu hm
   subst r
   refine ⟨_, ret1 rfl, ?_⟩
   exact ⟨g, (Zt d f), c, rfl⟩
  refine W_cond_f rfl i ?_
  replace i := Zk i
  refine W_skip (Ze (Zc (Zd (Za rfl rfl (Zo (v := Vi ((-1))) rfl rfl (Zb (Ze (W_ret (at_ret ?_)))))))))
  have q := Zu hm
  subst r
  refine ⟨_, ret1 rfl, ?_⟩
  exact ⟨g, (Zt d f), c, rfl⟩
 refine W_cond_f rfl h ?_
 replace h := Zk h
 refine W_skip (Ze (Zc (Zc (Zd (Za rfl rfl (Zm (v := Value.bool ((cmp_isNaN_int_t a))) rfl rfl (Zb (Ze ?_))))))))
 rcases ite_some hm with ⟨j, hm⟩ | ⟨j, hm⟩
 ·refine W_cond_t rfl j (Zc (Zd (Za rfl rfl (Zo (v := Vi (1)) rfl rfl (Zb (Ze (W_ret (at_ret ?_))))))))
  have t := Zu hm
  subst r
  refine ⟨_, ret1 rfl, ?_⟩
  exact ⟨g, (Zt d f), c, rfl⟩
 refine W_cond_f rfl j ?_
 replace j := Zk j
 refine W_skip (Ze (Zc (Zc (Zd (Za rfl rfl (Zm (v := Vi (b)) rfl rfl (Za rfl rfl (Zm (v := Vi (a)) rfl rfl (Za rfl rfl (Zq rfl rfl rfl (Zb (Ze ?_))))))))))))
 rcases ite_some hm with ⟨k, hm⟩ | ⟨k, hm⟩
 ·refine W_cond_t rfl k (Zc (Zd (Za rfl rfl (Zo (v := Vi ((-1))) rfl rfl (Zb (Ze (W_ret (at_ret ?_))))))))
  have u := Zu hm
  subst r
  refine ⟨_, ret1 rfl, ?_⟩
  exact ⟨g, (Zt d f), c, rfl⟩
 refine W_cond_f rfl k ?_
 replace k := Zk k
 refine W_skip (Ze (Zc (Zc (Zd (Za rfl rfl (Zm (v := Vi (b)) rfl rfl (Za rfl rfl (Zm (v := Vi (a)) rfl rfl (Za rfl rfl (Exec.gtr rfl rfl rfl (Zb (Ze ?_))))))))))))
 rcases ite_some hm with ⟨l, hm⟩ | ⟨l, hm⟩
 ·refine W_cond_t rfl l (Zc (Zd (Za rfl rfl (Zo (v := Vi (1)) rfl rfl (Zb (Ze (W_ret (at_ret ?_))))))))
  have x := Zu hm
  subst r
  refine ⟨_, ret1 rfl, ?_⟩
  exact ⟨g, (Zt d f), c, rfl⟩
 refine W_cond_f rfl l ?_
 replace l := Zk l
 refine W_skip (Ze (Zc (Zd (Za rfl rfl (Zo (v := Vi (0)) rfl rfl (Zb (Ze (W_ret ?_))))))))
 have y := Zu hm
 subst r
 refine ⟨_, ret1 rfl, ?_⟩
 exact ⟨g, (Zt d f), c, rfl⟩
theorem slices_Compare_int_sim {w0 w : World} {s : PHeap} {H : List Res} {t : (List Int)} {ak : (List Int)} {b : Value} {c : Value} {r : Int} (hm : slices_Compare_int_p t ak = some r) (hS : St w0 s (H) w) (o : SliceRep (encInt .i64) s b t) (x : SliceRep (encInt .i64) s c ak) :
  Calls Tryz.prog 53 #[b, c] w fun e w' => ∃ v, e = .returned v ∧ ((fun (aJ : Int) => ∃ (al : PHeap) , PHeap.le s al ∧ St w0 al (H) w' ∧ v = Vi (aJ)) r) := by
 unfold slices_Compare_int_p at hm
 refine calls_of_W Tryz.func53 rfl rfl (Zc (Zd (Za rfl rfl (Zo (v := Vi (0)) rfl rfl (Zb (Ze (Zc (Zc (Zd (Za rfl rfl (Zm (v := b) rfl rfl (Za rfl rfl (Zr S24 rfl rfl o (Za rfl rfl (Zm (v := Vi (0)) rfl rfl (Zb (Ze ?_)))))))))))))))))
 obtain ⟨aa, au, ae, a1, az⟩ := ctl_some hm
 refine W_mid (M := fun f' w' => ∃ s', (aa = .next s' ∨ aa = .brk s') ∧ (fun (_ : Unit) => ∃ (am : PHeap) , PHeap.le s am ∧ St w0 am (H) w' ∧ f' 0 = b ∧ f' 1 = c ∧ f' 9 = b ∧ f' 10 = Vi ((t.length : Int))) s') ?_ ?_
 ·refine W_block (W_forC (fun k' s' f' w' => (fun (_ : Unit) => ∃ (an : PHeap) , PHeap.le s an ∧ St w0 an (H) w' ∧ f' 0 = b ∧ f' 1 = c ∧ f' 9 = b ∧ f' 10 = Vi ((t.length : Int)) ∧ f' 11 = Vi (k' : Int)) s') au ?_ ?_ ?_)
  ·exact ⟨s, (Zv _), hS, rfl, rfl, rfl, rfl, rfl⟩
  ·intro n ba y aT bf a0 av a af
   obtain ⟨aG, i, p, a6, z, ah, ai, u⟩ := av
   refine Zc (Zd (Za rfl rfl (Zq rfl u ai (Zb (Ze (Zc (W_true (Zx (decide_eq_true (by omega))) (W_skip (Ze (Zc (W_block (Zc (Zd (Za rfl rfl (Zm (v := Vi ((n : Int))) rfl u ?_)))))))))))))))
   obtain ⟨d, aC, a⟩ := Zg a
   refine Za rfl rfl (Exec.index_rep S24 rfl ah u (o.mono i) aC ?_)
   intro aK aW aq
   refine Za rfl rfl (Zw (E := (encInt .i64)) p A3 rfl rfl rfl aq ?_)
   intro bd aD
   obtain rfl := encInt_val.1 aD
   refine Za rfl rfl (Zo (v := Vi ((n : Int))) rfl rfl (Za rfl rfl (Zo (v := Vi (d)) rfl rfl (Zb (Ze (Zc (Zc (Zd (Za rfl rfl (Zm (v := Vi ((n : Int))) rfl rfl (Za rfl rfl (Zm (v := c) rfl z (Za rfl rfl (Zr S24 rfl rfl (x.mono i) (Za rfl rfl (Exec.geq rfl rfl rfl (Zb (Ze ?_))))))))))))))))))
   rcases ite_some a with ⟨j, a⟩ | ⟨j, a⟩
   ·refine W_cond_t rfl j (Zc (Zd (Za rfl rfl (Zo (v := Vi (1)) rfl rfl (Zb (Ze (W_ret (at_ret (ib_ret (at_ret (at_ret (ib_ret (at_ret (at_ret ?_))))))))))))))
    have aM := Zu a
    subst y
    have a2 := ae _ (af (by intro _ h; cases h))
    have aN := Zu a2
    subst r
    refine ⟨_, ret1 rfl, ?_⟩
    exact ⟨aG, i, p, rfl⟩
   refine W_cond_f rfl j ?_
   replace j := Zk j
   refine W_skip (Ze (Zc (Zd (Za rfl rfl (Zm (v := c) rfl z (Za rfl rfl (Zm (v := Vi ((n : Int))) rfl rfl ?_)))))))
   obtain ⟨g, aE, a⟩ := Zg a
   refine Za rfl rfl (Exec.index_rep S24 rfl rfl rfl (x.mono i) aE ?_)
   intro aL aX ar
   refine Za rfl rfl (Zw (E := (encInt .i64)) p A3 rfl rfl rfl ar ?_)
   intro be aF
   obtain rfl := encInt_val.1 aF
   refine Za rfl rfl (Zo (v := Vi (g)) rfl rfl (Zb (Ze (Zc (Zd (Za rfl rfl (Zm (v := Vi (d)) rfl rfl (Za rfl rfl (Zm (v := Vi (g)) rfl rfl (Za rfl rfl (Tc rfl rfl rfl (Zi rfl (Zi rfl args_nil)) (cmp_Compare_int_sim (cmp_Compare_int_tot d g) p ).r ?_)))))))))))
   rintro _ bg ⟨ao, ag, ab, rfl⟩
   refine Za rfl rfl (Zo (v := Vi ((cmp_Compare_int_t d g))) rfl rfl (Zb (Ze (Zc (Zd (Za rfl rfl (Zm (v := Vi ((cmp_Compare_int_t d g))) rfl rfl (Za rfl rfl (Exec.neq rfl rfl rfl (Zb (Ze ?_)))))))))))
   rcases ite_some a with ⟨l, a⟩ | ⟨l, a⟩
   ·refine W_cond_t rfl l (Zc (Zd (Za rfl rfl (Zm (v := Vi ((cmp_Compare_int_t d g))) rfl rfl (Za rfl rfl (Zo (v := Vi ((cmp_Compare_int_t d g))) rfl rfl (Zb (Ze (W_ret (ib_ret (at_ret (at_ret (ib_ret (at_ret (at_ret ?_)))))))))))))))
    have aO := Zu a
    subst y
    have a3 := ae _ (af (by intro _ h; cases h))
    have aP := Zu a3
    subst r
    refine ⟨_, ret1 rfl, ?_⟩
    exact ⟨ao, (Zt i ag), ab, rfl⟩
   refine W_cond_f rfl l ?_
   replace l := Zk l
   refine W_skip (ib_normal (Ze (Zd (Za rfl rfl (Exec.add rfl u rfl (Za rfl rfl (Zm (v := Vi (IntKind.i64.wrap ((n : Int) + 1))) rfl rfl (Zb (Ze ?_)))))))))
   have aQ := Zu a
   subst y
   refine ⟨_, rfl, ?_⟩; exact ⟨ao, (Zt i ag), ab, a6, z, ah, ai, (Eq.trans rfl (wrap_up a0 (SliceRep.le o)))⟩
  intro bb aU bh aw a4
  obtain ⟨aH, a5, ay, a7, a8, a9, aj, aI⟩ := aw
  refine Zc (Zd (Za rfl rfl (Zq rfl aI aj (Zb (Ze (Zc (W_false (Zx (decide_eq_false (by omega))) (W_exit (at_exit (at_exit (ib_here (Ze ?_))))))))))))
  refine ⟨_, .inl a4, ?_⟩; exact ⟨aH, a5, ay, a7, a8, a9, aj⟩
 rintro aV bi ⟨bc, ad, ax⟩
 have hm := ad.elim (a1 _) (az _)
 clear ad
 obtain ⟨ap, q, ac, aA, aB, aY, aZ⟩ := ax
 refine (Ze (Zc (Zc (Zd (Za rfl rfl (Zm (v := b) rfl aA (Za rfl rfl (Zr S24 rfl rfl (o.mono q) (Za rfl rfl (Zm (v := c) rfl aB (Za rfl rfl (Zr S24 rfl rfl (x.mono q) (Za rfl rfl (Zq rfl rfl rfl (Zb (Ze ?_))))))))))))))))
 rcases ite_some hm with ⟨m, hm⟩ | ⟨m, hm⟩
 ·refine W_cond_t rfl m (Zc (Zd (Za rfl rfl (Zo (v := Vi ((-1))) rfl rfl (Zb (Ze (W_ret (at_ret ?_))))))))
  have aR := Zu hm
  subst r
  refine ⟨_, ret1 rfl, ?_⟩
  exact ⟨ap, q, ac, rfl⟩
 refine W_cond_f rfl m ?_
 replace m := Zk m
 refine W_skip (Ze (Zc (Zd (Za rfl rfl (Zo (v := Vi (0)) rfl rfl (Zb (Ze (W_ret ?_))))))))
 have aS := Zu hm
 subst r
 refine ⟨_, ret1 rfl, ?_⟩
 exact ⟨ap, q, ac, rfl⟩
end Go.Pw
