/-
  The walks (printed by my generator).
-/
import Derived.Test.YtcabhickgjhkhaaGreatDoorL29
import Derived.Test.YtcabhickgjhkhaaGreatDoorL27
import Derived.Test.YtcabhickgjhkhaaGreatDoorIs5
import Derived.Test.YtcabhickgjhkhaaGreatDoorIsX
set_option maxRecDepth 100000
set_option maxHeartbeats 4000000
set_option linter.unusedVariables false
namespace Go.Pw
open Go.Proofs
theorem N55 : (Tryz.f55.name == "runtime.NumGoroutine") = false := by kernel_rfl
theorem slices_Equal_int_sim {w0 w : World} {s : PHeap} {H : List Res} {n : (List Int)} {ab : (List Int)} {b : Value} {c : Value} {r : Bool} (hm : slices_Equal_int_p n ab = some r) (hS : St w0 s (H) w) (j : SliceRep (encInt .i64) s b n) (p : SliceRep (encInt .i64) s c ab) :
  Calls Tryz.prog 55 #[b, c] w fun e w' => ∃ v, e = .returned v ∧ ((fun (a8 : Bool) => ∃ (ac : PHeap) , PHeap.le s ac ∧ St w0 ac (H) w' ∧ v = Value.bool (a8)) r) := by
 unfold slices_Equal_int_p at hm
 refine calls_of_W Tryz.func55 rfl rfl (Zc (Zd (Za rfl rfl (Zo (v := Value.bool (false)) rfl rfl (Zb (Ze (Zc (Zc (Zd (Za rfl rfl (Zm (v := b) rfl rfl (Za rfl rfl (Zr S24 rfl rfl j (Za rfl rfl (Zm (v := c) rfl rfl (Za rfl rfl (Zr S24 rfl rfl p (Za rfl rfl (Exec.neq rfl rfl rfl (Zb (Ze ?_)))))))))))))))))))))
 rcases ite_some hm with ⟨d, hm⟩ | ⟨d, hm⟩
 ·refine W_cond_t rfl d (Zc (Zd (Za rfl rfl (Zo (v := Value.bool (false)) rfl rfl (Zb (Ze (W_ret (at_ret ?_))))))))
  have aB := Zu hm
  subst r
  refine ⟨_, ret1 rfl, ?_⟩
  exact ⟨s, (Zv _), hS, rfl⟩
 refine W_cond_f rfl d ?_
 replace d := Zk d
 refine W_skip (Ze (Zc (Zc (Zd (Za rfl rfl (Zm (v := b) rfl rfl (Za rfl rfl (Zr S24 rfl rfl j (Za rfl rfl (Zm (v := Vi (0)) rfl rfl (Zb (Ze ?_))))))))))))
 obtain ⟨q, ai, au, aq, ao⟩ := ctl_some hm
 refine W_mid (M := fun f' w' => ∃ s', (q = .next s' ∨ q = .brk s') ∧ (fun (_ : Unit) => ∃ (ad : PHeap) , PHeap.le s ad ∧ St w0 ad (H) w' ∧ f' 0 = b ∧ f' 1 = c ∧ f' 12 = Vi ((n.length : Int))) s') ?_ ?_
 ·refine W_block (W_forC (fun k' s' f' w' => (fun (_ : Unit) => ∃ (ae : PHeap) , PHeap.le s ae ∧ St w0 ae (H) w' ∧ f' 0 = b ∧ f' 1 = c ∧ f' 12 = Vi ((n.length : Int)) ∧ f' 13 = Vi (k' : Int)) s') ai ?_ ?_ ?_)
  ·exact ⟨s, (Zv _), hS, rfl, rfl, rfl, rfl⟩
  ·intro i aQ t aI aV ap aj a av
   obtain ⟨af, m, l, x, y, z, o⟩ := aj
   refine Zc (Zd (Za rfl rfl (Zq rfl o z (Zb (Ze (Zc (W_true (Zx (decide_eq_true (by omega))) (W_skip (Ze (Zc (W_block (Zc (Zd (Za rfl rfl (Zm (v := Vi ((i : Int))) rfl o (Za rfl rfl (Zo (v := Vi ((i : Int))) rfl rfl (Zb (Ze (Zc (W_dl (n0 := 9) (qs 0 9 .done) hmix (by kernel_rfl) (by kernel_rfl) (DL_q rfl rfl (Zm (v := b) rfl x ⟨rfl, ?_⟩)))))))))))))))))))))))
   refine DL_q rfl rfl (Zm (v := Vi ((i : Int))) rfl rfl ⟨rfl, ?_⟩)
   obtain ⟨aY, a1, a⟩ := Zg a
   refine DL_q rfl rfl (Exec.index_repE S24 rfl rfl rfl (j.mono m) a1 ?_)
   intro a9 aL ag aC
   refine ⟨rfl, ?_⟩
   refine DL_q rfl rfl (Zw (E := (encInt .i64)) l.drew A3 rfl rfl rfl ag ?_)
   intro aT a2
   obtain rfl := encInt_val.1 a2
   refine ⟨rfl, ?_⟩
   refine DL_q rfl rfl (Zm (v := c) rfl y ⟨rfl, ?_⟩)
   refine DL_q rfl rfl (Zm (v := Vi ((i : Int))) rfl rfl ⟨rfl, ?_⟩)
   obtain ⟨aZ, a3, a⟩ := Zg a
   refine DL_q rfl rfl (Exec.index_repE S24 rfl rfl rfl (p.mono m) a3 ?_)
   intro aA aM ah aD
   refine ⟨rfl, ?_⟩
   refine DL_q rfl rfl (Zw (E := (encInt .i64)) l.drew A3 rfl rfl rfl ah ?_)
   intro aU a4
   obtain rfl := encInt_val.1 a4
   refine ⟨rfl, ?_⟩
   refine DL_q rfl rfl (Exec.neq rfl rfl rfl ⟨rfl, ?_⟩)
   refine DL_done (Zb (Ze ?_))
   rcases ite_some a with ⟨g, a⟩ | ⟨g, a⟩
   ·refine W_cond_t rfl g (Zc (Zd (Za rfl rfl (Zo (v := Value.bool (false)) rfl rfl (Zb (Ze (W_ret (ib_ret (at_ret (at_ret (ib_ret (at_ret (at_ret ?_)))))))))))))
    have aE := Zu a
    subst t
    have ar := au _ (av (by intro _ h; cases h))
    have aF := Zu ar
    subst r
    refine ⟨_, ret1 rfl, ?_⟩
    exact ⟨af, m, l.drew, rfl⟩
   refine W_cond_f rfl g ?_
   replace g := Zk g
   refine W_skip (ib_normal (Ze (Zd (Za rfl rfl (Exec.add rfl o rfl (Za rfl rfl (Zm (v := Vi (IntKind.i64.wrap ((i : Int) + 1))) rfl rfl (Zb (Ze ?_)))))))))
   have aG := Zu a
   subst t
   refine ⟨_, rfl, ?_⟩; exact ⟨af, m, l.drew, x, y, z, (Eq.trans rfl (wrap_up ap (SliceRep.le j)))⟩
  intro aR aJ aW ak aw
  obtain ⟨a5, ax, am, az, a0, aa, a7⟩ := ak
  refine Zc (Zd (Za rfl rfl (Zq rfl a7 aa (Zb (Ze (Zc (W_false (Zx (decide_eq_false (by omega))) (W_exit (at_exit (at_exit (ib_here (Ze ?_))))))))))))
  refine ⟨_, .inl aw, ?_⟩; exact ⟨a5, ax, am, az, a0, aa⟩
 rintro aK aX ⟨aS, u, al⟩
 have hm := u.elim (aq _) (ao _)
 clear u
 obtain ⟨a6, ay, an, aN, aO, aP⟩ := al
 refine (Ze (Zc (Zd (Za rfl rfl (Zo (v := Value.bool (true)) rfl rfl (Zb (Ze (W_ret ?_))))))))
 have aH := Zu hm
 subst r
 refine ⟨_, ret1 rfl, ?_⟩
 exact ⟨a6, ay, an, rfl⟩
theorem slices_CompactFunc_int_o_Equal_sim {w0 w : World} {s : PHeap} {H : List Res} {aq : (List (List Int))} {a : Value} {r : Nat × (List (List Int))} (hm : slices_CompactFunc_int_o_Equal_p aq = some r) (hS : St w0 s (Res.arr (encSlice (encInt .i64)) 24 a aq :: H) w)  :
  Calls Tryz.prog 54 #[a, Value.func (.func 55) #[] #[]] w fun e w' => ∃ v, e = .returned v ∧ ((un2 fun (bR : Nat) (bp : (List (List Int))) => ∃ (aP : PHeap) (aV : Value), PHeap.le s aP ∧ St w0 aP (Res.arr (encSlice (encInt .i64)) 24 a bp :: H) w' ∧ v = aV ∧ SubOf 1 a aV 0 bR) r) := by
 unfold slices_CompactFunc_int_o_Equal_p at hm
 refine calls_of_W Tryz.func54 rfl rfl (Zc (Zd (Za rfl rfl (Zo (v := Value.slice none 0 0) rfl rfl (Zb (Ze (Zc (Zc (Zd (Za rfl rfl (Zm (v := a) rfl rfl (Za rfl rfl (Exec.len_arr (hS) S36 rfl rfl (Za rfl rfl (Zq rfl rfl rfl (Zb (Ze ?_)))))))))))))))))
 rcases ite_some hm with ⟨u, hm⟩ | ⟨u, hm⟩
 ·refine W_cond_t rfl u (Zc (Zd (Za rfl rfl (Zm (v := a) rfl rfl (Za rfl rfl (Zo (v := a) rfl rfl (Zb (Ze (W_ret (at_ret ?_))))))))))
  have bY := Zu hm
  subst r
  refine ⟨_, ret1 rfl, ?_⟩
  exact ⟨s, a, (Zv _), hS, rfl, (Or.inl ⟨rfl, rfl, (hS).arr_shape⟩)⟩
 refine W_cond_f rfl u ?_
 replace u := Zk u
 refine W_skip (Ze (Zc (Zc (Zd (Za rfl rfl (Zo (v := Vi (1)) rfl rfl (Zb (Ze ?_))))))))
 obtain ⟨az, aZ, bn, bk, bi⟩ := ctl_some hm
 refine W_mid (M := fun f' w' => ∃ s', (az = .next s' ∨ az = .brk s') ∧ (fun (aE : Int) => ∃ (aQ : PHeap) , PHeap.le s aQ ∧ St w0 aQ (Res.arr (encSlice (encInt .i64)) 24 a aq :: H) w' ∧ f' 0 = a ∧ f' 1 = Value.func (.func 55) #[] #[] ∧ f' 5 = Vi (aE)) s') ?_ ?_
 ·refine W_block (W_while (fun s' f' w' => (fun (i : Int) => ∃ (aR : PHeap) , PHeap.le s aR ∧ St w0 aR (Res.arr (encSlice (encInt .i64)) 24 a aq :: H) w' ∧ f' 0 = a ∧ f' 1 = Value.func (.func 55) #[] #[] ∧ f' 5 = Vi (i)) s') aZ ?_ ?_)
  ·exact ⟨s, (Zv _), hS, rfl, rfl, rfl⟩
  intro i au ci c9 bb b aD
  obtain ⟨bF, aw, k, l, af, m⟩ := bb
  refine Zc (Zc (Zd (Za rfl rfl (Zm (v := Vi (i)) rfl m (Za rfl rfl (Zm (v := a) rfl l (Za rfl rfl (Exec.len_arr (k) S36 rfl rfl (Za rfl rfl (Zq rfl rfl rfl (Zb (Ze ?_))))))))))))
  rcases ite_some b with ⟨x, b⟩ | ⟨x, b⟩
  ·refine W_cond_t rfl x (W_skip (Ze (Zc (W_block (Zc (W_dl (n0 := 11) (qs 0 10 (.e 10 [] .done)) hmix (by kernel_rfl) (by kernel_rfl) (DL_q rfl rfl (Zm (v := Value.func (.func 55) #[] #[]) rfl af ⟨rfl, ?_⟩))))))))
   refine DL_q rfl rfl (Zm (v := a) rfl l ⟨rfl, ?_⟩)
   refine DL_q rfl rfl (Zm (v := Vi (i)) rfl m ⟨rfl, ?_⟩)
   obtain ⟨bM, aj, b⟩ := Zg b
   obtain ⟨cn, bS, a2⟩ := (k.drew).arr_at aj
   refine DL_q rfl rfl (Exec.index_slice S36 rfl a2 rfl (idx_some aj).1 (idx_some aj).2.1 ⟨rfl, ?_⟩)
   refine DL_q rfl rfl (Exec.load_arr (F := (encSlice (encInt .i64))) (k.drew) a2 A24 rfl rfl rfl aj (Sub.refl _) ?_)
   intro c3 b1
   have bA : SliceRep _ _ _ (bM) := encSlice_val.1 b1
   refine ⟨rfl, ?_⟩
   refine DL_q rfl rfl (Zm (v := a) rfl l ⟨rfl, ?_⟩)
   refine DL_q rfl rfl (Zm (v := Vi (i)) rfl m ⟨rfl, ?_⟩)
   refine DL_q rfl rfl (Exec.sub rfl rfl rfl ⟨rfl, ?_⟩)
   obtain ⟨bN, ak, b⟩ := Zg b
   obtain ⟨co, bT, a3⟩ := (k.drew).arr_at ak
   refine DL_q rfl rfl (Exec.index_slice S36 rfl a3 rfl (idx_some ak).1 (idx_some ak).2.1 ⟨rfl, ?_⟩)
   refine DL_q rfl rfl (Exec.load_arr (F := (encSlice (encInt .i64))) (k.drew) a3 A24 rfl rfl rfl ak (Sub.refl _) ?_)
   intro c4 b2
   have bB : SliceRep _ _ _ (bN) := encSlice_val.1 b2
   refine ⟨rfl, ?_⟩
   obtain ⟨cJ, b3, b⟩ := Zg b
   refine DL_e rfl rfl (Exec.callf rfl rfl Tryz.func55 rfl N55 (Zi rfl (Zi rfl args_nil)) ((slices_Equal_int_sim b3 k.drew bA bB).mono ?_))
   rintro _ cA ⟨_, rfl, ⟨ap, aH, av, rfl⟩⟩
   refine ⟨_, rfl, ?_⟩
   refine ⟨ag_nil, ?_⟩
   refine DL_done (Zb (Ze ?_))
   rcases ite_some b with ⟨z, b⟩ | ⟨z, b⟩
   ·refine W_cond_t rfl z (Zc (Zd (Za rfl rfl (Zm (v := a) rfl l (Za rfl rfl (Zm (v := Vi (i)) rfl m ?_))))))
    obtain ⟨cv, al, b⟩ := Zg b
    refine Za rfl rfl (Exec.sub_from (av) S36 rfl rfl rfl al ?_)
    intro j ad
    refine Za rfl rfl (Zo (v := j) rfl rfl (Zb (Ze (Zc (Zc (Zd (Za rfl rfl (Zo (v := Vi (1)) rfl rfl (Zb (Ze ?_))))))))))
    obtain ⟨a0, ba, ct, bl, bj⟩ := ctl_some b
    refine W_mid (M := fun f' w' => ∃ s', (a0 = .next s' ∨ a0 = .brk s') ∧ (un3 fun (ae : Int) (aF : Int) (aI : (List (List Int))) => ∃ (aS : PHeap) , PHeap.le ap aS ∧ St w0 aS (Res.arr (encSlice (encInt .i64)) 24 a aI :: H) w' ∧ f' 0 = a ∧ f' 1 = Value.func (.func 55) #[] #[] ∧ f' 5 = Vi (ae) ∧ f' 6 = j ∧ f' 7 = Vi (aF)) s') ?_ ?_
    ·refine W_block (W_while (fun s' f' w' => (un3 fun (ac : Int) (g : Int) (aJ : (List (List Int))) => ∃ (aT : PHeap) , PHeap.le ap aT ∧ St w0 aT (Res.arr (encSlice (encInt .i64)) 24 a aJ :: H) w' ∧ f' 0 = a ∧ f' 1 = Value.func (.func 55) #[] #[] ∧ f' 5 = Vi (ac) ∧ f' 6 = j ∧ f' 7 = Vi (g)) s') ba ?_ ?_)
     ·exact ⟨ap, (Zv _), av, l, af, m, rfl, rfl⟩
     intro bK a1 cj cB bc c bo
     obtain ⟨ac, g, aJ⟩ := bK
     replace c := un3_eq c
     obtain ⟨bG, aK, p, ag, ah, ai, n, o⟩ := bc
     refine Zc (Zc (Zd (Za rfl rfl (Zm (v := Vi (g)) rfl o (Za rfl rfl (Zm (v := j) rfl n (Za rfl rfl (Exec.len_sub S36 ad rfl rfl (Za rfl rfl (Zq rfl rfl rfl (Zb (Ze ?_))))))))))))
     rcases ite_some c with ⟨aa, c⟩ | ⟨aa, c⟩
     ·refine W_cond_t rfl aa (W_skip (Ze (Zc (W_block (Zc (W_dl (n0 := 12) (qs 0 10 (.e 10 [] (.q 11 .done))) hmix (by kernel_rfl) (by kernel_rfl) (DL_q rfl rfl (Zm (v := Value.func (.func 55) #[] #[]) rfl ah ⟨rfl, ?_⟩))))))))
      refine DL_q rfl rfl (Zm (v := j) rfl n ⟨rfl, ?_⟩)
      refine DL_q rfl rfl (Zm (v := Vi (g)) rfl o ⟨rfl, ?_⟩)
      obtain ⟨bO, am, c⟩ := Zg c
      obtain ⟨cp, bU, a4⟩ := (p.drew).arr_at (idxV_some am).2.2
      refine DL_q rfl rfl (Exec.index_sub S36 (view_some al).1 ad a4 rfl rfl rfl (idxV_some am).1 (idxV_some am).2.1 ⟨rfl, ?_⟩)
      refine DL_q rfl rfl (Exec.load_arr (F := (encSlice (encInt .i64))) (p.drew) a4 A24 rfl rfl rfl (idxV_some am).2.2 (Sub.refl _) ?_)
      intro c5 b4
      have bC : SliceRep _ _ _ (bO) := encSlice_val.1 b4
      refine ⟨rfl, ?_⟩
      refine DL_q rfl rfl (Zm (v := j) rfl n ⟨rfl, ?_⟩)
      refine DL_q rfl rfl (Zm (v := Vi (g)) rfl o ⟨rfl, ?_⟩)
      refine DL_q rfl rfl (Exec.sub rfl rfl rfl ⟨rfl, ?_⟩)
      obtain ⟨bP, an, c⟩ := Zg c
      obtain ⟨cq, bV, a5⟩ := (p.drew).arr_at (idxV_some an).2.2
      refine DL_q rfl rfl (Exec.index_sub S36 (view_some al).1 ad a5 rfl rfl rfl (idxV_some an).1 (idxV_some an).2.1 ⟨rfl, ?_⟩)
      refine DL_q rfl rfl (Exec.load_arr (F := (encSlice (encInt .i64))) (p.drew) a5 A24 rfl rfl rfl (idxV_some an).2.2 (Sub.refl _) ?_)
      intro c6 b5
      have bD : SliceRep _ _ _ (bP) := encSlice_val.1 b5
      refine ⟨rfl, ?_⟩
      obtain ⟨cK, b6, c⟩ := Zg c
      refine DL_e rfl rfl (Exec.callf rfl rfl Tryz.func55 rfl N55 (Zi rfl (Zi rfl args_nil)) ((slices_Equal_int_sim b6 p.drew bC bD).mono ?_))
      rintro _ cC ⟨_, rfl, ⟨ay, bq, t, rfl⟩⟩
      refine ⟨_, rfl, ?_⟩
      refine ⟨ag_nil, ?_⟩
      refine DL_q rfl rfl (Exec.not rfl rfl ⟨rfl, ?_⟩)
      refine DL_done (Zb (Ze ?_))
      obtain ⟨ar, d, c⟩ := Zg c
      refine W_mid (M := fun f' w' => (un2 fun (aG : Int) (aL : (List (List Int))) => ∃ (aU : PHeap) , PHeap.le ay aU ∧ St w0 aU (Res.arr (encSlice (encInt .i64)) 24 a aL :: H) w' ∧ f' 0 = a ∧ f' 1 = Value.func (.func 55) #[] #[] ∧ f' 5 = Vi (aG) ∧ f' 6 = j ∧ f' 7 = Vi (g)) ar) ?_ ?_
      ·rcases ite_some d with ⟨ab, d⟩ | ⟨ab, d⟩
       ·refine W_cond_t rfl ab (Zc (Zd (Za rfl rfl (Zm (v := a) rfl ag (Za rfl rfl (Zm (v := Vi (ac)) rfl ai (Za rfl rfl (Zm (v := j) rfl n (Za rfl rfl (Zm (v := Vi (g)) rfl o ?_))))))))))
        obtain ⟨bQ, ao, d⟩ := Zg d
        obtain ⟨cr, bW, a6⟩ := (t).arr_at (idxV_some ao).2.2
        refine Za rfl rfl (Exec.index_sub S36 (view_some al).1 ad a6 rfl rfl rfl (idxV_some ao).1 (idxV_some ao).2.1 (Za rfl rfl (Exec.load_arr (F := (encSlice (encInt .i64))) (t) a6 A24 rfl rfl rfl (idxV_some ao).2.2 (Sub.refl _) ?_)))
        intro c7 b7
        have bE : SliceRep _ _ _ (bQ) := encSlice_val.1 b7
        obtain ⟨cI, ax, d⟩ := Zg d
        obtain ⟨cs, bX, a7⟩ := (t).arr_at ax
        refine Za rfl rfl (Exec.index_slice S36 rfl a7 rfl (idx_some ax).1 (idx_some ax).2.1 ?_)
        obtain ⟨cu, b8, d⟩ := Zg d
        refine Za rfl rfl (Exec.store_arr t a7 A24 rfl rfl rfl rfl (encSlice_val.2 bE) b8 ?_)
        intro cD bg
        refine Zb (Ze (Zd (Za rfl rfl (Zm (v := Vi (ac)) rfl ai (Za rfl rfl (Exec.add rfl rfl rfl (Za rfl rfl (Zo (v := Vi (IntKind.i64.wrap (ac + 1))) rfl rfl (Zb (Ze ?_))))))))))
        have bZ := Zu d
        subst ar
        exact ⟨ay, (Zv _), bg, ag, ah, rfl, n, o⟩
       refine W_cond_f rfl ab ?_
       replace ab := Zk ab
       refine W_skip (Ze ?_)
       have ca := Zu d
       subst ar
       exact ⟨ay, (Zv _), t, ag, ah, ai, n, o⟩
      intro ck cE bd
      obtain ⟨aG, aL⟩ := ar
      replace c := un2_eq c
      obtain ⟨bH, br, bh, bu, bv, bw, bx, bz⟩ := bd
      refine (ib_normal (Ze (Zd (Za rfl rfl (Zm (v := Vi (g)) rfl bz (Za rfl rfl (Exec.add rfl rfl rfl (Za rfl rfl (Zo (v := Vi (IntKind.i64.wrap (g + 1))) rfl rfl (Zb (Ze ?_)))))))))))
      have cb := Zu c
      subst a1
      refine ⟨_, rfl, ?_⟩; exact ⟨bH, (Zt (Zt aK bq) br), bh, bu, bv, bw, bx, rfl⟩
     refine W_cond_f rfl aa ?_
     replace aa := Zk aa
     refine W_exit (at_exit (at_exit (ib_here (Ze ?_))))
     have cc := Zu c
     subst a1
     refine ⟨_, .inr (bo (by intro _ h; cases h)), ?_⟩; exact ⟨bG, aK, p, ag, ah, ai, n, o⟩
    rintro cl cF ⟨bL, aB, be⟩
    have b := aB.elim (bl _) (bj _)
    clear aB
    obtain ⟨ae, aF, aI⟩ := bL
    replace b := un3_eq b
    obtain ⟨bI, bs, a8, aM, cy, aN, cz, c0⟩ := be
    refine (Ze (Zc (Zd (Za rfl rfl (Zm (v := a) rfl aM (Za rfl rfl (Zm (v := Vi (ae)) rfl aN ?_)))))))
    obtain ⟨cw, aO, b⟩ := Zg b
    refine Za rfl rfl (Exec.sub_from (a8) S36 rfl rfl rfl aO ?_)
    intro c8 aX
    refine Za rfl rfl (Exec.clear_sub (E := (encSlice (encInt .i64))) (y := []) a8 aX (view_some aO).2.2.2.2.2 S36 Z24 ⟨_, rfl, (SliceRep.nil _ _)⟩ rfl rfl ?_)
    intro cG a9
    refine Zb (Ze (Zc (Zd (Za rfl rfl (Zm (v := a) rfl aM (Za rfl rfl (Zm (v := Vi (ae)) rfl aN ?_)))))))
    obtain ⟨cx, b9, b⟩ := Zg b
    refine Za rfl rfl (Exec.sub_to (a9) S36 rfl rfl rfl b9 ?_)
    intro aW aY
    refine Za rfl rfl (Zo (v := aW) rfl rfl (Zb (Ze (W_ret (ib_ret (at_ret (at_ret (ib_ret (at_ret (at_ret ?_))))))))))
    have cd := Zu b
    subst au
    have bm := bn _ (aD (by intro _ h; cases h))
    have ce := Zu bm
    subst r
    refine ⟨_, ret1 rfl, ?_⟩
    exact ⟨bI, aW, (Zt (Zt aw aH) bs), a9, rfl, aY⟩
   refine W_cond_f rfl z ?_
   replace z := Zk z
   refine W_skip (ib_normal (Ze (Zd (Za rfl rfl (Zm (v := Vi (i)) rfl m (Za rfl rfl (Exec.add rfl rfl rfl (Za rfl rfl (Zo (v := Vi (IntKind.i64.wrap (i + 1))) rfl rfl (Zb (Ze ?_)))))))))))
   have cf := Zu b
   subst au
   refine ⟨_, rfl, ?_⟩; exact ⟨ap, (Zt aw aH), av, l, af, rfl⟩
  refine W_cond_f rfl x ?_
  replace x := Zk x
  refine W_exit (at_exit (at_exit (ib_here (Ze ?_))))
  have cg := Zu b
  subst au
  refine ⟨_, .inr (aD (by intro _ h; cases h)), ?_⟩; exact ⟨bF, aw, k, l, af, m⟩
 rintro cm cH ⟨aE, aC, bf⟩
 have hm := aC.elim (bk _) (bi _)
 clear aC
 obtain ⟨bJ, bt, aA, b0, c1, c2⟩ := bf
 refine (Ze (Zc (Zd (Za rfl rfl (Zm (v := a) rfl b0 (Za rfl rfl (Zo (v := a) rfl rfl (Zb (Ze (W_ret ?_))))))))))
 have ch := Zu hm
 subst r
 refine ⟨_, ret1 rfl, ?_⟩
 exact ⟨bJ, a, bt, aA, rfl, (Or.inl ⟨rfl, rfl, (aA).arr_shape⟩)⟩
theorem invariant_candidates_sim {w0 w : World} {s : PHeap} {H : List Res} {aa : Ground} {ax : Value} {ay : Value} {az : Value} {a0 : Value} {a1 : Value} {r : (List (List Int))} (hm : invariant_candidates_p aa = some r) (hS : St w0 s (H) w) (b4 : SliceRep encAtom s ax aa.Atoms) (b5 : SliceRep encGFluent s ay aa.Fluents) (b6 : SliceRep (encInt .i64) s az aa.Init) (b7 : SliceRep encCond s a0 aa.Goal) (b8 : SliceRep encGOp s a1 aa.Ops) (ht : TabR Tryz.prog w0 s) :
  Calls Tryz.prog 27 #[Value.agg #[ax, ay, az, a0, a1]] w fun e w' => ∃ v, e = .returned v ∧ ((fun (dq : (List (List Int))) => ∃ (aL : PHeap) (bz : Value), PHeap.le s aL ∧ St w0 aL (H) w' ∧ v = bz ∧ SliceRep (encSlice (encInt .i64)) aL bz dq) r) := by
 unfold invariant_candidates_p at hm
 refine calls_of_W Tryz.func27 rfl rfl (Zc (Zd (Za rfl rfl (Exec.box (cs := [ax, ay, az, a0, a1]) hS rfl rfl rfl ?_))))
 intro du eg aS
 refine Za rfl rfl (Zo (v := Value.slice none 0 0) rfl rfl (Zb (Ze (Zc (Zd (Za rfl rfl (Exec.load_box_agg (ds := [ax, ay, az, a0, a1]) (aS) A28 rfl rfl rfl ?_)))))))
 obtain ⟨a4, cF, hm⟩ := Zg hm
 refine Za rfl rfl (Tc rfl rfl rfl (Zi rfl args_nil) (invariant_simples_sim cF aS b4 b5 b6 b7 b8 ht).r ?_)
 rintro m eh ⟨br, _, ci, bJ, rfl, av⟩
 refine Za rfl rfl (Zo (v := m) rfl rfl (Zb (Ze (Zc (Zd (Za rfl rfl (Exec.make_thmap (k := 9) (E := (encInt .i64)) (Te := 3) bJ rfl ?_)))))))
 intro i ei bK
 refine Za rfl rfl (Zo (v := Value.map (some i)) rfl rfl (Zb (Ze (Zc (Zd (Za rfl rfl (Zo (v := Value.slice none 0 0) rfl rfl (Zb (Ze (Zc (Zc (Zd (Za rfl rfl (Zm (v := m) rfl rfl (Za rfl rfl (Zr S89 rfl rfl av (Za rfl rfl (Zm (v := Vi (0)) rfl rfl (Zb (Ze ?_))))))))))))))))))))
 obtain ⟨di, bB, hm⟩ := Zg hm
 refine W_block (W_forS (fun k' s' f' w' => (un2 fun (aB : (List (List Int))) (ab : (List (ByteArray × (List Int)))) => ∃ (bs : PHeap) (n : TMap) (y : Value), PHeap.le br bs ∧ St w0 bs (Res.thmap Tryz.prog 9 (encInt .i64) 3 i n ab :: Res.arr (encSlice (encInt .i64)) 24 y aB :: H) w' ∧ f' 3 = m ∧ f' 4 = Value.map (some i) ∧ f' 5 = y ∧ f' 15 = m ∧ f' 16 = Vi ((a4.length : Int)) ∧ f' 17 = Vi (k' : Int)) s') bB ?_ ?_ ?_)
 ·have bL := bK.nilArr (encSlice (encInt .i64)) 24
  exact ⟨br, ([] : TMap), (Value.slice none 0 0), (Zv _), (((bL).f2).drop).f1, rfl, rfl, rfl, rfl, rfl, rfl⟩
 ·intro j dj dc d6 ej cg bD b
  obtain ⟨aB, ab⟩ := dj
  replace b := un2_eq b
  obtain ⟨dR, n, y, a6, aT, cu, aY, cv, aZ, ba, a3⟩ := bD
  refine Zc (Zd (Za rfl rfl (Zq rfl a3 ba (Zb (Ze (Zc (W_true (Zx (decide_eq_true (by omega))) (W_skip (Ze (Zc (W_block (Zc (Zd (Za rfl rfl (Zm (v := Vi ((j : Int))) rfl a3 ?_)))))))))))))))
  obtain ⟨a, cG, b⟩ := Zg b
  refine Za rfl rfl (Exec.index_rep S89 rfl aZ a3 (av.mono a6) cG ?_)
  intro dv dL b9
  refine Za rfl rfl (Zw (E := encinvariant_simple) aT A93 rfl rfl rfl b9 ?_)
  intro ec cH
  obtain ⟨ah, rfl, aJ⟩ := encinvariant_simple_val.1 cH
  refine Za rfl rfl (Exec.alloc (cs := [Value.slice none 0 0, Value.string (⟨#[]⟩), Value.string (⟨#[]⟩), Value.bool (false)]) aT Z93 rfl rfl ?_)
  intro z ek bM
  refine Za rfl rfl (Zo (v := Vi ((j : Int))) rfl rfl (Za rfl rfl (Exec.store_box (ds := [ah, Value.string (a.name), Value.string (a.rest), Value.bool (a.position)]) (es := [ah, Value.string (a.name), Value.string (a.rest), Value.bool (a.position)]) bM A93 rfl rfl rfl rfl (Zj (aJ).one (Zj rfl (Zj rfl (Zj rfl one_nil)))) (Nat.le_of_ble_eq_true rfl) rfl ?_)))
  intro el aU
  refine Zb (Ze (Zc (Zd (Za rfl rfl (Zm (v := y) rfl cv (Za rfl rfl (Zp F93_0 rfl rfl rfl (Za rfl rfl (Zn (aU) A24 rfl rfl rfl ?_)))))))))
  obtain ⟨dr, cI, b⟩ := Zg b
  refine Za rfl rfl (Tc rfl rfl rfl (Zi rfl args_nil) (slices_Clone_int_sim cI aU aJ).r ?_)
  rintro aN em ⟨dS, _, a7, bN, rfl⟩
  obtain ⟨bt, a8, bO, bo⟩ := bN.freezeArr
  refine Za rfl rfl (Exec.buildSlice (Te := 24) (cs := [aN]) bO rfl (parts_cons (c := [aN]) (cells_of rfl (cells_one (bo).one)) parts_nil) (fun _ => by kernel_rfl) ?_)
  intro dw en bP
  obtain ⟨dD, cJ, b⟩ := Zg b
  refine Za rfl rfl (Exec.append_box (E := (encSlice (encInt .i64))) (ys := [dr]) (bP).f3 S36 Z24 rfl (by decide) rfl rfl rfl rfl ⟨[aN], [], rfl, ⟨_, rfl, bo⟩, rfl⟩ rfl cJ ?_)
  intro b0 eo aj
  refine Za rfl rfl (Zo (v := b0) rfl rfl (Zb (Ze (Zc (Zc (Zd (Za rfl rfl (Zm (v := Value.map (some i)) rfl aY (Za rfl rfl (Zp F93_2 rfl rfl rfl (Za rfl rfl (Zn ((aj).f1) A9 rfl rfl rfl ?_))))))))))))
  obtain ⟨aK, x, b⟩ := Zg b
  refine Za rfl rfl (Exec.thmap_look ((aj).f2) ⟨Tryz.underlying91, Tryz.underlying9⟩ Z24 rfl rfl rfl x (Za rfl rfl (Exec.len_arr ((St.thmap_pull ((aj).f2) x).2) S24 rfl rfl (Za rfl rfl (Zm (v := Vi (0)) rfl rfl (Zb (Ze ?_)))))))
  obtain ⟨dZ, cK, b⟩ := Zg b
  obtain ⟨ao, bC, b⟩ := Zg b
  refine W_block (W_forS (fun k' s' f' w' => (fun (ao : (List (List Int))) => ∃ (bu : PHeap) (o : Value), PHeap.le bt bu ∧ St w0 bu (Res.thmap Tryz.prog 9 (encInt .i64) 3 i n ab :: Res.arr (encSlice (encInt .i64)) 24 o ao :: Res.box z 93 [ah, Value.string (a.name), Value.string (a.rest), Value.bool (a.position)] :: H) w' ∧ f' 3 = m ∧ f' 4 = Value.map (some i) ∧ f' 5 = o ∧ f' 6 = Vi ((j : Int)) ∧ f' 7 = Value.pointer (some ⟨z, 0, none⟩) ∧ f' 15 = m ∧ f' 16 = Vi ((a4.length : Int)) ∧ f' 17 = Vi ((j : Int)) ∧ f' 31 = ((tget n a.rest).getD nilS) ∧ f' 32 = Vi ((aK.length : Int)) ∧ f' 33 = Vi (k' : Int)) s') bC ?_ ?_ ?_)
  ·have bQ := (aj).f1
   exact ⟨bt, b0, (Zv _), ((bQ).f1).f2, cu, aY, rfl, rfl, rfl, aZ, ba, a3, rfl, rfl, rfl⟩
  ·intro a5 ao dd d7 ep ch bE u
   obtain ⟨aw, o, a9, ak, ap, aC, aD, aE, af, aF, aG, aH, aq, ar, ai⟩ := bE
   refine Zc (Zd (Za rfl rfl (Zq rfl ai ar (Zb (Ze (Zc (W_true (Zx (decide_eq_true (by omega))) (W_skip (Ze (Zc (W_block (Zc (Zd ?_)))))))))))))
   obtain ⟨b3, au, u⟩ := Zg u
   obtain ⟨dC, d0, aR⟩ := ((St.thmap_pull (ak) x).2).arr_at au
   refine Za rfl rfl (Exec.index_slice S24 rfl (Eq.trans aq aR) ai (idx_some au).1 (idx_some au).2.1 (Za rfl rfl (Exec.load_arr (F := (encInt .i64)) ((St.thmap_pull (ak) x).2) aR A3 rfl rfl rfl au (Sub.refl _) ?_)))
   intro ed cL
   obtain rfl := encInt_val.1 cL
   refine Za rfl rfl (Zo (v := Vi (b3)) rfl rfl (Zb (Ze (Zc (Zd (Za rfl rfl (Zm (v := m) rfl ap (Za rfl rfl (Zm (v := Vi (b3)) rfl rfl ?_)))))))))
   obtain ⟨g, cM, u⟩ := Zg u
   refine Za rfl rfl (Exec.index_rep S89 rfl rfl rfl (av.mono (Zt (Zt (Zt a6 a7) a8) a9)) cM ?_)
   intro dx dM bA
   refine Za rfl rfl (Zw (E := encinvariant_simple) ak A93 rfl rfl rfl bA ?_)
   intro ee cN
   obtain ⟨aM, rfl, bp⟩ := encinvariant_simple_val.1 cN
   refine Za rfl rfl (Exec.alloc (cs := [Value.slice none 0 0, Value.string (⟨#[]⟩), Value.string (⟨#[]⟩), Value.bool (false)]) ak Z93 rfl rfl ?_)
   intro aQ er bR
   refine Za rfl rfl (Exec.store_box (ds := [aM, Value.string (g.name), Value.string (g.rest), Value.bool (g.position)]) (es := [aM, Value.string (g.name), Value.string (g.rest), Value.bool (g.position)]) bR A93 rfl rfl rfl rfl (Zj (bp).one (Zj rfl (Zj rfl (Zj rfl one_nil)))) (Nat.le_of_ble_eq_true rfl) rfl ?_)
   intro et t
   refine Zb (Ze (Zc (W_mid (M := fun f' w' => ∃ (bv : PHeap) , PHeap.le aw bv ∧ St w0 bv (Res.thmap Tryz.prog 9 (encInt .i64) 3 i n ab :: Res.arr (encSlice (encInt .i64)) 24 o ao :: Res.box z 93 [ah, Value.string (a.name), Value.string (a.rest), Value.bool (a.position)] :: Res.box aQ 93 [aM, Value.string (g.name), Value.string (g.rest), Value.bool (g.position)] :: H) w' ∧ f' 3 = m ∧ f' 4 = Value.map (some i) ∧ f' 5 = o ∧ f' 6 = Vi ((j : Int)) ∧ f' 7 = Value.pointer (some ⟨z, 0, none⟩) ∧ f' 10 = Value.pointer (some ⟨aQ, 0, none⟩) ∧ f' 15 = m ∧ f' 16 = Vi ((a4.length : Int)) ∧ f' 17 = Vi ((j : Int)) ∧ f' 31 = ((tget n a.rest).getD nilS) ∧ f' 32 = Vi ((aK.length : Int)) ∧ f' 33 = Vi ((a5 : Int)) ∧ f' 53 = Value.bool (((!decide (a.name = g.name)) && (a.position || g.position)))) ?_ ?_)))
   ·refine Zd (Za rfl rfl (Zp F93_1 rfl af rfl (Za rfl rfl (Zn ((t).f3) A9 rfl rfl rfl (Za rfl rfl (Zp F93_1 rfl rfl rfl (Za rfl rfl (Zn (t) A9 rfl rfl rfl (Za rfl rfl (Exec.str_neq rfl rfl rfl (Za rfl rfl (Zm (v := Value.bool (!decide (a.name = g.name))) rfl rfl ?_))))))))))))
    by_cases l : (!decide (a.name = g.name)) = true
    ·refine WL_run rfl (Zf rfl (Zx l)) rfl (Zp F93_3 rfl af rfl (WL_run rfl (Zf rfl (Zx l)) rfl (Zn ((t).f3) A4 rfl rfl rfl (WL_run rfl (Zf rfl (Zx l)) rfl (Zm (v := Value.bool (a.position)) rfl rfl ?_)))))
     by_cases p : a.position = true
     ·refine WL_passes 2 (by rw [p]; rfl) ?_
      refine WL_run rfl (Zf rfl (Zx l)) rfl (Zs (v := Value.bool (true)) rfl rfl rfl (Za rfl rfl (Zs (v := Value.bool (true)) rfl (Zx l) rfl (Zb (Ze ?_)))))
      exact ⟨aw, (Zv _), (((t).f3).f3).f3, ap, aC, aD, aE, af, rfl, aF, aG, aH, aq, ar, ai, (Zx (Eq.trans (and_t l) (or_t p))).symm⟩
     replace p := Zk p
     refine WL_run rfl (Zf rfl (Zx p)) rfl (Zp F93_3 rfl rfl rfl (WL_run rfl (Zf rfl (Zx p)) rfl (Zn (t) A4 rfl rfl rfl (WL_run rfl (Zf rfl (Zx l)) rfl (Exec.pick_f (v := Value.bool (g.position)) rfl (Zx p) rfl (Za rfl rfl (Zs (v := Value.bool (g.position)) rfl (Zx l) rfl (Zb (Ze ?_)))))))))
     exact ⟨aw, (Zv _), (((t).f3).f3).f3, ap, aC, aD, aE, af, rfl, aF, aG, aH, aq, ar, ai, (Zx (Eq.trans (and_t l) (or_f p))).symm⟩
    replace l := Zk l
    refine WL_passes 7 (by rw [l]; rfl) ?_
    refine Zb (Ze ?_)
    exact ⟨aw, (Zv _), (((t).f3).f3).f3, ap, aC, aD, aE, af, rfl, aF, aG, aH, aq, ar, ai, (Zx (and_f l)).symm⟩
   intro d8 eu bH
   obtain ⟨bw, aA, al, bb, bc, bd, be, aI, bf, bg, bh, bi, bj, bk, bl, bm⟩ := bH
   refine (Ze ?_)
   obtain ⟨ae, d, u⟩ := Zg u
   refine W_mid (M := fun f' w' => (fun (ae : (List (List Int))) => ∃ (bx : PHeap) (a2 : Value), PHeap.le bw bx ∧ St w0 bx (Res.thmap Tryz.prog 9 (encInt .i64) 3 i n ab :: Res.arr (encSlice (encInt .i64)) 24 a2 ae :: Res.box z 93 [ah, Value.string (a.name), Value.string (a.rest), Value.bool (a.position)] :: H) w' ∧ f' 3 = m ∧ f' 4 = Value.map (some i) ∧ f' 5 = a2 ∧ f' 6 = Vi ((j : Int)) ∧ f' 7 = Value.pointer (some ⟨z, 0, none⟩) ∧ f' 15 = m ∧ f' 16 = Vi ((a4.length : Int)) ∧ f' 17 = Vi ((j : Int)) ∧ f' 31 = ((tget n a.rest).getD nilS) ∧ f' 32 = Vi ((aK.length : Int)) ∧ f' 33 = Vi ((a5 : Int))) ae) ?_ ?_
   ·rcases ite_some d with ⟨ad, d⟩ | ⟨ad, d⟩
    ·refine W_cond_t bm ad (Zc (W_dl (n0 := 6) (.q 0 (.q 1 (.q 3 (.q 4 (.e 2 [3, 4] (.e 5 [] .done)))))) hmix (by kernel_rfl) (by kernel_rfl) (DL_q rfl rfl (Zp F93_0 rfl aI rfl ⟨rfl, ?_⟩))))
     refine DL_q rfl rfl (Zn ((al.drew).f2) A24 rfl rfl rfl ⟨rfl, ?_⟩)
     refine DL_q rfl rfl (Zp F93_0 rfl bf rfl ⟨rfl, ?_⟩)
     refine DL_q rfl rfl (Zn ((al.drew).f3) A24 rfl rfl rfl ⟨rfl, ?_⟩)
     obtain ⟨e9, cO, d⟩ := Zg d
     refine DL_e rfl rfl (Tc rfl rfl rfl (Zi rfl args_nil) (slices_Clone_int_sim cO al.drew (aJ.mono (Zt (Zt (Zt a7 a8) a9) aA))).r ?_)
     rintro ef ev ⟨dT, _, aX, aV, rfl⟩
     refine ⟨(ag_cons (ag_r rfl rfl (Zp F93_0 rfl bf rfl ⟨rfl, rfl⟩)) (ag_cons (ag_r rfl rfl (Zn ((aV).f4) A24 rfl rfl rfl ⟨rfl, rfl⟩)) ag_nil)), ?_⟩
     obtain ⟨dE, cP, d⟩ := Zg d
     refine DL_e rfl rfl (Exec.append_rep (E := (encInt .i64)) (ys := g.atoms) aV S24 Z3 rfl (by decide) rfl rfl rfl (bp.mono (Zt aA aX)) cP ?_)
     intro aO ew bS
     refine ⟨ag_nil, ?_⟩
     refine DL_done (Za rfl rfl (Zo (v := aO) rfl rfl (Zb (Ze (Zc (Zd (Za rfl rfl (Zm (v := aO) rfl rfl ?_))))))))
     obtain ⟨dF, cQ, d⟩ := Zg d
     refine Za rfl rfl (Tc rfl rfl rfl (Zi rfl args_nil) (sortInts_sim cQ bS ).r ?_)
     rintro _ ex ⟨dU, cj, bT, rfl⟩
     refine Zb (Ze (Zd (Za rfl rfl (Zm (v := o) rfl bd (Za rfl rfl (Zm (v := aO) rfl rfl ?_))))))
     obtain ⟨dk, cR, d⟩ := Zg d
     obtain ⟨dt, ck⟩ := dk
     replace d := un2_eq d
     refine Za rfl rfl (Tc rfl rfl rfl (Zi rfl args_nil) (slices_Compact_int_o_sim cR bT ).r ?_)
     rintro aP ey ⟨dV, _, cl, bU, rfl, cZ⟩
     obtain ⟨ea, cS, d⟩ := Zg d
     have bV := (bU).arr_head cZ (by simpa using must_some cS)
     obtain ⟨de, cm, bW, bq⟩ := bV.freezeArr
     refine Za rfl rfl (Exec.buildSlice (Te := 24) (cs := [aP]) bW rfl (parts_cons (c := [aP]) (cells_of rfl (cells_one (bq).one)) parts_nil) (fun _ => by kernel_rfl) ?_)
     intro dy ez bX
     obtain ⟨dG, cT, d⟩ := Zg d
     refine Za rfl rfl (Exec.append_box (E := (encSlice (encInt .i64))) (ys := [(ck).take dt]) (bX).f2 S36 Z24 rfl (by decide) rfl rfl rfl rfl ⟨[aP], [], rfl, ⟨_, rfl, bq⟩, rfl⟩ rfl cT ?_)
     intro b1 e0 bY
     refine Za rfl rfl (Zo (v := b1) rfl rfl (Zb (Ze ?_)))
     have d1 := Zu d
     subst ae
     exact ⟨de, b1, (Zt (Zt (Zt aX cj) cl) cm), (((((bY).f3).drop).f2).f1).f2, bb, bc, rfl, be, aI, bg, bh, bi, bj, bk, bl⟩
    refine W_cond_f bm ad ?_
    replace ad := Zk ad
    refine W_skip (Ze ?_)
    have d2 := Zu d
    subst ae
    exact ⟨bw, o, (Zv _), (((((al).f3).drop).f2).f2).f2, bb, bc, bd, be, aI, bg, bh, bi, bj, bk, bl⟩
   intro d9 e1 bI
   obtain ⟨df, a2, cn, bZ, cw, cx, cy, cz, c0, c1, c2, c3, c4, c5, c6⟩ := bI
   refine (ib_normal (Ze (Zd (Za rfl rfl (Exec.add rfl c6 rfl (Za rfl rfl (Zm (v := Vi (IntKind.i64.wrap ((a5 : Int) + 1))) rfl rfl (Zb (Ze ?_)))))))))
   have d3 := Zu u
   subst dd
   exact ⟨df, a2, (Zt (Zt a9 aA) cn), (((bZ).f2).f2).f2, cw, cx, cy, cz, c0, c1, c2, c3, c4, c5, (Eq.trans rfl (wrap_up ch (by have h := must_some cK; simpa [maxLen] using h)))⟩
  intro dA e2 bF
  obtain ⟨dg, o, co, am, c7, ac, c8, c9, ag, cA, cB, cC, dN, cD, dn⟩ := bF
  refine Zc (Zd (Za rfl rfl (Zq rfl dn cD (Zb (Ze (Zc (W_false (Zx (decide_eq_false (by omega))) (W_exit (at_exit (at_exit (ib_here (Ze (W_dl (n0 := 10) (qs 0 8 (.e 8 [0, 1, 2, 3, 4, 5, 6] (.e 9 [0, 1, 2] .done))) hmix (by kernel_rfl) (by kernel_rfl) (DL_q rfl rfl (Zm (v := Value.map (some i)) rfl ac ⟨rfl, ?_⟩)))))))))))))))
  refine DL_q rfl rfl (Zp F93_2 rfl ag rfl ⟨rfl, ?_⟩)
  refine DL_q rfl rfl (Zn ((am.drew).f2) A9 rfl rfl rfl ⟨rfl, ?_⟩)
  refine DL_q rfl rfl (Zm (v := Value.map (some i)) rfl ac ⟨rfl, ?_⟩)
  refine DL_q rfl rfl (Zp F93_2 rfl ag rfl ⟨rfl, ?_⟩)
  refine DL_q rfl rfl (Zn ((am.drew).f2) A9 rfl rfl rfl ⟨rfl, ?_⟩)
  refine DL_q rfl rfl (Exec.thmap_look (am.drew) ⟨Tryz.underlying91, Tryz.underlying9⟩ Z24 rfl rfl rfl x ⟨rfl, ?_⟩)
  refine DL_q rfl rfl (Zm (v := Vi ((j : Int))) rfl c9 ⟨rfl, ?_⟩)
  refine DL_e rfl rfl (Exec.buildSlice (Te := 3) (cs := [Vi ((j : Int))]) am.drew rfl (parts_cons (c := [Vi ((j : Int))]) (cells_of rfl rfl) parts_nil) (fun _ => by kernel_rfl) ?_)
  intro dz e3 an
  refine ⟨(ag_cons (ag_r rfl rfl (Zm (v := Value.map (some i)) rfl ac ⟨rfl, rfl⟩)) (ag_cons (ag_r rfl rfl (Zp F93_2 rfl ag rfl ⟨rfl, rfl⟩)) (ag_cons (ag_r rfl rfl (Zn ((an).f3) A9 rfl rfl rfl ⟨rfl, rfl⟩)) (ag_cons (ag_r rfl rfl (Zm (v := Value.map (some i)) rfl ac ⟨rfl, rfl⟩)) (ag_cons (ag_r rfl rfl (Zp F93_2 rfl ag rfl ⟨rfl, rfl⟩)) (ag_cons (ag_r rfl rfl (Zn ((an).f3) A9 rfl rfl rfl ⟨rfl, rfl⟩)) (ag_cons (ag_r rfl rfl (Exec.thmap_look ((an).f1) ⟨Tryz.underlying91, Tryz.underlying9⟩ Z24 rfl rfl rfl x ⟨rfl, rfl⟩)) ag_nil))))))), ?_⟩
  obtain ⟨dH, cU, b⟩ := Zg b
  refine DL_e rfl rfl (Exec.thmap_append (ys := [(j : Int)]) (an).f1 x S24 Z3 rfl (by decide) rfl rfl rfl rfl ⟨[Vi ((j : Int))], [], rfl, rfl, rfl⟩ rfl cU ?_)
  intro dm e4 aW
  refine ⟨(ag_cons (ag_r rfl rfl (Zm (v := Value.map (some i)) rfl ac ⟨rfl, rfl⟩)) (ag_cons (ag_r rfl rfl (Zp F93_2 rfl ag rfl ⟨rfl, rfl⟩)) (ag_cons (ag_r rfl rfl (Zn ((aW).f2) A9 rfl rfl rfl ⟨rfl, rfl⟩)) ag_nil))), ?_⟩
  refine DL_done ?_
  obtain ⟨dK, cV, b⟩ := Zg b
  refine Za rfl rfl (Exec.thmap_put aW ⟨Tryz.underlying91, Tryz.underlying9⟩ rfl rfl rfl rfl cV ?_)
  intro e5 ca
  refine Zb (ib_normal (Ze (Zd (Za rfl rfl (Exec.add rfl cC rfl (Za rfl rfl (Zm (v := Vi (IntKind.i64.wrap ((j : Int) + 1))) rfl rfl (Zb (Ze ?_)))))))))
  have d4 := Zu b
  subst dc
  exact ⟨dg, (tput n a.rest dm), o, (Zt (Zt (Zt a6 a7) a8) co), ((((ca).f2).drop).f1).f1, c7, ac, c8, cA, cB, (Eq.trans rfl (wrap_up cg (SliceRep.le av)))⟩
 intro dB e6 bG
 obtain ⟨aB, ab⟩ := di
 replace hm := un2_eq hm
 obtain ⟨dW, n, y, cp, cb, dO, dP, bn, dQ, cE, dp⟩ := bG
 refine Zc (Zd (Za rfl rfl (Zq rfl dp cE (Zb (Ze (Zc (W_false (Zx (decide_eq_false (by omega))) (W_exit (at_exit (at_exit (ib_here (Ze (Zc (Zd (Za rfl rfl (Zm (v := y) rfl bn ?_))))))))))))))))
 obtain ⟨dI, cW, hm⟩ := Zg hm
 refine Za rfl rfl (Tc rfl rfl rfl (Zi rfl (Zi rfl args_nil)) (sortLists_sim cW (cb).f1 ).r ?_)
 rintro _ e7 ⟨dX, cq, cc, rfl⟩
 refine Zb (Ze (Zc (Zd (Za rfl rfl (Zm (v := y) rfl bn ?_)))))
 obtain ⟨dl, cX, hm⟩ := Zg hm
 obtain ⟨eA, dJ⟩ := dl
 replace hm := un2_eq hm
 refine Za rfl rfl (Tc rfl rfl rfl (Zi rfl (Zi rfl args_nil)) (slices_CompactFunc_int_o_Equal_sim cX cc ).r ?_)
 rintro b2 e8 ⟨dY, _, cr, cd, rfl, da⟩
 obtain ⟨eb, cY, hm⟩ := Zg hm
 have ce := (cd).arr_head da (by simpa using must_some cY)
 refine Za rfl rfl (Zo (v := b2) rfl rfl (Zb (Ze (W_ret ?_))))
 have d5 := Zu hm
 subst r
 refine ⟨_, ret1 rfl, ?_⟩
 obtain ⟨dh, ct, cf, db⟩ := ce.freezeArr
 exact ⟨dh, b2, (Zt (Zt (Zt (Zt ci cp) cq) cr) ct), (cf).drop, rfl, db⟩
theorem F33_0 : tyField Tryz.prog 33 0 = some 0 := by kernel_rfl
theorem slices_Index_int_sim {w0 w : World} {s : PHeap} {H : List Res} {i : (List Int)} {g : Int} {c : Value} {r : Int} (hm : slices_Index_int_p i g = some r) (hS : St w0 s (H) w) (j : SliceRep (encInt .i64) s c i) :
  Calls Tryz.prog 48 #[c, Vi (g)] w fun e w' => ∃ v, e = .returned v ∧ ((fun (a2 : Int) => ∃ (z : PHeap) , PHeap.le s z ∧ St w0 z (H) w' ∧ v = Vi (a2)) r) := by
 unfold slices_Index_int_p at hm
 refine calls_of_W Tryz.func48 rfl rfl (Zc (Zd (Za rfl rfl (Zo (v := Vi (0)) rfl rfl (Zb (Ze (Zc (Zc (Zd (Za rfl rfl (Zm (v := c) rfl rfl (Za rfl rfl (Zr S24 rfl rfl j (Za rfl rfl (Zm (v := Vi (0)) rfl rfl (Zb (Ze ?_)))))))))))))))))
 obtain ⟨o, ae, ao, am, ak⟩ := ctl_some hm
 refine W_mid (M := fun f' w' => ∃ s', (o = .next s' ∨ o = .brk s') ∧ (fun (_ : Unit) => ∃ (aa : PHeap) , PHeap.le s aa ∧ St w0 aa (H) w' ∧ f' 0 = c ∧ f' 1 = Vi (g) ∧ f' 7 = Vi ((i.length : Int))) s') ?_ ?_
 ·refine W_block (W_forC (fun k' s' f' w' => (fun (_ : Unit) => ∃ (ab : PHeap) , PHeap.le s ab ∧ St w0 ab (H) w' ∧ f' 0 = c ∧ f' 1 = Vi (g) ∧ f' 7 = Vi ((i.length : Int)) ∧ f' 8 = Vi (k' : Int)) s') ae ?_ ?_ ?_)
  ·exact ⟨s, (Zv _), hS, rfl, rfl, rfl, rfl⟩
  ·intro b aF p a8 aJ al af a ap
   obtain ⟨ac, m, l, t, u, x, n⟩ := af
   refine Zc (Zd (Za rfl rfl (Zq rfl n x (Zb (Ze (Zc (W_true (Zx (decide_eq_true (by omega))) (W_skip (Ze (Zc (W_block (Zc (Zd (Za rfl rfl (Zm (v := Vi ((b : Int))) rfl n (Za rfl rfl (Zo (v := Vi ((b : Int))) rfl rfl (Zb (Ze (Zc (Zd (Za rfl rfl (Zm (v := Vi (g)) rfl u (Za rfl rfl (Zm (v := c) rfl t (Za rfl rfl (Zm (v := Vi ((b : Int))) rfl rfl ?_)))))))))))))))))))))))))))
   obtain ⟨aM, ax, a⟩ := Zg a
   refine Za rfl rfl (Exec.index_rep S24 rfl rfl rfl (j.mono m) ax ?_)
   intro a3 aB ad
   refine Za rfl rfl (Zw (E := (encInt .i64)) l A3 rfl rfl rfl ad ?_)
   intro aI ay
   obtain rfl := encInt_val.1 ay
   refine Za rfl rfl (Exec.eql rfl rfl rfl (Zb (Ze ?_)))
   rcases ite_some a with ⟨d, a⟩ | ⟨d, a⟩
   ·refine W_cond_t rfl d (Zc (Zd (Za rfl rfl (Zm (v := Vi ((b : Int))) rfl rfl (Za rfl rfl (Zo (v := Vi ((b : Int))) rfl rfl (Zb (Ze (W_ret (ib_ret (at_ret (at_ret (ib_ret (at_ret (at_ret ?_)))))))))))))))
    have a4 := Zu a
    subst p
    have an := ao _ (ap (by intro _ h; cases h))
    have a5 := Zu an
    subst r
    refine ⟨_, ret1 rfl, ?_⟩
    exact ⟨ac, m, l, rfl⟩
   refine W_cond_f rfl d ?_
   replace d := Zk d
   refine W_skip (ib_normal (Ze (Zd (Za rfl rfl (Exec.add rfl n rfl (Za rfl rfl (Zm (v := Vi (IntKind.i64.wrap ((b : Int) + 1))) rfl rfl (Zb (Ze ?_)))))))))
   have a6 := Zu a
   subst p
   refine ⟨_, rfl, ?_⟩; exact ⟨ac, m, l, t, u, x, (Eq.trans rfl (wrap_up al (SliceRep.le j)))⟩
  intro aG a9 aK ag aq
  obtain ⟨az, ar, ai, av, aw, y, a1⟩ := ag
  refine Zc (Zd (Za rfl rfl (Zq rfl a1 y (Zb (Ze (Zc (W_false (Zx (decide_eq_false (by omega))) (W_exit (at_exit (at_exit (ib_here (Ze ?_))))))))))))
  refine ⟨_, .inl aq, ?_⟩; exact ⟨az, ar, ai, av, aw, y⟩
 rintro aA aL ⟨aH, q, ah⟩
 have hm := q.elim (am _) (ak _)
 clear q
 obtain ⟨a0, au, aj, aC, aD, aE⟩ := ah
 refine (Ze (Zc (Zd (Za rfl rfl (Zo (v := Vi ((-1))) rfl rfl (Zb (Ze (W_ret ?_))))))))
 have a7 := Zu hm
 subst r
 refine ⟨_, ret1 rfl, ?_⟩
 exact ⟨a0, au, aj, rfl⟩
theorem slices_Contains_int_sim {w0 w : World} {s : PHeap} {H : List Res} {d : (List Int)} {a : Int} {b : Value} {r : Bool} (hm : slices_Contains_int_p d a = some r) (hS : St w0 s (H) w) (f : SliceRep (encInt .i64) s b d) :
  Calls Tryz.prog 26 #[b, Vi (a)] w fun e w' => ∃ v, e = .returned v ∧ ((fun (k : Bool) => ∃ (c : PHeap) , PHeap.le s c ∧ St w0 c (H) w' ∧ v = Value.bool (k)) r) := by
 unfold slices_Contains_int_p at hm
 refine calls_of_W Tryz.func26 rfl rfl (Zc (Zd (Za rfl rfl (Zo (v := Value.bool (false)) rfl rfl (Zb (Ze (Zc (Zd (Za rfl rfl (Zm (v := b) rfl rfl (Za rfl rfl (Zm (v := Vi (a)) rfl rfl ?_))))))))))))
 obtain ⟨l, i, hm⟩ := Zg hm
 refine Za rfl rfl (Tc rfl rfl rfl (Zi rfl (Zi rfl args_nil)) (slices_Index_int_sim i hS f).r ?_)
 rintro _ n ⟨j, h, g, rfl⟩
 refine Za rfl rfl (Exec.geq rfl rfl rfl (Za rfl rfl (Zo (v := Value.bool (decide (0 ≤ l))) rfl rfl (Zb (Ze (W_ret ?_))))))
 have m := Zu hm
 subst r
 refine ⟨_, ret1 rfl, ?_⟩
 exact ⟨j, h, g, rfl⟩
theorem invariant_Holds_sim {w0 w : World} {s : PHeap} {H : List Res} {ab : GState} {m : (List Int)} {h : Value} {i : Value} {j : Value} {r : Bool} (hm : invariant_Holds_p ab m = some r) (hS : St w0 s (H) w) (aj : SliceRep (encInt .i64) s h ab.True) (aG : SliceRep (encInt .i64) s i ab.Values) (p : SliceRep (encInt .i64) s j m) :
  Calls Tryz.prog 13 #[Value.agg #[h, i], j] w fun e w' => ∃ v, e = .returned v ∧ ((fun (aF : Bool) => ∃ (ag : PHeap) , PHeap.le s ag ∧ St w0 ag (H) w' ∧ v = Value.bool (aF)) r) := by
 unfold invariant_Holds_p at hm
 refine calls_of_W Tryz.func13 rfl rfl (Zc (Zd (Za rfl rfl (Exec.box (cs := [h, i]) hS rfl rfl rfl ?_))))
 intro l aV ap
 refine Za rfl rfl (Zo (v := Value.bool (false)) rfl rfl (Zb (Ze (Zc (Zd (Za rfl rfl (Exec.make_bmap (k := 3) (e := 4) ap rfl ?_)))))))
 intro a aW aq
 refine Za rfl rfl (Zo (v := Value.map (some a)) rfl rfl (Zb (Ze (Zc (Zc (Zd (Za rfl rfl (Zm (v := j) rfl rfl (Za rfl rfl (Zr S24 rfl rfl p (Za rfl rfl (Zm (v := Vi (0)) rfl rfl (Zb (Ze ?_))))))))))))))
 obtain ⟨n, al, hm⟩ := Zg hm
 refine W_block (W_forS (fun k' s' f' w' => (fun (n : BMap) => ∃ (ah : PHeap) , PHeap.le s ah ∧ St w0 ah (Res.box l 33 [h, i] :: Res.bmap Tryz.prog 3 4 a n :: H) w' ∧ f' 2 = Value.pointer (some ⟨l, 0, none⟩) ∧ f' 5 = Value.map (some a) ∧ f' 9 = j ∧ f' 10 = Vi ((m.length : Int)) ∧ f' 11 = Vi (k' : Int)) s') al ?_ ?_ ?_)
 ·have ar := (aq).f1
  exact ⟨s, (Zv _), ar, rfl, rfl, rfl, rfl, rfl⟩
 ·intro af n aB aM aX aw am b
  obtain ⟨aT, t, q, u, x, y, z, o⟩ := am
  refine Zc (Zd (Za rfl rfl (Zq rfl o z (Zb (Ze (Zc (W_true (Zx (decide_eq_true (by omega))) (W_skip (Ze (Zc (W_block (Zc (Zd ?_)))))))))))))
  obtain ⟨ac, a7, b⟩ := Zg b
  refine Za rfl rfl (Exec.index_rep S24 rfl y o (p.mono t) a7 ?_)
  intro aH aQ ak
  refine Za rfl rfl (Zw (E := (encInt .i64)) q A3 rfl rfl rfl ak ?_)
  intro aU a8
  obtain rfl := encInt_val.1 a8
  refine Za rfl rfl (Zo (v := Vi (ac)) rfl rfl (Zb (Ze (Zc (Zd (Za rfl rfl (Zp F33_0 rfl u rfl (Za rfl rfl (Zn (q) A24 rfl rfl rfl (Za rfl rfl (Zm (v := Vi (ac)) rfl rfl ?_)))))))))))
  obtain ⟨bc, a9, b⟩ := Zg b
  refine Za rfl rfl (Tc rfl rfl rfl (Zi rfl (Zi rfl args_nil)) (slices_Contains_int_sim a9 q (aj.mono t)).r ?_)
  rintro _ aY ⟨aa, ax, ad, rfl⟩
  refine Zb (Ze ?_)
  obtain ⟨g, c, b⟩ := Zg b
  refine W_mid (M := fun f' w' => (fun (g : BMap) => ∃ (ai : PHeap) , PHeap.le aa ai ∧ St w0 ai (Res.box l 33 [h, i] :: Res.bmap Tryz.prog 3 4 a g :: H) w' ∧ f' 2 = Value.pointer (some ⟨l, 0, none⟩) ∧ f' 5 = Value.map (some a) ∧ f' 9 = j ∧ f' 10 = Vi ((m.length : Int)) ∧ f' 11 = Vi ((af : Int))) g) ?_ ?_
  ·rcases ite_some c with ⟨d, c⟩ | ⟨d, c⟩
   ·refine W_cond_t rfl d (Zd (Za rfl rfl (Zm (v := Value.map (some a)) rfl x (Za rfl rfl (Zm (v := Vi (ac)) rfl rfl ?_)))))
    obtain ⟨aP, aA, c⟩ := Zg c
    refine Za rfl rfl (Exec.bmap_put (ad).f1 ⟨Tryz.underlying34, Tryz.underlying3, Tryz.underlying4⟩ rfl rfl rfl rfl aA ?_)
    intro aZ au
    refine Zb (Ze ?_)
    have aI := Zu c
    subst g
    exact ⟨aa, (Zv _), (au).f1, u, x, y, z, o⟩
   refine W_cond_f rfl d ?_
   replace d := Zk d
   refine W_skip (Ze ?_)
   have aJ := Zu c
   subst g
   exact ⟨aa, (Zv _), ((ad).f1).f1, u, x, y, z, o⟩
  intro aN ba ao
  obtain ⟨aC, ay, av, a0, a1, a2, a3, a4⟩ := ao
  refine (ib_normal (Ze (Zd (Za rfl rfl (Exec.add rfl a4 rfl (Za rfl rfl (Zm (v := Vi (IntKind.i64.wrap ((af : Int) + 1))) rfl rfl (Zb (Ze ?_)))))))))
  have aK := Zu b
  subst aB
  exact ⟨aC, (Zt (Zt t ax) ay), ((av).f1).f1, a0, a1, a2, a3, (Eq.trans rfl (wrap_up aw (SliceRep.le p)))⟩
 intro aO bb an
 obtain ⟨aD, az, ae, aR, a5, aS, a6, aE⟩ := an
 refine Zc (Zd (Za rfl rfl (Zq rfl aE a6 (Zb (Ze (Zc (W_false (Zx (decide_eq_false (by omega))) (W_exit (at_exit (at_exit (ib_here (Ze (Zc (Zd (Za rfl rfl (Zm (v := Value.map (some a)) rfl a5 (Za rfl rfl (Exec.bmap_len ((ae).f1) ⟨Tryz.underlying34, Tryz.underlying3, Tryz.underlying4⟩ rfl rfl (Za rfl rfl (Exec.leq rfl rfl rfl (Za rfl rfl (Zo (v := Value.bool (decide ((n.length : Int) ≤ 1))) rfl rfl (Zb (Ze (W_ret ?_)))))))))))))))))))))))))
 have aL := Zu hm
 subst r
 refine ⟨_, ret1 rfl, ?_⟩
 exact ⟨aD, az, ((ae).drop).drop, rfl⟩
theorem cmp_Less_int_sim {w0 w : World} {s : PHeap} {H : List Res} {a : Int} {c : Int}  {r : Bool} (hm : cmp_Less_int_p a c = some r) (hS : St w0 s (H) w)  :
  Calls Tryz.prog 69 #[Vi (a), Vi (c)] w fun e w' => ∃ v, e = .returned v ∧ ((fun (x : Bool) => ∃ (k : PHeap) , PHeap.le s k ∧ St w0 k (H) w' ∧ v = Value.bool (x)) r) := by
 unfold cmp_Less_int_p at hm
 refine calls_of_W Tryz.func69 rfl rfl (Zc (Zd (Za rfl rfl (Zo (v := Value.bool (false)) rfl rfl (Zb (Ze (Zc (W_mid (M := fun f' w' => ∃ (l : PHeap) , PHeap.le s l ∧ St w0 l (H) w' ∧ f' 4 = Value.bool ((bif (cmp_isNaN_int_t a) then ((!(cmp_isNaN_int_t c)) || decide (a < c)) else decide (a < c)))) ?_ ?_))))))))
 ·refine Zd (Za rfl rfl (Zm (v := Vi (a)) rfl rfl (Za rfl rfl (Tc rfl rfl rfl (Zi rfl args_nil) (cmp_isNaN_int_sim (cmp_isNaN_int_tot a) hS ).r ?_))))
  rintro _ aa ⟨t, g, h, rfl⟩
  refine Za rfl rfl (Zm (v := Value.bool ((cmp_isNaN_int_t a))) rfl rfl ?_)
  by_cases b : (cmp_isNaN_int_t a) = true
  ·refine WL_run rfl (Zf rfl (Zx b)) rfl (Zm (v := Vi (c)) rfl rfl (WL_run rfl (Zf rfl (Zx b)) rfl (Tc rfl rfl rfl (Zi rfl args_nil) (cmp_isNaN_int_sim (cmp_isNaN_int_tot c) h ).r ?_)))
   rintro _ ab ⟨m, j, i, rfl⟩
   refine WL_run rfl (Zf rfl (Zx b)) rfl (Exec.not rfl rfl ?_)
   refine WL_passes 2 (by rw [b]; rfl) ?_
   by_cases d : (!(cmp_isNaN_int_t c)) = true
   ·refine WL_passes 5 (by rw [d]; rfl) ?_
    refine Zb (Ze ?_)
    exact ⟨m, (Zt g j), i, (Zx (Eq.trans (cnd_t b) (or_t d))).symm⟩
   replace d := Zk d
   refine WL_run rfl (Zf rfl (Zx d)) rfl (Zm (v := Vi (a)) rfl rfl (WL_run rfl (Zf rfl (Zx d)) rfl (Zm (v := Vi (c)) rfl rfl (WL_run rfl (Zf rfl (Zx d)) rfl (Zq rfl rfl rfl ?_)))))
   refine WL_passes 2 (by rw [d]; rfl) ?_
   refine Zb (Ze ?_)
   exact ⟨m, (Zt g j), i, (Zx (Eq.trans (cnd_t b) (or_f d))).symm⟩
  replace b := Zk b
  refine WL_passes 5 (by rw [b]; rfl) ?_
  refine WL_run rfl (Zf rfl rfl) rfl (Zm (v := Vi (a)) rfl rfl (WL_run rfl (Zf rfl rfl) rfl (Zm (v := Vi (c)) rfl rfl (WL_run rfl (Zf rfl rfl) rfl (Zq rfl rfl rfl (WL_passes 2 rfl (Zb (Ze ?_))))))))
  exact ⟨t, g, h, (Zx (cnd_f b)).symm⟩
 intro z ac n
 obtain ⟨u, p, o, q⟩ := n
 refine (Ze (W_ret ?_))
 have y := Zu hm
 subst r
 refine ⟨_, ret1 rfl, ?_⟩
 exact ⟨u, p, o, q⟩
theorem slices_isNaN_int_sim {w0 w : World} {s : PHeap} {H : List Res} {a : Int}  {r : Bool} (hm : slices_isNaN_int_p a = some r) (hS : St w0 s (H) w)  :
  Calls Tryz.prog 70 #[Vi (a)] w fun e w' => ∃ v, e = .returned v ∧ ((fun (c : Bool) => ∃ (b : PHeap) , PHeap.le s b ∧ St w0 b (H) w' ∧ v = Value.bool (c)) r) := by
 unfold slices_isNaN_int_p at hm
 refine calls_of_W Tryz.func70 rfl rfl (Zc (Zd (Za rfl rfl (Zo (v := Value.bool (false)) rfl rfl (Zb (Ze (Zc (Zd (Za rfl rfl (Zm (v := Vi (a)) rfl rfl (Za rfl rfl (Zm (v := Vi (a)) rfl rfl (Za rfl rfl (Exec.neq rfl rfl rfl (Za rfl rfl (Zo (v := Value.bool (!decide (a = a))) rfl rfl (Zb (Ze (W_ret ?_)))))))))))))))))))
 have d := Zu hm
 subst r
 refine ⟨_, ret1 rfl, ?_⟩
 exact ⟨s, (Zv _), hS, rfl⟩
theorem slices_BinarySearch_int_sim {w0 w : World} {s : PHeap} {H : List Res} {l : (List Int)} {c : Int} {m : Value} {r : Int × Bool} (hm : slices_BinarySearch_int_p l c = some r) (hS : St w0 s (H) w) (y : SliceRep (encInt .i64) s m l) :
  Calls Tryz.prog 43 #[m, Vi (c)] w fun e w' => ∃ v, e = .returned v ∧ ((un2 fun (bh : Int) (bi : Bool) => ∃ (a0 : PHeap) , PHeap.le s a0 ∧ St w0 a0 (H) w' ∧ v = Value.tuple #[Vi (bh), Value.bool (bi)]) r) := by
 unfold slices_BinarySearch_int_p at hm
 refine calls_of_W Tryz.func43 rfl rfl (Zc (Zd (Za rfl rfl (Zo (v := Vi (0)) rfl rfl (Za rfl rfl (Zo (v := Value.bool (false)) rfl rfl (Zb (Ze (Zc (Zd (Za rfl rfl (Zm (v := m) rfl rfl (Za rfl rfl (Zr S24 rfl rfl y (Za rfl rfl (Zo (v := Vi ((l.length : Int))) rfl rfl (Zb (Ze (Zc (Zd (Za rfl rfl (Zm (v := Vi ((l.length : Int))) rfl rfl (Za rfl rfl (Zo (v := Vi (0)) rfl rfl (Za rfl rfl (Zo (v := Vi ((l.length : Int))) rfl rfl (Zb (Ze (Zc ?_)))))))))))))))))))))))))))))
 obtain ⟨am, a8, b0, aH, aG⟩ := ctl_some hm
 refine W_mid (M := fun f' w' => ∃ s', (am = .next s' ∨ am = .brk s') ∧ (un2 fun (i : Int) (au : Int) => ∃ (a1 : PHeap) , PHeap.le s a1 ∧ St w0 a1 (H) w' ∧ f' 0 = m ∧ f' 1 = Vi (c) ∧ f' 6 = Vi ((l.length : Int)) ∧ f' 7 = Vi (i) ∧ f' 8 = Vi (au)) s') ?_ ?_
 ·refine W_block (W_while (fun s' f' w' => (un2 fun (j : Int) (k : Int) => ∃ (a2 : PHeap) , PHeap.le s a2 ∧ St w0 a2 (H) w' ∧ f' 0 = m ∧ f' 1 = Vi (c) ∧ f' 6 = Vi ((l.length : Int)) ∧ f' 7 = Vi (j) ∧ f' 8 = Vi (k)) s') a8 ?_ ?_)
  ·exact ⟨s, (Zv _), hS, rfl, rfl, rfl, rfl, rfl⟩
  intro be an bv b8 a9 g aI
  obtain ⟨j, k⟩ := be
  replace g := un2_eq g
  obtain ⟨aZ, ag, af, z, aa, ai, ab, ac⟩ := a9
  refine Zc (Zc (Zd (Za rfl rfl (Zm (v := Vi (j)) rfl ab (Za rfl rfl (Zm (v := Vi (k)) rfl ac (Za rfl rfl (Zq rfl rfl rfl (Zb (Ze ?_))))))))))
  rcases ite_some g with ⟨t, g⟩ | ⟨t, g⟩
  ·refine W_cond_t rfl t (W_skip (Ze (W_block (Zc (Zd (Za rfl rfl (Zm (v := Vi (j)) rfl ab (Za rfl rfl (Zm (v := Vi (k)) rfl ac (Za rfl rfl (Exec.add rfl rfl rfl ?_)))))))))))
   refine Za rfl rfl (Exec.convert_int (by rw [Tryz.underlying3]; rfl) Tryz.underlying118 rfl rfl ?_)
   refine Za rfl rfl (Exec.shr_const (n := 1) rfl (by decide) rfl rfl rfl ?_)
   refine Za rfl rfl (Exec.convert_int (by rw [Tryz.underlying118]; rfl) Tryz.underlying3 rfl rfl ?_)
   refine Za rfl rfl (Zo (v := Vi (IntKind.i64.wrap ((IntKind.u64.wrap (IntKind.i64.wrap (j + k))).fdiv (2 ^ 1)))) rfl rfl (Zb (Ze (Zc (Zd (Za rfl rfl (Zm (v := m) rfl z (Za rfl rfl (Zm (v := Vi (IntKind.i64.wrap ((IntKind.u64.wrap (IntKind.i64.wrap (j + k))).fdiv (2 ^ 1)))) rfl rfl ?_)))))))))
   obtain ⟨bg, aV, g⟩ := Zg g
   refine Za rfl rfl (Exec.index_rep S24 rfl rfl rfl (y.mono ag) aV ?_)
   intro bj b1 a5
   refine Za rfl rfl (Zw (E := (encInt .i64)) af A3 rfl rfl rfl a5 ?_)
   intro b5 aW
   obtain rfl := encInt_val.1 aW
   refine Za rfl rfl (Zm (v := Vi (c)) rfl aa (Za rfl rfl (Tc rfl rfl rfl (Zi rfl (Zi rfl args_nil)) (cmp_Less_int_sim (cmp_Less_int_tot bg c) af ).r ?_)))
   rintro _ b9 ⟨aj, aJ, ao, rfl⟩
   refine Zb (Ze ?_)
   obtain ⟨ae, x, g⟩ := Zg g
   refine W_mid (M := fun f' w' => (un2 fun (ar : Int) (av : Int) => ∃ (a3 : PHeap) , PHeap.le aj a3 ∧ St w0 a3 (H) w' ∧ f' 0 = m ∧ f' 1 = Vi (c) ∧ f' 6 = Vi ((l.length : Int)) ∧ f' 7 = Vi (ar) ∧ f' 8 = Vi (av)) ae) ?_ ?_
   ·rcases ite_some x with ⟨u, x⟩ | ⟨u, x⟩
    ·refine W_cond_t rfl u (Zd (Za rfl rfl (Zm (v := Vi (IntKind.i64.wrap ((IntKind.u64.wrap (IntKind.i64.wrap (j + k))).fdiv (2 ^ 1)))) rfl rfl (Za rfl rfl (Exec.add rfl rfl rfl (Za rfl rfl (Zo (v := Vi (IntKind.i64.wrap ((IntKind.i64.wrap ((IntKind.u64.wrap (IntKind.i64.wrap (j + k))).fdiv (2 ^ 1))) + 1))) rfl rfl (Zb (Ze ?_)))))))))
     have bm := Zu x
     subst ae
     exact ⟨aj, (Zv _), ao, z, aa, ai, rfl, ac⟩
    refine W_cond_f rfl u ?_
    replace u := Zk u
    refine Zd (Za rfl rfl (Zm (v := Vi (IntKind.i64.wrap ((IntKind.u64.wrap (IntKind.i64.wrap (j + k))).fdiv (2 ^ 1)))) rfl rfl (Za rfl rfl (Zo (v := Vi (IntKind.i64.wrap ((IntKind.u64.wrap (IntKind.i64.wrap (j + k))).fdiv (2 ^ 1)))) rfl rfl (Zb (Ze ?_))))))
    have bn := Zu x
    subst ae
    exact ⟨aj, (Zv _), ao, z, aa, ai, ab, rfl⟩
   intro bw bA aA
   obtain ⟨ar, av⟩ := ae
   replace g := un2_eq g
   obtain ⟨ba, aK, aD, aN, aO, aP, aQ, aR⟩ := aA
   refine (ib_normal (Ze ?_))
   have bo := Zu g
   subst an
   refine ⟨_, rfl, ?_⟩; exact ⟨ba, (Zt (Zt ag aJ) aK), aD, aN, aO, aP, aQ, aR⟩
  refine W_cond_f rfl t ?_
  replace t := Zk t
  refine W_exit (at_exit (at_exit (ib_here (Ze ?_))))
  have bp := Zu g
  subst an
  refine ⟨_, .inr (aI (by intro _ h; cases h)), ?_⟩; exact ⟨aZ, ag, af, z, aa, ai, ab, ac⟩
 rintro bx bB ⟨bf, aq, aB⟩
 have hm := aq.elim (aH _) (aG _)
 clear aq
 obtain ⟨i, au⟩ := bf
 replace hm := un2_eq hm
 obtain ⟨ak, ah, q, ax, ay, aS, ad, b4⟩ := aB
 refine (Ze (Zc ?_))
 obtain ⟨p, b, hm⟩ := Zg hm
 refine W_mid (M := fun f' w' => (fun (p : Bool) => ∃ (a4 : PHeap) , PHeap.le ak a4 ∧ St w0 a4 (H) w' ∧ f' 4 = Vi (i) ∧ f' 5 = Value.bool (p)) p) ?_ ?_
 ·refine Zd (Za rfl rfl (Zm (v := Vi (i)) rfl ad (Za rfl rfl (Zm (v := Vi (i)) rfl ad (Za rfl rfl (Zm (v := Vi ((l.length : Int))) rfl aS (Za rfl rfl (Zq rfl rfl rfl (Za rfl rfl (Zm (v := Value.bool (decide (i < (l.length : Int)))) rfl rfl ?_))))))))))
  rcases ite_some b with ⟨a, b⟩ | ⟨a, b⟩
  ·refine WL_run rfl (Zf rfl (Zx a)) rfl (Zm (v := m) rfl ax (WL_run rfl (Zf rfl (Zx a)) rfl (Zm (v := Vi (i)) rfl ad ?_)))
   obtain ⟨al, az, b⟩ := Zg b
   refine WL_run rfl (Zf rfl (Zx a)) rfl (Exec.index_rep S24 rfl rfl rfl (y.mono ah) az ?_)
   intro bk b2 a6
   refine WL_run rfl (Zf rfl (Zx a)) rfl (Zw (E := (encInt .i64)) q A3 rfl rfl rfl a6 ?_)
   intro b6 aX
   obtain rfl := encInt_val.1 aX
   refine WL_run rfl (Zf rfl (Zx a)) rfl (Zm (v := Vi (c)) rfl ay (WL_run rfl (Zf rfl (Zx a)) rfl (Exec.eql rfl rfl rfl (WL_run rfl (Zf rfl (Zx a)) rfl (Zm (v := Value.bool (decide (al = c))) rfl rfl ?_)))))
   rcases ite_some b with ⟨d, b⟩ | ⟨d, b⟩
   ·refine WL_passes 9 (by rw [d]; rfl) ?_
    refine WL_run rfl (Zf rfl (Zx a)) rfl (Zs (v := Value.bool (true)) rfl rfl rfl (Za rfl rfl (Zs (v := Value.bool (true)) rfl (Zx a) rfl (Za rfl rfl (Zo (v := Vi (i)) rfl rfl (Za rfl rfl (Zo (v := Value.bool (true)) rfl rfl (Zb (Ze ?_)))))))))
    have bq := Zu b
    subst p
    exact ⟨ak, (Zv _), q, rfl, rfl⟩
   replace d := Zk d
   refine WL_run rfl (Zf rfl (Zx d)) rfl (Zm (v := m) rfl ax (WL_run rfl (Zf rfl (Zx d)) rfl (Zm (v := Vi (i)) rfl ad (WL_run rfl (Zf rfl (Zx d)) rfl (Exec.index_rep S24 rfl rfl rfl (y.mono ah) az ?_)))))
   intro bl b3 a7
   refine WL_run rfl (Zf rfl (Zx d)) rfl (Zw (E := (encInt .i64)) q A3 rfl rfl rfl a7 ?_)
   intro b7 aY
   obtain rfl := encInt_val.1 aY
   refine WL_run rfl (Zf rfl (Zx d)) rfl (Tc rfl rfl rfl (Zi rfl args_nil) (slices_isNaN_int_sim (slices_isNaN_int_tot al) q ).r ?_)
   rintro _ bC ⟨bb, aw, ap, rfl⟩
   refine WL_run rfl (Zf rfl (Zx d)) rfl (Zm (v := Value.bool ((slices_isNaN_int_t al))) rfl rfl ?_)
   rcases ite_some b with ⟨o, b⟩ | ⟨o, b⟩
   ·refine WL_run rfl (Zf rfl (Zx o)) rfl (Zm (v := Vi (c)) rfl ay (WL_run rfl (Zf rfl (Zx o)) rfl (Tc rfl rfl rfl (Zi rfl args_nil) (slices_isNaN_int_sim (slices_isNaN_int_tot c) ap ).r ?_)))
    rintro _ bD ⟨bc, aL, aE, rfl⟩
    refine WL_run rfl (Zf rfl (Zx d)) rfl (Zs (v := Value.bool ((slices_isNaN_int_t c))) rfl (Zx o) rfl (WL_run rfl (Zf rfl (Zx a)) rfl (Exec.pick_f (v := Value.bool ((slices_isNaN_int_t c))) rfl (Zx d) rfl (Za rfl rfl (Zs (v := Value.bool ((slices_isNaN_int_t c))) rfl (Zx a) rfl (Za rfl rfl (Zo (v := Vi (i)) rfl rfl (Za rfl rfl (Zo (v := Value.bool ((slices_isNaN_int_t c))) rfl rfl (Zb (Ze ?_)))))))))))
    have br := Zu b
    subst p
    exact ⟨bc, (Zt aw aL), aE, rfl, rfl⟩
   replace o := Zk o
   refine WL_passes 2 (by rw [o]; rfl) ?_
   refine WL_run rfl (Zf rfl (Zx d)) rfl (Exec.pick_f (v := Value.bool (false)) rfl rfl rfl (WL_run rfl (Zf rfl (Zx a)) rfl (Exec.pick_f (v := Value.bool (false)) rfl (Zx d) rfl (Za rfl rfl (Zs (v := Value.bool (false)) rfl (Zx a) rfl (Za rfl rfl (Zo (v := Vi (i)) rfl rfl (Za rfl rfl (Zo (v := Value.bool (false)) rfl rfl (Zb (Ze ?_)))))))))))
   have bs := Zu b
   subst p
   exact ⟨bb, aw, ap, rfl, rfl⟩
  replace a := Zk a
  refine WL_passes 18 (by rw [a]; rfl) ?_
  refine Za rfl rfl (Zo (v := Vi (i)) rfl rfl (Za rfl rfl (Zo (v := Value.bool (false)) rfl rfl (Zb (Ze ?_)))))
  have bt := Zu b
  subst p
  exact ⟨ak, (Zv _), q, rfl, rfl⟩
 intro bz bE aC
 obtain ⟨bd, aM, aF, aT, aU⟩ := aC
 refine (Ze (W_ret ?_))
 have bu := Zu hm
 subst r
 refine ⟨_, ret2 rfl, ?_⟩
 exact ⟨bd, (Zt ah aM), aF, (tup2 aT aU)⟩
theorem F81_2 : tyField Tryz.prog 81 2 = some 4 := by kernel_rfl
theorem Z121 : tyZero Tryz.prog 121 = some (Value.agg #[Value.map none, Value.map none]) := by kernel_rfl
theorem A121 : tyAgg Tryz.prog 121 = some (true, 2) := by kernel_rfl
theorem F121_0 : tyField Tryz.prog 121 0 = some 0 := by kernel_rfl
theorem A34 : tyAgg Tryz.prog 34 = some (false, 1) := by kernel_rfl
theorem F121_1 : tyField Tryz.prog 121 1 = some 1 := by kernel_rfl
theorem N86 : (Tryz.f86.name == "runtime.NumGoroutine") = false := by kernel_rfl
theorem invariant_situation_c1_sim {w0 w : World} {s : PHeap} {H : List Res} {d : Cond} {l : invariant_literals} {i : Value} {j : Value} {o : Value} {c : Nat} {a : Nat} {b : Nat} {r : BMap × BMap} (hm : invariant_situation_c1_p d l = some r) (hS : St w0 s (Res.box c 121 [Value.map (some a), Value.map (some b)] :: Res.bmap Tryz.prog 3 4 a l.pos :: Res.bmap Tryz.prog 3 4 b l.neg :: H) w) (p : SliceRep (encInt .i64) s i d.Pos) (q : SliceRep (encInt .i64) s j d.Neg) (aV : SliceRep encGTest s o d.Tests) :
  Calls Tryz.prog 86 #[Value.agg #[i, j, o], Value.pointer (some ⟨c, 0, none⟩)] w fun e w' => ∃ v, e = .returned v ∧ ((un2 fun (aA : BMap) (aB : BMap) => ∃ (al : PHeap) , PHeap.le s al ∧ St w0 al (Res.box c 121 [Value.map (some a), Value.map (some b)] :: Res.bmap Tryz.prog 3 4 a aA :: Res.bmap Tryz.prog 3 4 b aB :: H) w' ∧ v = Value.tuple #[]) r) := by
 unfold invariant_situation_c1_p at hm
 refine calls_of_W Tryz.func86 rfl rfl (Zc (Zd (Za rfl rfl (Exec.box (cs := [i, j, o]) hS rfl rfl rfl ?_))))
 intro aa bo ab
 refine Zb (Ze (Zc (Zc (Zd (Za rfl rfl (Zp F59_0 rfl rfl rfl (Za rfl rfl (Zn (ab) A24 rfl rfl rfl (Za rfl rfl (Zr S24 rfl rfl p (Za rfl rfl (Zm (v := Vi (0)) rfl rfl (Zb (Ze ?_))))))))))))))
 obtain ⟨m, av, hm⟩ := Zg hm
 refine W_block (W_forS (fun k' s' f' w' => (fun (m : BMap) => ∃ (am : PHeap) , PHeap.le s am ∧ St w0 am (Res.box c 121 [Value.map (some a), Value.map (some b)] :: Res.bmap Tryz.prog 3 4 a m :: Res.bmap Tryz.prog 3 4 b l.neg :: Res.box aa 59 [i, j, o] :: H) w' ∧ f' 1 = Value.pointer (some ⟨c, 0, none⟩) ∧ f' 2 = Value.pointer (some ⟨aa, 0, none⟩) ∧ f' 8 = i ∧ f' 9 = Vi ((d.Pos.length : Int)) ∧ f' 10 = Vi (k' : Int)) s') av ?_ ?_ ?_)
 ·have a1 := (ab).f3
  exact ⟨s, (Zv _), ((a1).f3).f3, rfl, rfl, rfl, rfl, rfl⟩
 ·intro a8 m aO bb bp a6 ax g
  obtain ⟨aP, ad, t, af, aD, ag, ah, y⟩ := ax
  refine Zc (Zd (Za rfl rfl (Zq rfl y ah (Zb (Ze (Zc (W_true (Zx (decide_eq_true (by omega))) (W_skip (Ze (Zc (W_block (Zc (Zd ?_)))))))))))))
  obtain ⟨ap, aI, g⟩ := Zg g
  refine Za rfl rfl (Exec.index_rep S24 rfl ag y (p.mono ad) aI ?_)
  intro aW bh ar
  refine Za rfl rfl (Zw (E := (encInt .i64)) t A3 rfl rfl rfl ar ?_)
  intro bm aJ
  obtain rfl := encInt_val.1 aJ
  refine Za rfl rfl (Zo (v := Vi (ap)) rfl rfl (Zb (Ze (Zd (Za rfl rfl (Zp F121_0 rfl af rfl (Za rfl rfl (Zn (t) A34 rfl rfl rfl (Za rfl rfl (Zm (v := Vi (ap)) rfl rfl ?_))))))))))
  obtain ⟨bf, aK, g⟩ := Zg g
  refine Za rfl rfl (Exec.bmap_put (t).f1 ⟨Tryz.underlying34, Tryz.underlying3, Tryz.underlying4⟩ rfl rfl rfl rfl aK ?_)
  intro bq a2
  refine Zb (ib_normal (Ze (Zd (Za rfl rfl (Exec.add rfl y rfl (Za rfl rfl (Zm (v := Vi (IntKind.i64.wrap ((a8 : Int) + 1))) rfl rfl (Zb (Ze ?_)))))))))
  have aY := Zu g
  subst aO
  exact ⟨aP, ad, ((((a2).f3).f3).f2).f3, af, aD, ag, ah, (Eq.trans rfl (wrap_up a6 (SliceRep.le p)))⟩
 intro bc br ay
 obtain ⟨an, n, ac, aE, aF, bj, aG, aT⟩ := ay
 refine Zc (Zd (Za rfl rfl (Zq rfl aT aG (Zb (Ze (Zc (W_false (Zx (decide_eq_false (by omega))) (W_exit (at_exit (at_exit (ib_here (Ze (Zc (Zd (Za rfl rfl (Zp F59_1 rfl aF rfl (Za rfl rfl (Zn ((ac).f3) A24 rfl rfl rfl (Za rfl rfl (Zr S24 rfl rfl (q.mono n) (Za rfl rfl (Zm (v := Vi (0)) rfl rfl (Zb (Ze ?_))))))))))))))))))))))))
 obtain ⟨x, aw, hm⟩ := Zg hm
 refine W_block (W_forS (fun k' s' f' w' => (fun (x : BMap) => ∃ (ao : PHeap) , PHeap.le an ao ∧ St w0 ao (Res.box c 121 [Value.map (some a), Value.map (some b)] :: Res.bmap Tryz.prog 3 4 a m :: Res.bmap Tryz.prog 3 4 b x :: H) w' ∧ f' 1 = Value.pointer (some ⟨c, 0, none⟩) ∧ f' 19 = j ∧ f' 20 = Vi ((d.Neg.length : Int)) ∧ f' 21 = Vi (k' : Int)) s') aw ?_ ?_ ?_)
 ·have a3 := ((ac).f3).drop
  exact ⟨an, (Zv _), (((a3).f2).f2).f2, aE, rfl, rfl, rfl⟩
 ·intro a9 x aQ bd bs a7 az h
  obtain ⟨aR, ae, u, ai, aj, ak, z⟩ := az
  refine Zc (Zd (Za rfl rfl (Zq rfl z ak (Zb (Ze (Zc (W_true (Zx (decide_eq_true (by omega))) (W_skip (Ze (Zc (W_block (Zc (Zd ?_)))))))))))))
  obtain ⟨aq, aL, h⟩ := Zg h
  refine Za rfl rfl (Exec.index_rep S24 rfl aj z (q.mono (Zt n ae)) aL ?_)
  intro aX bi au
  refine Za rfl rfl (Zw (E := (encInt .i64)) u A3 rfl rfl rfl au ?_)
  intro bn aM
  obtain rfl := encInt_val.1 aM
  refine Za rfl rfl (Zo (v := Vi (aq)) rfl rfl (Zb (Ze (Zd (Za rfl rfl (Zp F121_1 rfl ai rfl (Za rfl rfl (Zn (u) A34 rfl rfl rfl (Za rfl rfl (Zm (v := Vi (aq)) rfl rfl ?_))))))))))
  obtain ⟨bg, aN, h⟩ := Zg h
  refine Za rfl rfl (Exec.bmap_put (u).f2 ⟨Tryz.underlying34, Tryz.underlying3, Tryz.underlying4⟩ rfl rfl rfl rfl aN ?_)
  intro bt a4
  refine Zb (ib_normal (Ze (Zd (Za rfl rfl (Exec.add rfl z rfl (Za rfl rfl (Zm (v := Vi (IntKind.i64.wrap ((a9 : Int) + 1))) rfl rfl (Zb (Ze ?_)))))))))
  have aZ := Zu h
  subst aQ
  exact ⟨aR, ae, ((a4).f2).f2, ai, aj, ak, (Eq.trans rfl (wrap_up a7 (SliceRep.le (q.mono n))))⟩
 intro be bu a0
 obtain ⟨aS, aC, a5, bk, bl, aH, aU⟩ := a0
 refine Zc (Zd (Za rfl rfl (Zq rfl aU aH (Zb (Ze (Zc (W_false (Zx (decide_eq_false (by omega))) (W_exit (at_exit (at_exit (ib_here ?_)))))))))))
 have ba := Zu hm
 subst r
 refine ⟨_, retG0 rfl, ?_⟩
 exact ⟨aS, (Zt n aC), (((a5).f2).f2).f2, rfl⟩
theorem invariant_situation_sim {w0 w : World} {s : PHeap} {H : List Res} {i : GOp} {aw : (List GChange)} {j : Int} {ag : (List Int)} {am : Value} {an : Value} {ao : Value} {aC : Value} {aD : Value} {ap : Value} {t : Value} {r : Bool × invariant_literals} (hm : invariant_situation_p i aw j ag = some r) (hS : St w0 s (H) w) (br : SliceRep (encInt .i64) s am i.Pre.Pos) (bs : SliceRep (encInt .i64) s an i.Pre.Neg) (bt : SliceRep encGTest s ao i.Pre.Tests) (cC : SliceRep encGChange s aC i.Changes) (cD : SliceRep encGAssign s aD i.Assigns) (au : SliceRep encGChange s ap aw) (av : SliceRep (encInt .i64) s t ag) :
  Calls Tryz.prog 71 #[Value.agg #[Value.string (i.Name), Vi (i.Cost), am, an, ao, aC, aD], ap, Vi (j), t] w fun e w' => ∃ v, e = .returned v ∧ ((un2 fun (cB : Bool) (bq : invariant_literals) => ∃ (be : PHeap) (bo : Nat) (bp : Nat), PHeap.le s be ∧ St w0 be (Res.bmap Tryz.prog 3 4 bo bq.pos :: Res.bmap Tryz.prog 3 4 bp bq.neg :: H) w' ∧ v = Value.tuple #[Value.agg #[Value.map (some bo), Value.map (some bp)], Value.bool (cB)]) r) := by
 unfold invariant_situation_p at hm
 refine calls_of_W Tryz.func71 rfl rfl (Zc (Zd (Za rfl rfl (Exec.box (cs := [Value.string (i.Name), Vi (i.Cost), am, an, ao, aC, aD]) hS rfl rfl rfl ?_))))
 intro cE du b6
 refine Za rfl rfl (Exec.alloc (cs := [Value.map none, Value.map none]) b6 Z121 rfl rfl ?_)
 intro h dv b7
 refine Za rfl rfl (Zo (v := Value.bool (false)) rfl rfl (Zb (Ze (Zc (Zd (Za rfl rfl (Exec.make_bmap (k := 3) (e := 4) b7 rfl ?_)))))))
 intro a dw b8
 refine Za rfl rfl (Exec.make_bmap (k := 3) (e := 4) b8 rfl ?_)
 intro b dx b9
 refine Za rfl rfl (Exec.build rfl (parts_cons (c := [Value.map (some a)]) (cells_of rfl rfl) (parts_cons (c := [Value.map (some b)]) (cells_of rfl rfl) parts_nil)) (v := Value.agg #[Value.map (some a), Value.map (some b)]) (fun _ => by kernel_rfl) (Za rfl rfl (Exec.alloc (cs := [Value.map none, Value.map none]) b9 Z121 rfl rfl ?_)))
 intro g dy bA
 refine Za rfl rfl (Exec.store_box (ds := [Value.map (some a), Value.map (some b)]) (es := [Value.map (some a), Value.map (some b)]) bA A121 rfl rfl rfl rfl (Zj rfl (Zj rfl one_nil)) (Nat.le_of_ble_eq_true rfl) rfl ?_)
 intro dz aG
 refine Zb (Ze (Zc (Zd (Za rfl rfl (Exec.makeFunc rfl (Zi rfl args_nil) (Za rfl rfl (Zo (v := Value.func (.func 86) #[] #[Value.pointer (some ⟨g, 0, none⟩)]) rfl rfl (Zb (Ze (Zc (Zd (Za rfl rfl (Zm (v := Value.func (.func 86) #[] #[Value.pointer (some ⟨g, 0, none⟩)]) rfl rfl (Za rfl rfl (Zp F63_2 rfl rfl rfl (Za rfl rfl (Exec.load_box_agg (ds := [am, an, ao]) ((aG).f4) A59 rfl rfl rfl ?_)))))))))))))))))
 obtain ⟨c5, cr, hm⟩ := Zg hm
 obtain ⟨da, db⟩ := c5
 replace hm := un2_eq hm
 refine Za rfl rfl (Exec.callc rfl rfl Tryz.func86 rfl N86 (Zi rfl args_nil) rfl ((invariant_situation_c1_sim cr (((aG).f1).f2).f2 br bs bt).mono ?_))
 rintro _ d0 ⟨_, rfl, ⟨bf, n, bB, rfl⟩⟩
 refine ⟨_, rfl, ?_⟩
 refine Zb (Ze (Zc (Zc (Zd (Za rfl rfl (Zm (v := ap) rfl rfl (Za rfl rfl (Zr S60 rfl rfl (au.mono n) (Za rfl rfl (Zm (v := Vi (0)) rfl rfl (Zb (Ze ?_))))))))))))
 obtain ⟨c6, bw, hm⟩ := Zg hm
 refine W_block (W_forS (fun k' s' f' w' => (un2 fun (ay : BMap) (ai : BMap) => ∃ (bg : PHeap) , PHeap.le bf bg ∧ St w0 bg (Res.box h 121 [Value.map none, Value.map none] :: Res.box g 121 [Value.map (some a), Value.map (some b)] :: Res.bmap Tryz.prog 3 4 a ay :: Res.bmap Tryz.prog 3 4 b ai :: H) w' ∧ f' 2 = Vi (j) ∧ f' 3 = t ∧ f' 8 = Value.pointer (some ⟨h, 0, none⟩) ∧ f' 10 = Value.pointer (some ⟨g, 0, none⟩) ∧ f' 11 = Value.func (.func 86) #[] #[Value.pointer (some ⟨g, 0, none⟩)] ∧ f' 25 = ap ∧ f' 26 = Vi ((aw.length : Int)) ∧ f' 27 = Vi (k' : Int)) s') bw ?_ ?_ ?_)
 ·have bC := ((bB).f4).drop
  exact ⟨bf, (Zv _), ((((bC).f2).f2).f2).f3, rfl, rfl, rfl, rfl, rfl, rfl, rfl, rfl⟩
 ·intro bX c7 c1 cT d1 bR bz l
  obtain ⟨ay, ai⟩ := c7
  replace l := un2_eq l
  obtain ⟨dn, aQ, aH, ca, cb, cc, cd, aT, aU, aV, aE⟩ := bz
  refine Zc (Zd (Za rfl rfl (Zq rfl aE aV (Zb (Ze (Zc (W_true (Zx (decide_eq_true (by omega))) (W_skip (Ze (Zc (W_block (Zc (Zd ?_)))))))))))))
  obtain ⟨aq, ct, l⟩ := Zg l
  refine Za rfl rfl (Exec.index_rep S60 rfl aU aE (au.mono (Zt n aQ)) ct ?_)
  intro cF dg bu
  refine Za rfl rfl (Zw (E := encGChange) aH A81 rfl rfl rfl bu ?_)
  intro dq cu
  obtain ⟨a9, aA, aB, rfl, ba, bb, bc⟩ := encGChange_val.1 cu
  refine Za rfl rfl (Exec.alloc (cs := [Value.slice none 0 0, Value.slice none 0 0, Value.slice none 0 0, Vi (0), Value.bool (false)]) aH Z81 rfl rfl ?_)
  intro cG d2 bD
  refine Za rfl rfl (Exec.store_box (ds := [a9, aA, aB, Vi (aq.Atom), Value.bool (aq.Add)]) (es := [a9, aA, aB, Vi (aq.Atom), Value.bool (aq.Add)]) bD A81 rfl rfl rfl rfl (Zj (ba).one (Zj (bb).one (Zj (bc).one (Zj rfl (Zj rfl one_nil))))) (Nat.le_of_ble_eq_true rfl) rfl ?_)
  intro d3 aI
  refine Zb (Ze (Zd (Za rfl rfl (Zm (v := Value.func (.func 86) #[] #[Value.pointer (some ⟨g, 0, none⟩)]) rfl aT (Za rfl rfl (Zp F81_0 rfl rfl rfl (Za rfl rfl (Exec.load_box_agg (ds := [a9, aA, aB]) (aI) A59 rfl rfl rfl ?_))))))))
  obtain ⟨c8, cv, l⟩ := Zg l
  obtain ⟨dc, dd⟩ := c8
  replace l := un2_eq l
  refine Za rfl rfl (Exec.callc rfl rfl Tryz.func86 rfl N86 (Zi rfl args_nil) rfl ((invariant_situation_c1_sim cv (((aI).f4).f4).f4 ba bb bc).mono ?_))
  rintro _ d4 ⟨_, rfl, ⟨c2, bY, bE, rfl⟩⟩
  refine ⟨_, rfl, ?_⟩
  refine Zb (ib_normal (Ze (Zd (Za rfl rfl (Exec.add rfl aE rfl (Za rfl rfl (Zm (v := Vi (IntKind.i64.wrap ((bX : Int) + 1))) rfl rfl (Zb (Ze ?_)))))))))
  have cJ := Zu l
  subst c1
  exact ⟨c2, (Zt aQ bY), ((((((bE).f3).drop).f2).f2).f2).f3, ca, cb, cc, cd, aT, aU, aV, (Eq.trans rfl (wrap_up bR (SliceRep.le (au.mono n))))⟩
 intro cU d5 b0
 obtain ⟨ay, ai⟩ := c6
 replace hm := un2_eq hm
 obtain ⟨a6, ab, ax, ak, aW, aX, a0, di, dj, ce, c9⟩ := b0
 refine Zc (Zd (Za rfl rfl (Zq rfl c9 ce (Zb (Ze (Zc (W_false (Zx (decide_eq_false (by omega))) (W_exit (at_exit (at_exit (ib_here (Ze (Zc (Zc (Zd (Za rfl rfl (Zm (v := Vi (j)) rfl ak (Za rfl rfl (Exec.geq rfl rfl rfl (Zb (Ze ?_)))))))))))))))))))))
 obtain ⟨o, p, hm⟩ := Zg hm
 refine W_mid (M := fun f' w' => (fun (o : BMap) => ∃ (bh : PHeap) , PHeap.le a6 bh ∧ St w0 bh (Res.box h 121 [Value.map none, Value.map none] :: Res.box g 121 [Value.map (some a), Value.map (some b)] :: Res.bmap Tryz.prog 3 4 a o :: Res.bmap Tryz.prog 3 4 b ai :: H) w' ∧ f' 2 = Vi (j) ∧ f' 3 = t ∧ f' 8 = Value.pointer (some ⟨h, 0, none⟩) ∧ f' 10 = Value.pointer (some ⟨g, 0, none⟩)) o) ?_ ?_
 ·rcases ite_some p with ⟨x, p⟩ | ⟨x, p⟩
  ·refine W_cond_t rfl x (Zd (Za rfl rfl (Zp F121_0 rfl a0 rfl (Za rfl rfl (Zn ((ax).f1) A34 rfl rfl rfl (Za rfl rfl (Zm (v := Vi (j)) rfl ak ?_)))))))
   obtain ⟨de, cw, p⟩ := Zg p
   refine Za rfl rfl (Exec.bmap_put (ax).f2 ⟨Tryz.underlying34, Tryz.underlying3, Tryz.underlying4⟩ rfl rfl rfl rfl cw ?_)
   intro d6 bF
   refine Zb (Ze ?_)
   have cK := Zu p
   subst o
   exact ⟨a6, (Zv _), ((((bF).f3).f1).f3).f3, ak, aW, aX, a0⟩
  refine W_cond_f rfl x ?_
  replace x := Zk x
  refine W_skip (Ze ?_)
  have cL := Zu p
  subst o
  exact ⟨a6, (Zv _), ((((ax).f3).f3).f3).f3, ak, aW, aX, a0⟩
 intro cV d7 b4
 obtain ⟨bi, ac, bG, cf, cg, ch, ci⟩ := b4
 refine (Ze (Zc (Zc (Zd (Za rfl rfl (Zm (v := t) rfl cg (Za rfl rfl (Zr S24 rfl rfl (av.mono (Zt (Zt n ab) ac)) (Za rfl rfl (Zm (v := Vi (0)) rfl rfl (Zb (Ze ?_))))))))))))
 obtain ⟨aj, bx, hm⟩ := Zg hm
 refine W_block (W_forS (fun k' s' f' w' => (fun (aj : BMap) => ∃ (bj : PHeap) , PHeap.le bi bj ∧ St w0 bj (Res.box h 121 [Value.map none, Value.map none] :: Res.box g 121 [Value.map (some a), Value.map (some b)] :: Res.bmap Tryz.prog 3 4 a o :: Res.bmap Tryz.prog 3 4 b aj :: H) w' ∧ f' 2 = Vi (j) ∧ f' 8 = Value.pointer (some ⟨h, 0, none⟩) ∧ f' 10 = Value.pointer (some ⟨g, 0, none⟩) ∧ f' 41 = t ∧ f' 42 = Vi ((ag.length : Int)) ∧ f' 43 = Vi (k' : Int)) s') bx ?_ ?_ ?_)
 ·have bH := (bG).f3
  exact ⟨bi, (Zv _), (((bH).f3).f3).f3, cf, ch, ci, rfl, rfl, rfl⟩
 ·intro aP aj c3 cW d8 bS b1 aa
  obtain ⟨a7, aR, ah, a1, aY, a2, a3, a4, ar⟩ := b1
  refine Zc (Zd (Za rfl rfl (Zq rfl ar a4 (Zb (Ze (Zc (W_true (Zx (decide_eq_true (by omega))) (W_skip (Ze (Zc (W_block (Zc (Zd ?_)))))))))))))
  obtain ⟨aF, cx, aa⟩ := Zg aa
  refine Za rfl rfl (Exec.index_rep S24 rfl a3 ar (av.mono (Zt (Zt (Zt n ab) ac) aR)) cx ?_)
  intro cH dh bv
  refine Za rfl rfl (Zw (E := (encInt .i64)) ah A3 rfl rfl rfl bv ?_)
  intro dr cy
  obtain rfl := encInt_val.1 cy
  refine Za rfl rfl (Zo (v := Vi (aF)) rfl rfl (Zb (Ze (Zc (Zd (Za rfl rfl (Zm (v := Vi (aF)) rfl rfl (Za rfl rfl (Zm (v := Vi (j)) rfl a1 (Za rfl rfl (Exec.neq rfl rfl rfl (Zb (Ze ?_)))))))))))))
  obtain ⟨ad, q, aa⟩ := Zg aa
  refine W_mid (M := fun f' w' => (fun (ad : BMap) => ∃ (bk : PHeap) , PHeap.le a7 bk ∧ St w0 bk (Res.box h 121 [Value.map none, Value.map none] :: Res.box g 121 [Value.map (some a), Value.map (some b)] :: Res.bmap Tryz.prog 3 4 a o :: Res.bmap Tryz.prog 3 4 b ad :: H) w' ∧ f' 2 = Vi (j) ∧ f' 8 = Value.pointer (some ⟨h, 0, none⟩) ∧ f' 10 = Value.pointer (some ⟨g, 0, none⟩) ∧ f' 41 = t ∧ f' 42 = Vi ((ag.length : Int)) ∧ f' 43 = Vi ((aP : Int))) ad) ?_ ?_
  ·rcases ite_some q with ⟨y, q⟩ | ⟨y, q⟩
   ·refine W_cond_t rfl y (Zd (Za rfl rfl (Zp F121_1 rfl a2 rfl (Za rfl rfl (Zn ((ah).f1) A34 rfl rfl rfl (Za rfl rfl (Zm (v := Vi (aF)) rfl rfl ?_)))))))
    obtain ⟨df, cz, q⟩ := Zg q
    refine Za rfl rfl (Exec.bmap_put (ah).f3 ⟨Tryz.underlying34, Tryz.underlying3, Tryz.underlying4⟩ rfl rfl rfl rfl cz ?_)
    intro d9 bI
    refine Zb (Ze ?_)
    have cM := Zu q
    subst ad
    exact ⟨a7, (Zv _), (((bI).f3).f3).f3, a1, aY, a2, a3, a4, ar⟩
   refine W_cond_f rfl y ?_
   replace y := Zk y
   refine W_skip (Ze ?_)
   have cN := Zu q
   subst ad
   exact ⟨a7, (Zv _), ((((ah).f3).f3).f3).f3, a1, aY, a2, a3, a4, ar⟩
  intro cX dA b5
  obtain ⟨c4, bZ, bJ, cj, ck, cl, cm, cn, co⟩ := b5
  refine (ib_normal (Ze (Zd (Za rfl rfl (Exec.add rfl co rfl (Za rfl rfl (Zm (v := Vi (IntKind.i64.wrap ((aP : Int) + 1))) rfl rfl (Zb (Ze ?_)))))))))
  have cO := Zu aa
  subst c3
  exact ⟨c4, (Zt aR bZ), ((((bJ).f3).f3).f3).f3, cj, ck, cl, cm, cn, (Eq.trans rfl (wrap_up bS (SliceRep.le (av.mono (Zt (Zt n ab) ac)))))⟩
 intro cY dB b2
 obtain ⟨bl, aS, aJ, dk, cp, aZ, dl, cq, cA⟩ := b2
 refine Zc (Zd (Za rfl rfl (Zq rfl cA cq (Zb (Ze (Zc (W_false (Zx (decide_eq_false (by omega))) (W_exit (at_exit (at_exit (ib_here (Ze (Zc (Zc (Zd (Za rfl rfl (Zp F121_0 rfl aZ rfl (Za rfl rfl (Zn ((aJ).f1) A34 rfl rfl rfl (Za rfl rfl (Exec.bmap_range (aJ).f2 ⟨Tryz.underlying34, Tryz.underlying3, Tryz.underlying4⟩ rfl rfl ?_)))))))))))))))))))))
 intro bd dC bK
 refine Zb (Ze (W_block (W_rangeC (fun d' s' f' w' => (fun (_ : Unit) => ∃ (bm : PHeap) , PHeap.le bl bm ∧ St w0 bm (Res.box h 121 [Value.map none, Value.map none] :: Res.box g 121 [Value.map (some a), Value.map (some b)] :: Res.brange Tryz.prog 3 4 a bd o d' :: Res.bmap Tryz.prog 3 4 b aj :: H) w' ∧ f' 8 = Value.pointer (some ⟨h, 0, none⟩) ∧ f' 10 = Value.pointer (some ⟨g, 0, none⟩) ∧ f' 56 = Value.pointer (some ⟨bd, 0, none⟩)) s') hm ?_ ?_)))
 ·have bL := (bK).f3
  exact ⟨bl, (Zv _), (((bL).f1).f3).f3, cp, aZ, rfl⟩
 intro cI dp cZ dD b3 bP bU
 obtain ⟨a8, az, bM, ae, al, a5⟩ := b3
 refine Zc (Zd (Za rfl rfl (Exec.brange_next (bM).f2 ⟨Tryz.underlying34, Tryz.underlying3, Tryz.underlying4⟩ rfl a5 ?_ ?_)))
 ·intro bO aK
  have bT := bP bO
  refine Za rfl rfl (Exec.extract (v := Value.bool (false)) rfl rfl rfl (Zb (Ze (Zc (W_false rfl (W_exit (at_exit (at_exit (ib_here (Ze (Zc (Zd (Za rfl rfl (Exec.load_box_agg (ds := [Value.map (some a), Value.map (some b)]) ((aK).f2) A121 rfl al rfl (Za rfl rfl (Exec.store_box (ds := [Value.map (some a), Value.map (some b)]) (es := [Value.map (some a), Value.map (some b)]) (aK).f1 A121 rfl ae rfl rfl (Zj rfl (Zj rfl one_nil)) (Nat.le_of_ble_eq_true rfl) rfl ?_))))))))))))))))
  intro dE aL
  refine Za rfl rfl (Zo (v := Value.bool (true)) rfl rfl (Zb (Ze (W_ret ?_))))
  have cP := Zu bT
  subst r
  refine ⟨_, retG2 rfl ⟨_, _, ae, cellRes (aL) A121⟩ rfl, ?_⟩
  exact ⟨a8, a, b, (Zt (Zt (Zt (Zt n ab) ac) aS) az), (((((aL).drop).f1).drop).f1).f1, (tup2 rfl rfl)⟩
 intro af dt dF aN aO u bQ
 obtain ⟨bn, m, bW⟩ := bU af aN aO
 have hm44372k := m
 refine Za rfl rfl (Exec.extract (v := Value.bool (true)) rfl rfl rfl (Zb (Ze (Zc (W_true rfl (W_skip (Ze (W_block (Zc (Zd (Za rfl rfl (Exec.entry rfl a5 bQ (Za rfl rfl (Exec.extract (v := Vi (af)) rfl rfl rfl (Za rfl rfl (Zo (v := Vi (af)) rfl rfl (Zb (Ze (Zc (Zd (Za rfl rfl (Zp F121_1 rfl al rfl (Za rfl rfl (Zn ((u).f2) A34 rfl rfl rfl (Za rfl rfl (Zm (v := Vi (af)) rfl rfl ?_))))))))))))))))))))))))))
 obtain ⟨dm, c0, m⟩ := Zg m
 refine Za rfl rfl (Exec.bmap_get ((u).f3) ⟨Tryz.underlying34, Tryz.underlying3, Tryz.underlying4⟩ Z4 rfl rfl rfl c0 (Zb (Ze ?_)))
 rcases ite_some m with ⟨z, m⟩ | ⟨z, m⟩
 ·refine W_cond_t rfl z (Zc (Zd (Za rfl rfl (Exec.load_box_agg (ds := [Value.map (some a), Value.map (some b)]) ((u).f2) A121 rfl al rfl (Za rfl rfl (Exec.store_box (ds := [Value.map (some a), Value.map (some b)]) (es := [Value.map (some a), Value.map (some b)]) (u).f1 A121 rfl ae rfl rfl (Zj rfl (Zj rfl one_nil)) (Nat.le_of_ble_eq_true rfl) rfl ?_))))))
  intro dG bN
  refine Za rfl rfl (Zo (v := Value.bool (false)) rfl rfl (Zb (Ze (W_ret (ib_ret (at_ret (ib_ret (at_ret ?_))))))))
  have aM := St.brange_stop (bN).f1
  have cQ := Zu m
  subst bn
  have bV := bW _ rfl
  have cR := Zu bV
  subst r
  refine ⟨_, retG2 rfl ⟨_, _, ae, cellRes ((aM).f1) A121⟩ rfl, ?_⟩
  exact ⟨a8, a, b, (Zt (Zt (Zt (Zt n ab) ac) aS) az), ((((((aM).f1).drop).f1).drop).f1).f1, (tup2 rfl rfl)⟩
 refine W_cond_f rfl z ?_
 replace z := Zk z
 refine W_skip (ib_normal (Ze ?_))
 have cS := Zu m
 subst bn
 exact ⟨af, _, aN, aO, hm44372k, ⟨a8, az, ((((u).f3).f1).f3).f3, ae, al, a5⟩⟩
theorem invariant_literals_deletes_o_sim {w0 w : World} {s : PHeap} {H : List Res} {b : invariant_literals} {g : GOp} {l : Int} {c : Nat} {d : Nat} {aE : Value} {aF : Value} {aG : Value} {o : Value} {aH : Value} {r : Bool} (hm : invariant_literals_deletes_o_p b g l = some r) (hS : St w0 s (Res.bmap Tryz.prog 3 4 c b.pos :: Res.bmap Tryz.prog 3 4 d b.neg :: H) w) (cW : SliceRep (encInt .i64) s aE g.Pre.Pos) (cX : SliceRep (encInt .i64) s aF g.Pre.Neg) (cY : SliceRep encGTest s aG g.Pre.Tests) (aq : SliceRep encGChange s o g.Changes) (cZ : SliceRep encGAssign s aH g.Assigns) :
  Calls Tryz.prog 72 #[Value.agg #[Value.map (some c), Value.map (some d)], Value.agg #[Value.string (g.Name), Vi (g.Cost), aE, aF, aG, o, aH], Vi (l)] w fun e w' => ∃ v, e = .returned v ∧ ((fun (cV : Bool) => ∃ (bm : PHeap) , PHeap.le s bm ∧ St w0 bm (Res.bmap Tryz.prog 3 4 c b.pos :: Res.bmap Tryz.prog 3 4 d b.neg :: H) w' ∧ v = Value.bool (cV)) r) := by
 unfold invariant_literals_deletes_o_p at hm
 refine calls_of_W Tryz.func72 rfl rfl (Zc (Zd (Za rfl rfl (Exec.box (cs := [Value.map (some c), Value.map (some d)]) hS rfl rfl rfl ?_))))
 intro j dI bF
 refine Za rfl rfl (Exec.box (cs := [Value.string (g.Name), Vi (g.Cost), aE, aF, aG, o, aH]) bF rfl rfl rfl ?_)
 intro da dJ aJ
 refine Za rfl rfl (Zo (v := Value.bool (false)) rfl rfl (Zb (Ze (Zc (Zc (Zd (Za rfl rfl (Zp F63_3 rfl rfl rfl (Za rfl rfl (Zn (aJ) A60 rfl rfl rfl (Za rfl rfl (Zr S60 rfl rfl aq (Za rfl rfl (Zm (v := Vi (0)) rfl rfl (Zb (Ze ?_))))))))))))))))
 obtain ⟨aI, b2, bT, bR, bO⟩ := ctl_some hm
 refine W_mid (M := fun f' w' => ∃ s', (aI = .next s' ∨ aI = .brk s') ∧ (fun (_ : Unit) => ∃ (bn : PHeap) , PHeap.le s bn ∧ St w0 bn (Res.bmap Tryz.prog 3 4 c b.pos :: Res.bmap Tryz.prog 3 4 d b.neg :: Res.box j 121 [Value.map (some c), Value.map (some d)] :: H) w' ∧ f' 2 = Vi (l) ∧ f' 3 = Value.pointer (some ⟨j, 0, none⟩) ∧ f' 15 = o ∧ f' 16 = Vi ((g.Changes.length : Int))) s') ?_ ?_
 ·refine W_block (W_forC (fun k' s' f' w' => (fun (_ : Unit) => ∃ (bo : PHeap) , PHeap.le s bo ∧ St w0 bo (Res.bmap Tryz.prog 3 4 c b.pos :: Res.bmap Tryz.prog 3 4 d b.neg :: Res.box j 121 [Value.map (some c), Value.map (some d)] :: H) w' ∧ f' 2 = Vi (l) ∧ f' 3 = Value.pointer (some ⟨j, 0, none⟩) ∧ f' 15 = o ∧ f' 16 = Vi ((g.Changes.length : Int)) ∧ f' 17 = Vi (k' : Int)) s') b2 ?_ ?_ ?_)
  ·have bG := (aJ).drop
   exact ⟨s, (Zv _), ((bG).f2).f2, rfl, rfl, rfl, rfl, rfl⟩
  ·intro y dC a2 dq dK aO b5 i bU
   obtain ⟨az, ar, aK, au, a4, av, aw, ap⟩ := b5
   refine Zc (Zd (Za rfl rfl (Zq rfl ap aw (Zb (Ze (Zc (W_true (Zx (decide_eq_true (by omega))) (W_skip (Ze (Zc (W_block (Zc (Zd ?_)))))))))))))
   obtain ⟨a, cE, i⟩ := Zg i
   refine Za rfl rfl (Exec.index_rep S60 rfl av ap (aq.mono ar) cE ?_)
   intro db d1 bz
   refine Za rfl rfl (Zw (E := encGChange) aK A81 rfl rfl rfl bz ?_)
   intro dF cF
   obtain ⟨z, aa, ao, rfl, ax, ay, bl⟩ := encGChange_val.1 cF
   refine Za rfl rfl (Exec.alloc (cs := [Value.slice none 0 0, Value.slice none 0 0, Value.slice none 0 0, Vi (0), Value.bool (false)]) aK Z81 rfl rfl ?_)
   intro ac dL bH
   refine Za rfl rfl (Exec.store_box (ds := [z, aa, ao, Vi (a.Atom), Value.bool (a.Add)]) (es := [z, aa, ao, Vi (a.Atom), Value.bool (a.Add)]) bH A81 rfl rfl rfl rfl (Zj (ax).one (Zj (ay).one (Zj (bl).one (Zj rfl (Zj rfl one_nil))))) (Nat.le_of_ble_eq_true rfl) rfl ?_)
   intro dM ad
   refine Zb (Ze (Zc (Zc (W_mid (M := fun f' w' => ∃ (bp : PHeap) , PHeap.le az bp ∧ St w0 bp (Res.bmap Tryz.prog 3 4 c b.pos :: Res.bmap Tryz.prog 3 4 d b.neg :: Res.box j 121 [Value.map (some c), Value.map (some d)] :: Res.box ac 81 [z, aa, ao, Vi (a.Atom), Value.bool (a.Add)] :: H) w' ∧ f' 2 = Vi (l) ∧ f' 3 = Value.pointer (some ⟨j, 0, none⟩) ∧ f' 8 = Value.pointer (some ⟨ac, 0, none⟩) ∧ f' 15 = o ∧ f' 16 = Vi ((g.Changes.length : Int)) ∧ f' 17 = Vi ((y : Int)) ∧ f' 35 = Value.bool ((a.Add || ((!decide (a.Atom = l)) || decide (0 < (a.When.Tests.length : Int)))))) ?_ ?_))))
   ·refine Zd (Za rfl rfl (Zp F81_2 rfl rfl rfl (Za rfl rfl (Zn (ad) A4 rfl rfl rfl (Za rfl rfl (Zm (v := Value.bool (a.Add)) rfl rfl ?_))))))
    by_cases m : a.Add = true
    ·refine WL_passes 12 (by rw [m]; rfl) ?_
     refine Zb (Ze ?_)
     exact ⟨az, (Zv _), (((ad).f3).f3).f3, au, a4, rfl, av, aw, ap, (Zx (or_t m)).symm⟩
    replace m := Zk m
    refine WL_run rfl (Zf rfl (Zx m)) rfl (Zp F81_1 rfl rfl rfl (WL_run rfl (Zf rfl (Zx m)) rfl (Zn (ad) A3 rfl rfl rfl (WL_run rfl (Zf rfl (Zx m)) rfl (Zm (v := Vi (l)) rfl au (WL_run rfl (Zf rfl (Zx m)) rfl (Exec.neq rfl rfl rfl ?_)))))))
    refine WL_passes 2 (by rw [m]; rfl) ?_
    by_cases n : (!decide (a.Atom = l)) = true
    ·refine WL_passes 6 (by rw [n]; rfl) ?_
     refine Zb (Ze ?_)
     exact ⟨az, (Zv _), (((ad).f3).f3).f3, au, a4, rfl, av, aw, ap, (Zx (Eq.trans (or_f m) (or_t n))).symm⟩
    replace n := Zk n
    refine WL_run rfl (Zf rfl (Zx n)) rfl (Zp F81_0 rfl rfl rfl (WL_run rfl (Zf rfl (Zx n)) rfl (Zp F59_2 rfl rfl rfl (WL_run rfl (Zf rfl (Zx n)) rfl (Zn (ad) A57 rfl rfl rfl (WL_run rfl (Zf rfl (Zx n)) rfl (Zr S57 rfl rfl bl (WL_run rfl (Zf rfl (Zx n)) rfl (Exec.gtr rfl rfl rfl (Za rfl rfl (Exec.pick_f (v := Value.bool (decide (0 < (a.When.Tests.length : Int)))) rfl (Zx n) rfl (Zb (Ze ?_)))))))))))))
    exact ⟨az, (Zv _), (((ad).f3).f3).f3, au, a4, rfl, av, aw, ap, (Zx (Eq.trans (or_f m) (or_f n))).symm⟩
   intro dr dN bB
   obtain ⟨aB, t, a3, aU, aV, aW, aX, aY, aZ, ba⟩ := bB
   refine (Ze ?_)
   rcases ite_some i with ⟨aj, i⟩ | ⟨aj, i⟩
   ·refine W_cond_t ba aj (W_exit (at_exit (ib_here (Ze (Zd (Za rfl rfl (Exec.add rfl aZ rfl (Za rfl rfl (Zm (v := Vi (IntKind.i64.wrap ((y : Int) + 1))) rfl rfl (Zb (Ze ?_)))))))))))
    have de := Zu i
    subst a2
    refine ⟨_, rfl, ?_⟩; exact ⟨aB, (Zt ar t), (((((a3).f3).drop).f2).f2).f2, aU, aV, aX, aY, (Eq.trans rfl (wrap_up aO (SliceRep.le aq)))⟩
   refine W_cond_f ba aj ?_
   replace aj := Zk aj
   refine W_skip (Ze (Zc (Zd (Za rfl rfl (Zo (v := Value.bool (true)) rfl rfl (Zb (Ze (Zc (Zc (Zd (Za rfl rfl (Zp F81_0 rfl aW rfl (Za rfl rfl (Zp F59_0 rfl rfl rfl (Za rfl rfl (Zn ((a3).f3) A24 rfl rfl rfl (Za rfl rfl (Zr S24 rfl rfl (ax.mono t) (Za rfl rfl (Zm (v := Vi (0)) rfl rfl (Zb (Ze ?_))))))))))))))))))))))
   obtain ⟨ae, b3, i⟩ := Zg i
   refine W_block (W_forS (fun k' s' f' w' => (fun (ae : Bool) => ∃ (bq : PHeap) , PHeap.le aB bq ∧ St w0 bq (Res.bmap Tryz.prog 3 4 c b.pos :: Res.bmap Tryz.prog 3 4 d b.neg :: Res.box j 121 [Value.map (some c), Value.map (some d)] :: Res.box ac 81 [z, aa, ao, Vi (a.Atom), Value.bool (a.Add)] :: H) w' ∧ f' 2 = Vi (l) ∧ f' 3 = Value.pointer (some ⟨j, 0, none⟩) ∧ f' 8 = Value.pointer (some ⟨ac, 0, none⟩) ∧ f' 9 = Value.bool (ae) ∧ f' 15 = o ∧ f' 16 = Vi ((g.Changes.length : Int)) ∧ f' 17 = Vi ((y : Int)) ∧ f' 38 = z ∧ f' 39 = Vi ((a.When.Pos.length : Int)) ∧ f' 40 = Vi (k' : Int)) s') b3 ?_ ?_ ?_)
   ·have bI := (a3).f3
    exact ⟨aB, (Zv _), (((bI).f3).f3).f3, aU, aV, aW, rfl, aX, aY, aZ, rfl, rfl, rfl⟩
   ·intro aP ae cM dt dO bP b6 al
    obtain ⟨aC, aR, ah, bb, a5, bc, ca, bd, be, bf, a6, a7, a0⟩ := b6
    refine Zc (Zd (Za rfl rfl (Zq rfl a0 a7 (Zb (Ze (Zc (W_true (Zx (decide_eq_true (by omega))) (W_skip (Ze (Zc (W_block (Zc (Zd ?_)))))))))))))
    obtain ⟨bw, cG, al⟩ := Zg al
    refine Za rfl rfl (Exec.index_rep S24 rfl a6 a0 (ax.mono (Zt t aR)) cG ?_)
    intro dc d2 b0
    refine Za rfl rfl (Zw (E := (encInt .i64)) ah A3 rfl rfl rfl b0 ?_)
    intro dG cH
    obtain rfl := encInt_val.1 cH
    refine Za rfl rfl (Zo (v := Vi (bw)) rfl rfl (Zb (Ze ?_)))
    obtain ⟨af, u, al⟩ := Zg al
    refine W_mid (M := fun f' w' => (fun (af : Bool) => ∃ (br : PHeap) , PHeap.le aC br ∧ St w0 br (Res.bmap Tryz.prog 3 4 c b.pos :: Res.bmap Tryz.prog 3 4 d b.neg :: Res.box j 121 [Value.map (some c), Value.map (some d)] :: Res.box ac 81 [z, aa, ao, Vi (a.Atom), Value.bool (a.Add)] :: H) w' ∧ f' 2 = Vi (l) ∧ f' 3 = Value.pointer (some ⟨j, 0, none⟩) ∧ f' 8 = Value.pointer (some ⟨ac, 0, none⟩) ∧ f' 9 = Value.bool (af) ∧ f' 15 = o ∧ f' 16 = Vi ((g.Changes.length : Int)) ∧ f' 17 = Vi ((y : Int)) ∧ f' 38 = z ∧ f' 39 = Vi ((a.When.Pos.length : Int)) ∧ f' 40 = Vi ((aP : Int))) af) ?_ ?_
    ·refine Zd (Za rfl rfl (Zm (v := Value.bool (ae)) rfl ca (Za rfl rfl (Zm (v := Value.bool (ae)) rfl rfl ?_))))
     rcases ite_some u with ⟨p, u⟩ | ⟨p, u⟩
     ·refine WL_run rfl (Zf rfl (Zx p)) rfl (Zp F121_0 rfl a5 rfl (WL_run rfl (Zf rfl (Zx p)) rfl (Zn ((ah).f2) A34 rfl rfl rfl (WL_run rfl (Zf rfl (Zx p)) rfl (Zm (v := Vi (bw)) rfl rfl ?_)))))
      obtain ⟨dA, cI, u⟩ := Zg u
      refine WL_run rfl (Zf rfl (Zx p)) rfl (Exec.bmap_get (ah) ⟨Tryz.underlying34, Tryz.underlying3, Tryz.underlying4⟩ Z4 rfl rfl rfl cI ?_)
      refine WL_passes 2 (by rw [p]; rfl) ?_
      refine Zb (Ze ?_)
      have df := Zu u
      subst af
      exact ⟨aC, (Zv _), ((((ah).f3).f3).f3).f3, bb, a5, bc, rfl, bd, be, bf, a6, a7, a0⟩
     replace p := Zk p
     refine WL_passes 6 (by rw [p]; rfl) ?_
     refine Zb (Ze ?_)
     have dg := Zu u
     subst af
     exact ⟨aC, (Zv _), ((((ah).f3).f3).f3).f3, bb, a5, bc, rfl, bd, be, bf, a6, a7, a0⟩
    intro du dP bC
    obtain ⟨cN, bW, bJ, cb, cc, cd, ce, cf, cg, ch, ci, cj, ck⟩ := bC
    refine (ib_normal (Ze (Zd (Za rfl rfl (Exec.add rfl ck rfl (Za rfl rfl (Zm (v := Vi (IntKind.i64.wrap ((aP : Int) + 1))) rfl rfl (Zb (Ze ?_)))))))))
    have dh := Zu al
    subst cM
    exact ⟨cN, (Zt aR bW), ((((bJ).f3).f3).f3).f3, cb, cc, cd, ce, cf, cg, ch, ci, cj, (Eq.trans rfl (wrap_up bP (SliceRep.le (ax.mono t))))⟩
   intro dv dQ b7
   obtain ⟨bs, an, aL, cl, cm, cn, co, cp, cq, cr, d4, ct, cS⟩ := b7
   refine Zc (Zd (Za rfl rfl (Zq rfl cS ct (Zb (Ze (Zc (W_false (Zx (decide_eq_false (by omega))) (W_exit (at_exit (at_exit (ib_here (Ze (Zc (Zc (Zd (Za rfl rfl (Zp F81_0 rfl cn rfl (Za rfl rfl (Zp F59_1 rfl rfl rfl (Za rfl rfl (Zn ((aL).f3) A24 rfl rfl rfl (Za rfl rfl (Zr S24 rfl rfl (ay.mono (Zt t an)) (Za rfl rfl (Zm (v := Vi (0)) rfl rfl (Zb (Ze ?_)))))))))))))))))))))))))))
   obtain ⟨ab, b4, i⟩ := Zg i
   refine W_block (W_forS (fun k' s' f' w' => (fun (ab : Bool) => ∃ (bt : PHeap) , PHeap.le bs bt ∧ St w0 bt (Res.bmap Tryz.prog 3 4 c b.pos :: Res.bmap Tryz.prog 3 4 d b.neg :: Res.box j 121 [Value.map (some c), Value.map (some d)] :: H) w' ∧ f' 2 = Vi (l) ∧ f' 3 = Value.pointer (some ⟨j, 0, none⟩) ∧ f' 9 = Value.bool (ab) ∧ f' 15 = o ∧ f' 16 = Vi ((g.Changes.length : Int)) ∧ f' 17 = Vi ((y : Int)) ∧ f' 54 = aa ∧ f' 55 = Vi ((a.When.Neg.length : Int)) ∧ f' 56 = Vi (k' : Int)) s') b4 ?_ ?_ ?_)
   ·have bK := ((aL).f3).drop
    exact ⟨bs, (Zv _), (((bK).f2).f2).f2, cl, cm, co, cp, cq, cr, rfl, rfl, rfl⟩
   ·intro aQ ab cO dw dR bQ b8 am
    obtain ⟨aD, aS, ai, bg, a8, cu, bh, bi, bj, a9, aA, a1⟩ := b8
    refine Zc (Zd (Za rfl rfl (Zq rfl a1 aA (Zb (Ze (Zc (W_true (Zx (decide_eq_true (by omega))) (W_skip (Ze (Zc (W_block (Zc (Zd ?_)))))))))))))
    obtain ⟨bx, cJ, am⟩ := Zg am
    refine Za rfl rfl (Exec.index_rep S24 rfl a9 a1 (ay.mono (Zt (Zt t an) aS)) cJ ?_)
    intro dd d3 b1
    refine Za rfl rfl (Zw (E := (encInt .i64)) ai A3 rfl rfl rfl b1 ?_)
    intro dH cK
    obtain rfl := encInt_val.1 cK
    refine Za rfl rfl (Zo (v := Vi (bx)) rfl rfl (Zb (Ze ?_)))
    obtain ⟨ag, x, am⟩ := Zg am
    refine W_mid (M := fun f' w' => (fun (ag : Bool) => ∃ (bu : PHeap) , PHeap.le aD bu ∧ St w0 bu (Res.bmap Tryz.prog 3 4 c b.pos :: Res.bmap Tryz.prog 3 4 d b.neg :: Res.box j 121 [Value.map (some c), Value.map (some d)] :: H) w' ∧ f' 2 = Vi (l) ∧ f' 3 = Value.pointer (some ⟨j, 0, none⟩) ∧ f' 9 = Value.bool (ag) ∧ f' 15 = o ∧ f' 16 = Vi ((g.Changes.length : Int)) ∧ f' 17 = Vi ((y : Int)) ∧ f' 54 = aa ∧ f' 55 = Vi ((a.When.Neg.length : Int)) ∧ f' 56 = Vi ((aQ : Int))) ag) ?_ ?_
    ·refine Zd (Za rfl rfl (Zm (v := Value.bool (ab)) rfl cu (Za rfl rfl (Zm (v := Value.bool (ab)) rfl rfl ?_))))
     rcases ite_some x with ⟨q, x⟩ | ⟨q, x⟩
     ·refine WL_run rfl (Zf rfl (Zx q)) rfl (Zp F121_1 rfl a8 rfl (WL_run rfl (Zf rfl (Zx q)) rfl (Zn ((ai).f2) A34 rfl rfl rfl (WL_run rfl (Zf rfl (Zx q)) rfl (Zm (v := Vi (bx)) rfl rfl ?_)))))
      obtain ⟨dB, cL, x⟩ := Zg x
      refine WL_run rfl (Zf rfl (Zx q)) rfl (Exec.bmap_get ((ai).f1) ⟨Tryz.underlying34, Tryz.underlying3, Tryz.underlying4⟩ Z4 rfl rfl rfl cL ?_)
      refine WL_passes 2 (by rw [q]; rfl) ?_
      refine Zb (Ze ?_)
      have di := Zu x
      subst ag
      exact ⟨aD, (Zv _), (((ai).f2).f2).f2, bg, a8, rfl, bh, bi, bj, a9, aA, a1⟩
     replace q := Zk q
     refine WL_passes 6 (by rw [q]; rfl) ?_
     refine Zb (Ze ?_)
     have dj := Zu x
     subst ag
     exact ⟨aD, (Zv _), (((ai).f2).f2).f2, bg, a8, rfl, bh, bi, bj, a9, aA, a1⟩
    intro dx dS bD
    obtain ⟨cP, bX, bL, cv, cw, cx, cy, cz, c0, c1, c2, c3⟩ := bD
    refine (ib_normal (Ze (Zd (Za rfl rfl (Exec.add rfl c3 rfl (Za rfl rfl (Zm (v := Vi (IntKind.i64.wrap ((aQ : Int) + 1))) rfl rfl (Zb (Ze ?_)))))))))
    have dk := Zu am
    subst cO
    exact ⟨cP, (Zt aS bX), (((bL).f2).f2).f2, cv, cw, cx, cy, cz, c0, c1, c2, (Eq.trans rfl (wrap_up bQ (SliceRep.le (ay.mono (Zt t an)))))⟩
   intro dy dT b9
   obtain ⟨bv, aT, aM, c4, c5, c6, c7, c8, c9, d5, cA, cT⟩ := b9
   refine Zc (Zd (Za rfl rfl (Zq rfl cT cA (Zb (Ze (Zc (W_false (Zx (decide_eq_false (by omega))) (W_exit (at_exit (at_exit (ib_here (Ze (Zc (Zd (Za rfl rfl (Zm (v := Value.bool (ab)) rfl c6 (Zb (Ze ?_))))))))))))))))))
   rcases ite_some i with ⟨ak, i⟩ | ⟨ak, i⟩
   ·refine W_cond_t rfl ak (Zc (Zd (Za rfl rfl (Zo (v := Value.bool (true)) rfl rfl (Zb (Ze (W_ret (ib_ret (at_ret (at_ret (ib_ret (at_ret (at_ret ?_)))))))))))))
    have dl := Zu i
    subst a2
    have bS := bT _ (bU (by intro _ h; cases h))
    have dm := Zu bS
    subst r
    refine ⟨_, ret1 rfl, ?_⟩
    exact ⟨bv, (Zt (Zt (Zt ar t) an) aT), ((((aM).f2).drop).f1).f1, rfl⟩
   refine W_cond_f rfl ak ?_
   replace ak := Zk ak
   refine W_skip (ib_normal (Ze (Zd (Za rfl rfl (Exec.add rfl c9 rfl (Za rfl rfl (Zm (v := Vi (IntKind.i64.wrap ((y : Int) + 1))) rfl rfl (Zb (Ze ?_)))))))))
   have dn := Zu i
   subst a2
   refine ⟨_, rfl, ?_⟩; exact ⟨bv, (Zt (Zt (Zt ar t) an) aT), (((aM).f2).f2).f2, c4, c5, c7, c8, (Eq.trans rfl (wrap_up aO (SliceRep.le aq)))⟩
  intro dD dz dU bA bV
  obtain ⟨cQ, bY, bM, cB, cC, cD, bk, cU⟩ := bA
  refine Zc (Zd (Za rfl rfl (Zq rfl cU bk (Zb (Ze (Zc (W_false (Zx (decide_eq_false (by omega))) (W_exit (at_exit (at_exit (ib_here (Ze ?_))))))))))))
  refine ⟨_, .inl bV, ?_⟩; exact ⟨cQ, bY, (((bM).f2).f2).f2, cB, cC, cD, bk⟩
 rintro d0 dV ⟨dE, aN, bE⟩
 have hm := aN.elim (bR _) (bO _)
 clear aN
 obtain ⟨cR, bZ, bN, d6, d7, d8, d9⟩ := bE
 refine (Ze (Zc (Zd (Za rfl rfl (Zo (v := Value.bool (false)) rfl rfl (Zb (Ze (W_ret ?_))))))))
 have dp := Zu hm
 subst r
 refine ⟨_, ret1 rfl, ?_⟩
 exact ⟨cR, bZ, ((((bN).f2).drop).f1).f1, rfl⟩
theorem invariant_keeps_sim {w0 w : World} {s : PHeap} {H : List Res} {b : GOp} {a5 : (List Int)} {x : Value} {y : Value} {z : Value} {q : Value} {aa : Value} {o : Value} {r : Bool} (hm : invariant_keeps_p b a5 = some r) (hS : St w0 s (H) w) (bn : SliceRep (encInt .i64) s x b.Pre.Pos) (bo : SliceRep (encInt .i64) s y b.Pre.Neg) (bp : SliceRep encGTest s z b.Pre.Tests) (a4 : SliceRep encGChange s q b.Changes) (bq : SliceRep encGAssign s aa b.Assigns) (ay : SliceRep (encInt .i64) s o a5) :
  Calls Tryz.prog 45 #[Value.agg #[Value.string (b.Name), Vi (b.Cost), x, y, z, q, aa], o] w fun e w' => ∃ v, e = .returned v ∧ ((fun (gS : Bool) => ∃ (cT : PHeap) , PHeap.le s cT ∧ St w0 cT (H) w' ∧ v = Value.bool (gS)) r) := by
 unfold invariant_keeps_p at hm
 refine calls_of_W Tryz.func45 rfl rfl (Zc (Zd (Za rfl rfl (Exec.box (cs := [Value.string (b.Name), Vi (b.Cost), x, y, z, q, aa]) hS rfl rfl rfl ?_))))
 intro i iz ca
 refine Za rfl rfl (Zo (v := Value.bool (false)) rfl rfl (Zb (Ze (Zc (Zd (Za rfl rfl (Zo (v := Value.slice none 0 0) rfl rfl (Zb (Ze (Zc (Zc (Zd (Za rfl rfl (Zp F63_3 rfl rfl rfl (Za rfl rfl (Zn (ca) A60 rfl rfl rfl (Za rfl rfl (Zr S60 rfl rfl a4 (Za rfl rfl (Zm (v := Vi (0)) rfl rfl (Zb (Ze ?_))))))))))))))))))))))
 obtain ⟨ag, dq, hm⟩ := Zg hm
 refine W_block (W_forS (fun k' s' f' w' => (fun (ag : (List GChange)) => ∃ (cU : PHeap) (aq : Value), PHeap.le s cU ∧ St w0 cU (Res.box i 63 [Value.string (b.Name), Vi (b.Cost), x, y, z, q, aa] :: Res.arr encGChange 81 aq ag :: H) w' ∧ f' 1 = o ∧ f' 2 = Value.pointer (some ⟨i, 0, none⟩) ∧ f' 5 = aq ∧ f' 23 = q ∧ f' 24 = Vi ((b.Changes.length : Int)) ∧ f' 25 = Vi (k' : Int)) s') dq ?_ ?_ ?_)
 ·have dD := ca.nilArr encGChange 81
  exact ⟨s, (Value.slice none 0 0), (Zv _), (dD).f1, rfl, rfl, rfl, rfl, rfl, rfl⟩
 ·intro b0 ag g5 hz i0 ep dw aw
  obtain ⟨ie, aq, b2, cb, b4, cr, ct, b5, b6, bi⟩ := dw
  refine Zc (Zd (Za rfl rfl (Zq rfl bi b6 (Zb (Ze (Zc (W_true (Zx (decide_eq_true (by omega))) (W_skip (Ze (Zc (W_block (Zc (Zd ?_)))))))))))))
  obtain ⟨t, gm, aw⟩ := Zg aw
  refine Za rfl rfl (Exec.index_rep S60 rfl b5 bi (a4.mono b2) gm ?_)
  intro gU hK dl
  refine Za rfl rfl (Zw (E := encGChange) cb A81 rfl rfl rfl dl ?_)
  intro iu gn
  obtain ⟨ax, au, av, rfl, cM, cN, cO⟩ := encGChange_val.1 gn
  refine Za rfl rfl (Exec.alloc (cs := [Value.slice none 0 0, Value.slice none 0 0, Value.slice none 0 0, Vi (0), Value.bool (false)]) cb Z81 rfl rfl ?_)
  intro bT i1 dE
  refine Za rfl rfl (Exec.store_box (ds := [ax, au, av, Vi (t.Atom), Value.bool (t.Add)]) (es := [ax, au, av, Vi (t.Atom), Value.bool (t.Add)]) dE A81 rfl rfl rfl rfl (Zj (cM).one (Zj (cN).one (Zj (cO).one (Zj rfl (Zj rfl one_nil))))) (Nat.le_of_ble_eq_true rfl) rfl ?_)
  intro i2 cc
  refine Zb (Ze (Zc (Zd (Za rfl rfl (Zm (v := o) rfl b4 (Za rfl rfl (Zp F81_1 rfl rfl rfl (Za rfl rfl (Zn (cc) A3 rfl rfl rfl ?_)))))))))
  obtain ⟨gH, go, aw⟩ := Zg aw
  obtain ⟨bP, aJ⟩ := gH
  replace aw := un2_eq aw
  refine Za rfl rfl (Tc rfl rfl rfl (Zi rfl (Zi rfl args_nil)) (slices_BinarySearch_int_sim go cc (ay.mono b2)).r ?_)
  rintro _ i3 ⟨bI, aS, bv, rfl⟩
  refine Za rfl rfl (Zm (v := Value.tuple #[Vi (bP), Value.bool (aJ)]) rfl rfl (Za rfl rfl (Exec.extract (v := Vi (bP)) rfl rfl rfl (Za rfl rfl (Exec.extract (v := Value.bool (aJ)) rfl rfl rfl (Za rfl rfl (Zo (v := Vi (bP)) rfl rfl (Za rfl rfl (Zo (v := Value.bool (aJ)) rfl rfl (Zb (Ze (Zc (W_mid (M := fun f' w' => ∃ (cV : PHeap) , PHeap.le bI cV ∧ St w0 cV (Res.box i 63 [Value.string (b.Name), Vi (b.Cost), x, y, z, q, aa] :: Res.arr encGChange 81 aq ag :: Res.box bT 81 [ax, au, av, Vi (t.Atom), Value.bool (t.Add)] :: H) w' ∧ f' 1 = o ∧ f' 2 = Value.pointer (some ⟨i, 0, none⟩) ∧ f' 5 = aq ∧ f' 7 = Value.pointer (some ⟨bT, 0, none⟩) ∧ f' 23 = q ∧ f' 24 = Vi ((b.Changes.length : Int)) ∧ f' 25 = Vi ((b0 : Int)) ∧ f' 40 = Value.bool ((aJ && t.Add))) ?_ ?_)))))))))))))
  ·refine Zd (WL_passes 2 rfl ?_)
   by_cases az : aJ = true
   ·refine WL_run rfl (Zf rfl (Zx az)) rfl (Zp F81_2 rfl rfl rfl (WL_run rfl (Zf rfl (Zx az)) rfl (Zn (bv) A4 rfl rfl rfl (Za rfl rfl (Zs (v := Value.bool (t.Add)) rfl (Zx az) rfl (Zb (Ze ?_)))))))
    exact ⟨bI, (Zv _), ((bv).f2).f2, b4, cr, ct, rfl, b5, b6, bi, (Zx (and_t az)).symm⟩
   replace az := Zk az
   refine WL_passes 3 (by rw [az]; rfl) ?_
   refine Zb (Ze ?_)
   exact ⟨bI, (Zv _), ((bv).f2).f2, b4, cr, ct, rfl, b5, b6, bi, (Zx (and_f az)).symm⟩
  intro h0 i4 d6
  obtain ⟨bJ, aT, bw, cu, cv, cw, eN, cx, cy, cz, c0⟩ := d6
  refine (Ze ?_)
  obtain ⟨aD, a1, aw⟩ := Zg aw
  refine W_mid (M := fun f' w' => (fun (aD : (List GChange)) => ∃ (cW : PHeap) (bd : Value), PHeap.le bJ cW ∧ St w0 cW (Res.box i 63 [Value.string (b.Name), Vi (b.Cost), x, y, z, q, aa] :: Res.arr encGChange 81 bd aD :: H) w' ∧ f' 1 = o ∧ f' 2 = Value.pointer (some ⟨i, 0, none⟩) ∧ f' 5 = bd ∧ f' 23 = q ∧ f' 24 = Vi ((b.Changes.length : Int)) ∧ f' 25 = Vi ((b0 : Int))) aD) ?_ ?_
  ·rcases ite_some a1 with ⟨a8, a1⟩ | ⟨a8, a1⟩
   ·refine W_cond_t c0 a8 (Zd (Za rfl rfl (Zm (v := aq) rfl cw (Za rfl rfl (Exec.load_box_agg (ds := [ax, au, av, Vi (t.Atom), Value.bool (t.Add)]) ((bw).f2) A81 rfl eN rfl (Za rfl rfl (Exec.buildSlice (Te := 81) (cs := [ax, au, av, Vi (t.Atom), Value.bool (t.Add)]) bw rfl (parts_cons (c := [ax, au, av, Vi (t.Atom), Value.bool (t.Add)]) (cells_of rfl rfl) parts_nil) (fun _ => by kernel_rfl) ?_)))))))
    intro gV i5 dF
    obtain ⟨hJ, gp, a1⟩ := Zg a1
    refine Za rfl rfl (Exec.append_box (E := encGChange) (ys := [t]) (dF).f2 S60 Z81 rfl (by decide) rfl rfl rfl rfl ⟨[ax, au, av, Vi (t.Atom), Value.bool (t.Add)], [], rfl, ⟨[ax, au, av], [Vi (t.Atom), Value.bool (t.Add)], rfl, ⟨[ax], [au, av], rfl, ⟨_, rfl, (cM.mono (Zt aS aT))⟩, ⟨[au], [av], rfl, ⟨_, rfl, (cN.mono (Zt aS aT))⟩, ⟨_, rfl, (cO.mono (Zt aS aT))⟩⟩⟩, ⟨[Vi (t.Atom)], [Value.bool (t.Add)], rfl, rfl, rfl⟩⟩, rfl⟩ rfl gp ?_)
    intro di i6 dG
    refine Za rfl rfl (Zo (v := di) rfl rfl (Zb (Ze ?_)))
    have hf := Zu a1
    subst aD
    exact ⟨bJ, di, (Zv _), (((dG).f2).drop).f1, cu, cv, rfl, cx, cy, cz⟩
   refine W_cond_f c0 a8 ?_
   replace a8 := Zk a8
   refine W_skip (Ze ?_)
   have hg := Zu a1
   subst aD
   exact ⟨bJ, aq, (Zv _), ((((bw).f2).drop).f1).f1, cu, cv, cw, cx, cy, cz⟩
  intro h1 i7 d7
  obtain ⟨g6, bd, eE, dH, eO, eP, eQ, eR, eS, eT⟩ := d7
  refine (ib_normal (Ze (Zd (Za rfl rfl (Exec.add rfl eT rfl (Za rfl rfl (Zm (v := Vi (IntKind.i64.wrap ((b0 : Int) + 1))) rfl rfl (Zb (Ze ?_)))))))))
  have hh := Zu aw
  subst g5
  exact ⟨g6, bd, (Zt (Zt (Zt b2 aS) aT) eE), ((dH).f1).f1, eO, eP, eQ, eR, eS, (Eq.trans rfl (wrap_up ep (SliceRep.le a4)))⟩
 intro h2 i8 dx
 obtain ⟨cX, aq, d, bx, eU, eV, c1, hO, eW, gN⟩ := dx
 refine Zc (Zd (Za rfl rfl (Zq rfl gN eW (Zb (Ze (Zc (W_false (Zx (decide_eq_false (by omega))) (W_exit (at_exit (at_exit (ib_here (Ze (Zc (Zc (Zd (Za rfl rfl (Zm (v := aq) rfl c1 (Za rfl rfl (Exec.len_arr ((bx).f1) S60 rfl rfl (Za rfl rfl (Zm (v := Vi (0)) rfl rfl (Zb (Ze ?_)))))))))))))))))))))))
 obtain ⟨bU, dr, cn, eu, el⟩ := ctl_some hm
 refine W_mid (M := fun f' w' => ∃ s', (bU = .next s' ∨ bU = .brk s') ∧ (un2 fun (bS : (List GChange)) (dk : (List GChange)) => ∃ (ba : PHeap) (bM : Value) (bN : Value), PHeap.le cX ba ∧ St w0 ba (Res.box i 63 [Value.string (b.Name), Vi (b.Cost), x, y, z, q, aa] :: H) w' ∧ f' 1 = o ∧ f' 2 = Value.pointer (some ⟨i, 0, none⟩) ∧ f' 5 = bM ∧ f' 46 = bN ∧ f' 47 = Vi ((ag.length : Int)) ∧ SliceRep encGChange ba bM bS ∧ SliceRep encGChange ba bN dk) s') ?_ ?_
 ·refine W_block (W_forC (fun k' s' f' w' => (un2 fun (br : (List GChange)) (bR : (List GChange)) => ∃ (bb : PHeap) (af : Value) (ai : Value), PHeap.le cX bb ∧ St w0 bb (Res.box i 63 [Value.string (b.Name), Vi (b.Cost), x, y, z, q, aa] :: H) w' ∧ f' 1 = o ∧ f' 2 = Value.pointer (some ⟨i, 0, none⟩) ∧ f' 5 = af ∧ f' 46 = ai ∧ f' 47 = Vi ((ag.length : Int)) ∧ f' 48 = Vi (k' : Int) ∧ SliceRep encGChange bb af br ∧ SliceRep encGChange bb ai bR) s') dr ?_ ?_ ?_)
  ·have dI := (bx).f1
   obtain ⟨g7, eF, dJ, cP⟩ := dI.freezeArr
   exact ⟨g7, aq, aq, eF, dJ, eU, eV, c1, rfl, rfl, rfl, cP, cP⟩
  ·intro ao gI bs h3 i9 er dy al co
   obtain ⟨br, bR⟩ := gI
   replace al := un2_eq al
   obtain ⟨bK, af, ai, g, cd, eX, eY, c2, c3, c4, bj, aP, aQ⟩ := dy
   refine Zc (Zd (Za rfl rfl (Zq rfl bj c4 (Zb (Ze (Zc (W_true (Zx (decide_eq_true (by omega))) (W_skip (Ze (Zc (W_block (Zc (Zd (Za rfl rfl (Zm (v := Vi ((ao : Int))) rfl bj ?_)))))))))))))))
   obtain ⟨a, gq, al⟩ := Zg al
   refine Za rfl rfl (Exec.index_rep S60 rfl c3 bj aQ gq ?_)
   intro gW hL dm
   refine Za rfl rfl (Zw (E := encGChange) cd A81 rfl rfl rfl dm ?_)
   intro iv gr
   obtain ⟨p, j, l, rfl, bF, bG, bH⟩ := encGChange_val.1 gr
   refine Za rfl rfl (Exec.alloc (cs := [Value.slice none 0 0, Value.slice none 0 0, Value.slice none 0 0, Vi (0), Value.bool (false)]) cd Z81 rfl rfl ?_)
   intro ac iA dK
   refine Za rfl rfl (Zo (v := Vi ((ao : Int))) rfl rfl (Za rfl rfl (Exec.store_box (ds := [p, j, l, Vi (a.Atom), Value.bool (a.Add)]) (es := [p, j, l, Vi (a.Atom), Value.bool (a.Add)]) dK A81 rfl rfl rfl rfl (Zj (bF).one (Zj (bG).one (Zj (bH).one (Zj rfl (Zj rfl one_nil))))) (Nat.le_of_ble_eq_true rfl) rfl ?_)))
   intro iB dL
   refine Zb (Ze (Zc (Zc (Zd (Za rfl rfl (Zm (v := af) rfl c2 (Za rfl rfl (Zm (v := Vi ((ao : Int))) rfl rfl ?_))))))))
   obtain ⟨aM, gs, al⟩ := Zg al
   refine Za rfl rfl (Exec.slice_to S60 rfl rfl rfl aP gs ?_)
   intro be aZ
   refine Za rfl rfl (Zr S60 rfl rfl aZ (Za rfl rfl (Zm (v := Vi (0)) rfl rfl (Zb (Ze ?_)))))
   obtain ⟨bV, dt, e3, ev, em⟩ := ctl_some al
   refine W_mid (M := fun f' w' => ∃ s', (bV = .next s' ∨ bV = .brk s') ∧ (fun (_ : Unit) => ∃ (cY : PHeap) , PHeap.le bK cY ∧ St w0 cY (Res.box i 63 [Value.string (b.Name), Vi (b.Cost), x, y, z, q, aa] :: Res.box ac 81 [p, j, l, Vi (a.Atom), Value.bool (a.Add)] :: H) w' ∧ f' 1 = o ∧ f' 2 = Value.pointer (some ⟨i, 0, none⟩) ∧ f' 5 = af ∧ f' 11 = Value.pointer (some ⟨ac, 0, none⟩) ∧ f' 46 = ai ∧ f' 47 = Vi ((ag.length : Int)) ∧ f' 48 = Vi ((ao : Int)) ∧ f' 55 = be ∧ f' 56 = Vi ((aM.length : Int))) s') ?_ ?_
   ·refine W_block (W_forC (fun k' s' f' w' => (fun (_ : Unit) => ∃ (cZ : PHeap) , PHeap.le bK cZ ∧ St w0 cZ (Res.box i 63 [Value.string (b.Name), Vi (b.Cost), x, y, z, q, aa] :: Res.box ac 81 [p, j, l, Vi (a.Atom), Value.bool (a.Add)] :: H) w' ∧ f' 1 = o ∧ f' 2 = Value.pointer (some ⟨i, 0, none⟩) ∧ f' 5 = af ∧ f' 11 = Value.pointer (some ⟨ac, 0, none⟩) ∧ f' 46 = ai ∧ f' 47 = Vi ((ag.length : Int)) ∧ f' 48 = Vi ((ao : Int)) ∧ f' 55 = be ∧ f' 56 = Vi ((aM.length : Int)) ∧ f' 57 = Vi (k' : Int)) s') dt ?_ ?_ ?_)
    ·have dM := (dL).f1
     exact ⟨bK, (Zv _), dM, eX, eY, c2, rfl, c3, c4, bj, rfl, rfl, rfl⟩
    ·intro aR ij bt h4 iC cl dz am e6
     obtain ⟨bc, ad, ce, b7, c5, c6, b8, c7, c8, c9, b9, bA, bk⟩ := dz
     refine Zc (Zd (Za rfl rfl (Zq rfl bk bA (Zb (Ze (Zc (W_true (Zx (decide_eq_true (by omega))) (W_skip (Ze (Zc (W_block (Zc (Zd ?_)))))))))))))
     obtain ⟨m, gu, am⟩ := Zg am
     refine Za rfl rfl (Exec.index_rep S60 rfl b9 bk (aZ.mono ad) gu ?_)
     intro gX hM dn
     refine Za rfl rfl (Zw (E := encGChange) ce A81 rfl rfl rfl dn ?_)
     intro iw gv
     obtain ⟨ap, aj, ak, rfl, cQ, cR, cS⟩ := encGChange_val.1 gv
     refine Za rfl rfl (Exec.alloc (cs := [Value.slice none 0 0, Value.slice none 0 0, Value.slice none 0 0, Vi (0), Value.bool (false)]) ce Z81 rfl rfl ?_)
     intro aL iD dN
     refine Za rfl rfl (Exec.store_box (ds := [ap, aj, ak, Vi (m.Atom), Value.bool (m.Add)]) (es := [ap, aj, ak, Vi (m.Atom), Value.bool (m.Add)]) dN A81 rfl rfl rfl rfl (Zj (cQ).one (Zj (cR).one (Zj (cS).one (Zj rfl (Zj rfl one_nil))))) (Nat.le_of_ble_eq_true rfl) rfl ?_)
     intro iE aN
     refine Zb (Ze (Zc (Zc (Zd (Za rfl rfl (Zp F81_1 rfl b8 rfl (Za rfl rfl (Zn ((aN).f2) A3 rfl rfl rfl (Za rfl rfl (Zp F81_1 rfl rfl rfl (Za rfl rfl (Zn (aN) A3 rfl rfl rfl (Za rfl rfl (Exec.eql rfl rfl rfl (Zb (Ze ?_))))))))))))))))
     rcases ite_some am with ⟨a9, am⟩ | ⟨a9, am⟩
     ·refine W_cond_t rfl a9 (W_exit (at_exit (ib_here (Ze (Zd (Za rfl rfl (Exec.add rfl bk rfl (Za rfl rfl (Zm (v := Vi (IntKind.i64.wrap ((aR : Int) + 1))) rfl rfl (Zb (Ze ?_)))))))))))
      have hi := Zu am
      subst bt
      refine ⟨_, rfl, ?_⟩; exact ⟨bc, ad, (((aN).drop).f1).f1, b7, c5, c6, b8, c7, c8, c9, b9, bA, (Eq.trans rfl (wrap_up cl (SliceRep.le aZ)))⟩
     refine W_cond_f rfl a9 ?_
     replace a9 := Zk a9
     refine W_skip (Ze (Zc (Zd (Za rfl rfl (Exec.buildSlice (Te := 3) (cs := [Vi ((-1))]) aN rfl (parts_cons (c := [Vi ((-1))]) (cells_of rfl rfl) parts_nil) (fun _ => by kernel_rfl) ?_)))))
     intro gY iF dO
     refine Za rfl rfl (Zm (v := o) rfl b7 ?_)
     have dP := St.boxArr (E := (encInt .i64)) (xs := [(-1)]) dO ⟨[Vi ((-1))], [], rfl, rfl, rfl⟩ (by simp [maxLen])
     obtain ⟨aU, gw, am⟩ := Zg am
     refine Za rfl rfl (Exec.append_rep (E := (encInt .i64)) (ys := a5) dP S24 Z3 rfl (by decide) rfl rfl rfl (ay.mono (Zt (Zt d g) ad)) gw ?_)
     intro bf iG bz
     refine Za rfl rfl (Exec.len_arr (bz) S24 rfl rfl (Za rfl rfl (Zm (v := Vi (0)) rfl rfl (Zb (Ze ?_)))))
     obtain ⟨bW, du, e4, ew, en⟩ := ctl_some am
     refine W_mid (M := fun f' w' => ∃ s', (bW = .next s' ∨ bW = .brk s') ∧ (fun (_ : Unit) => ∃ (da : PHeap) , PHeap.le bc da ∧ St w0 da (Res.box i 63 [Value.string (b.Name), Vi (b.Cost), x, y, z, q, aa] :: Res.box ac 81 [p, j, l, Vi (a.Atom), Value.bool (a.Add)] :: Res.box aL 81 [ap, aj, ak, Vi (m.Atom), Value.bool (m.Add)] :: Res.arr (encInt .i64) 3 bf aU :: H) w' ∧ f' 1 = o ∧ f' 2 = Value.pointer (some ⟨i, 0, none⟩) ∧ f' 5 = af ∧ f' 11 = Value.pointer (some ⟨ac, 0, none⟩) ∧ f' 13 = Value.pointer (some ⟨aL, 0, none⟩) ∧ f' 46 = ai ∧ f' 47 = Vi ((ag.length : Int)) ∧ f' 48 = Vi ((ao : Int)) ∧ f' 55 = be ∧ f' 56 = Vi ((aM.length : Int)) ∧ f' 57 = Vi ((aR : Int)) ∧ f' 68 = bf ∧ f' 69 = Vi ((aU.length : Int))) s') ?_ ?_
     ·refine W_block (W_forC (fun k' s' f' w' => (fun (_ : Unit) => ∃ (db : PHeap) , PHeap.le bc db ∧ St w0 db (Res.box i 63 [Value.string (b.Name), Vi (b.Cost), x, y, z, q, aa] :: Res.box ac 81 [p, j, l, Vi (a.Atom), Value.bool (a.Add)] :: Res.box aL 81 [ap, aj, ak, Vi (m.Atom), Value.bool (m.Add)] :: Res.arr (encInt .i64) 3 bf aU :: H) w' ∧ f' 1 = o ∧ f' 2 = Value.pointer (some ⟨i, 0, none⟩) ∧ f' 5 = af ∧ f' 11 = Value.pointer (some ⟨ac, 0, none⟩) ∧ f' 13 = Value.pointer (some ⟨aL, 0, none⟩) ∧ f' 46 = ai ∧ f' 47 = Vi ((ag.length : Int)) ∧ f' 48 = Vi ((ao : Int)) ∧ f' 55 = be ∧ f' 56 = Vi ((aM.length : Int)) ∧ f' 57 = Vi ((aR : Int)) ∧ f' 68 = bf ∧ f' 69 = Vi ((aU.length : Int)) ∧ f' 70 = Vi (k' : Int)) s') du ?_ ?_ ?_)
      ·have dQ := (bz).f1
       exact ⟨bc, (Zv _), ((dQ).f3).f3, b7, c5, c6, b8, rfl, c7, c8, c9, b9, bA, bk, rfl, rfl, rfl⟩
      ·intro eD ik bX h5 iH et d0 an e7
       obtain ⟨ig, ae, a6, cA, cB, eZ, cC, cD, fa, fb, fc, fd, fe, ff, cE, cF, bO⟩ := d0
       refine Zc (Zd (Za rfl rfl (Zq rfl bO cF (Zb (Ze (Zc (W_true (Zx (decide_eq_true (by omega))) (W_skip (Ze (Zc (W_block (Zc (Zd ?_)))))))))))))
       obtain ⟨dj, aY, an⟩ := Zg an
       obtain ⟨hG, he, bZ⟩ := ((a6).f3).arr_at aY
       refine Za rfl rfl (Exec.index_slice S24 rfl (Eq.trans cE bZ) bO (idx_some aY).1 (idx_some aY).2.1 (Za rfl rfl (Exec.load_arr (F := (encInt .i64)) ((a6).f3) bZ A3 rfl rfl rfl aY (Sub.refl _) ?_)))
       intro ix gx
       obtain rfl := encInt_val.1 gx
       refine Za rfl rfl (Zo (v := Vi (dj)) rfl rfl (Zb (Ze (Zc (Zd (Za rfl rfl (Exec.load_box_agg (ds := [Value.string (b.Name), Vi (b.Cost), x, y, z, q, aa]) (a6) A63 rfl cB rfl (Za rfl rfl (Exec.load_box_agg (ds := [p, j, l, Vi (a.Atom), Value.bool (a.Add)]) ((a6).f1) A81 rfl cC rfl (Za rfl rfl (Exec.load_box_agg (ds := [ap, aj, ak, Vi (m.Atom), Value.bool (m.Add)]) ((a6).f2) A81 rfl cD rfl (Za rfl rfl (Exec.buildSlice (Te := 81) (cs := [p, j, l, Vi (a.Atom), Value.bool (a.Add), ap, aj, ak, Vi (m.Atom), Value.bool (m.Add)]) a6 rfl (parts_cons (c := [p, j, l, Vi (a.Atom), Value.bool (a.Add)]) (cells_of rfl rfl) (parts_cons (c := [ap, aj, ak, Vi (m.Atom), Value.bool (m.Add)]) (cells_of rfl rfl) parts_nil)) (fun _ => by kernel_rfl) ?_)))))))))))))
       intro gZ iI dR
       refine Za rfl rfl (Zm (v := Vi (dj)) rfl rfl (Za rfl rfl (Zm (v := o) rfl cA ?_)))
       have dS := St.boxArr (E := encGChange) (xs := [a, m]) dR ⟨[p, j, l, Vi (a.Atom), Value.bool (a.Add)], [ap, aj, ak, Vi (m.Atom), Value.bool (m.Add)], rfl, ⟨[p, j, l], [Vi (a.Atom), Value.bool (a.Add)], rfl, ⟨[p], [j, l], rfl, ⟨_, rfl, (bF.mono (Zt ad ae))⟩, ⟨[j], [l], rfl, ⟨_, rfl, (bG.mono (Zt ad ae))⟩, ⟨_, rfl, (bH.mono (Zt ad ae))⟩⟩⟩, ⟨[Vi (a.Atom)], [Value.bool (a.Add)], rfl, rfl, rfl⟩⟩, ⟨[ap, aj, ak, Vi (m.Atom), Value.bool (m.Add)], [], rfl, ⟨[ap, aj, ak], [Vi (m.Atom), Value.bool (m.Add)], rfl, ⟨[ap], [aj, ak], rfl, ⟨_, rfl, (cQ.mono ae)⟩, ⟨[aj], [ak], rfl, ⟨_, rfl, (cR.mono ae)⟩, ⟨_, rfl, (cS.mono ae)⟩⟩⟩, ⟨[Vi (m.Atom)], [Value.bool (m.Add)], rfl, rfl, rfl⟩⟩, rfl⟩⟩ (by simp [maxLen])
       obtain ⟨ih, a0, dT, g3⟩ := dS.freezeArr
       obtain ⟨gJ, gy, an⟩ := Zg an
       obtain ⟨bm, jb⟩ := gJ
       replace an := un2_eq an
       refine Za rfl rfl (Tc rfl rfl rfl (Zi rfl (Zi rfl (Zi rfl (Zi rfl args_nil)))) (invariant_situation_sim gy dT (bn.mono (Zt (Zt (Zt (Zt d g) ad) ae) a0)) (bo.mono (Zt (Zt (Zt (Zt d g) ad) ae) a0)) (bp.mono (Zt (Zt (Zt (Zt d g) ad) ae) a0)) (a4.mono (Zt (Zt (Zt (Zt d g) ad) ae) a0)) (bq.mono (Zt (Zt (Zt (Zt d g) ad) ae) a0)) g3 (ay.mono (Zt (Zt (Zt (Zt d g) ad) ae) a0))).r ?_)
       rintro _ iJ ⟨dc, bg, bh, cp, dU, rfl⟩
       refine Za rfl rfl (Zm (v := Value.tuple #[Value.agg #[Value.map (some bg), Value.map (some bh)], Value.bool (bm)]) rfl rfl (Za rfl rfl (Exec.extract (v := Value.agg #[Value.map (some bg), Value.map (some bh)]) rfl rfl rfl (Za rfl rfl (Exec.extract (v := Value.bool (bm)) rfl rfl rfl (Za rfl rfl (Exec.alloc (cs := [Value.map none, Value.map none]) dU Z121 rfl rfl ?_)))))))
       intro ha iK dV
       refine Za rfl rfl (Exec.store_box (ds := [Value.map (some bg), Value.map (some bh)]) (es := [Value.map (some bg), Value.map (some bh)]) dV A121 rfl rfl rfl rfl (Zj rfl (Zj rfl one_nil)) (Nat.le_of_ble_eq_true rfl) rfl ?_)
       intro iL cf
       refine Za rfl rfl (Zo (v := Value.bool (bm)) rfl rfl (Zb (Ze (Zc (Zd (Za rfl rfl (Zm (v := Value.bool (bm)) rfl rfl (Zb (Ze ?_)))))))))
       rcases ite_some an with ⟨aA, an⟩ | ⟨aA, an⟩
       ·refine W_cond_t rfl aA (Zc (Zd (Za rfl rfl (Zo (v := Value.bool (false)) rfl rfl (Zb (Ze (W_ret (ib_ret (at_ret (at_ret (ib_ret (at_ret (ib_ret (at_ret (at_ret (ib_ret (at_ret (at_ret (ib_ret (at_ret (at_ret (ib_ret (at_ret (at_ret ?_))))))))))))))))))))))))
        have hj := Zu an
        subst bX
        have ey := e4 _ (e7 (by intro _ h; cases h))
        have hk := Zu ey
        subst bt
        have ez := e3 _ (e6 (by intro _ h; cases h))
        have hl := Zu ez
        subst bs
        have e0 := cn _ (co (by intro _ h; cases h))
        have hn := Zu e0
        subst r
        refine ⟨_, ret1 rfl, ?_⟩
        exact ⟨dc, (Zt (Zt (Zt (Zt (Zt d g) ad) ae) a0) cp), (((((((cf).drop).drop).drop).drop).drop).drop).drop, rfl⟩
       refine W_cond_f rfl aA ?_
       replace aA := Zk aA
       refine W_skip (ib_normal (Ze (Zd (Za rfl rfl (Exec.add rfl bO rfl (Za rfl rfl (Zm (v := Vi (IntKind.i64.wrap ((eD : Int) + 1))) rfl rfl (Zb (Ze ?_)))))))))
       have ho := Zu an
       subst bX
       refine ⟨_, rfl, ?_⟩; exact ⟨dc, (Zt (Zt ae a0) cp), (((((((cf).drop).drop).drop).f3).f3).f3).f3, cA, cB, eZ, cC, cD, fa, fb, fc, fd, fe, ff, cE, cF, (Eq.trans rfl (wrap_up et (bz).arr_le))⟩
      intro il h6 iM d1 e8
      obtain ⟨g8, eG, dW, fg, fh, fi, fj, fk, fl, fm, fn, fo, fp, fq, fr, cG, gO⟩ := d1
      refine Zc (Zd (Za rfl rfl (Zq rfl gO cG (Zb (Ze (Zc (W_false (Zx (decide_eq_false (by omega))) (W_exit (at_exit (at_exit (ib_here (Ze ?_))))))))))))
      refine ⟨_, .inl e8, ?_⟩; exact ⟨g8, eG, ((((dW).f3).f3).f3).f3, fg, fh, fi, fj, fk, fl, fm, fn, fo, fp, fq, fr, cG⟩
     rintro h7 iN ⟨im, ch, d8⟩
     have am := ch.elim (ew _) (en _)
     clear ch
     obtain ⟨g9, eH, dX, fs, ft, fu, fv, hP, fw, fx, fy, fz, f0, f4, hQ, hR⟩ := d8
     refine (ib_normal (Ze (Zd (Za rfl rfl (Exec.add rfl f4 rfl (Za rfl rfl (Zm (v := Vi (IntKind.i64.wrap ((aR : Int) + 1))) rfl rfl (Zb (Ze ?_)))))))))
     have hp := Zu am
     subst bt
     refine ⟨_, rfl, ?_⟩; exact ⟨g9, (Zt ad eH), ((((((dX).f2).drop).f2).drop).f1).f1, fs, ft, fu, fv, fw, fx, fy, fz, f0, (Eq.trans rfl (wrap_up cl (SliceRep.le aZ)))⟩
    intro io h8 iO d2 e9
    obtain ⟨gA, eI, dY, f5, f6, f7, f8, f9, fA, fB, fC, cH, gP⟩ := d2
    refine Zc (Zd (Za rfl rfl (Zq rfl gP cH (Zb (Ze (Zc (W_false (Zx (decide_eq_false (by omega))) (W_exit (at_exit (at_exit (ib_here (Ze ?_))))))))))))
    refine ⟨_, .inl e9, ?_⟩; exact ⟨gA, eI, ((dY).f1).f1, f5, f6, f7, f8, f9, fA, fB, fC, cH⟩
   rintro h9 iP ⟨ip, ci, d9⟩
   have al := ci.elim (ev _) (em _)
   clear ci
   obtain ⟨bL, n, dZ, cI, fD, fE, fF, fG, fH, fI, hT, hU⟩ := d9
   refine (Ze (Zc (Zd (Za rfl rfl (Zm (v := o) rfl cI (Za rfl rfl (Zr S24 rfl rfl (ay.mono (Zt (Zt d g) n)) (Za rfl rfl (Zm (v := Vi (0)) rfl rfl (Zb (Ze ?_)))))))))))
   obtain ⟨bY, dv, e5, ex, eo⟩ := ctl_some al
   refine W_mid (M := fun f' w' => ∃ s', (bY = .next s' ∨ bY = .brk s') ∧ (fun (_ : Unit) => ∃ (dd : PHeap) , PHeap.le bL dd ∧ St w0 dd (Res.box i 63 [Value.string (b.Name), Vi (b.Cost), x, y, z, q, aa] :: Res.box ac 81 [p, j, l, Vi (a.Atom), Value.bool (a.Add)] :: H) w' ∧ f' 1 = o ∧ f' 2 = Value.pointer (some ⟨i, 0, none⟩) ∧ f' 5 = af ∧ f' 11 = Value.pointer (some ⟨ac, 0, none⟩) ∧ f' 46 = ai ∧ f' 47 = Vi ((ag.length : Int)) ∧ f' 48 = Vi ((ao : Int)) ∧ f' 87 = o ∧ f' 88 = Vi ((a5.length : Int))) s') ?_ ?_
   ·refine W_block (W_forC (fun k' s' f' w' => (fun (_ : Unit) => ∃ (de : PHeap) , PHeap.le bL de ∧ St w0 de (Res.box i 63 [Value.string (b.Name), Vi (b.Cost), x, y, z, q, aa] :: Res.box ac 81 [p, j, l, Vi (a.Atom), Value.bool (a.Add)] :: H) w' ∧ f' 1 = o ∧ f' 2 = Value.pointer (some ⟨i, 0, none⟩) ∧ f' 5 = af ∧ f' 11 = Value.pointer (some ⟨ac, 0, none⟩) ∧ f' 46 = ai ∧ f' 47 = Vi ((ag.length : Int)) ∧ f' 48 = Vi ((ao : Int)) ∧ f' 87 = o ∧ f' 88 = Vi ((a5.length : Int)) ∧ f' 89 = Vi (k' : Int)) s') dv ?_ ?_ ?_)
    ·have ea := (dZ).f1
     exact ⟨bL, (Zv _), (ea).f1, cI, fD, fE, fF, fG, fH, fI, rfl, rfl, rfl⟩
    ·intro b1 iq bu hA iQ cm d3 ab eA
     obtain ⟨gB, u, a7, aV, aE, bB, aF, bC, bD, bE, aW, aX, aI⟩ := d3
     refine Zc (Zd (Za rfl rfl (Zq rfl aI aX (Zb (Ze (Zc (W_true (Zx (decide_eq_true (by omega))) (W_skip (Ze (Zc (W_block (Zc (Zd ?_)))))))))))))
     obtain ⟨bl, gz, ab⟩ := Zg ab
     refine Za rfl rfl (Exec.index_rep S24 rfl aW aI (ay.mono (Zt (Zt (Zt d g) n) u)) gz ?_)
     intro hb hN dp
     refine Za rfl rfl (Zw (E := (encInt .i64)) a7 A3 rfl rfl rfl dp ?_)
     intro iy g0
     obtain rfl := encInt_val.1 g0
     refine Za rfl rfl (Zo (v := Vi (bl)) rfl rfl (Zb (Ze (Zc (Zc (Zd (Za rfl rfl (Zm (v := Vi (bl)) rfl rfl (Za rfl rfl (Zp F81_1 rfl aF rfl (Za rfl rfl (Zn ((a7).f1) A3 rfl rfl rfl (Za rfl rfl (Exec.eql rfl rfl rfl (Zb (Ze ?_))))))))))))))))
     rcases ite_some ab with ⟨aB, ab⟩ | ⟨aB, ab⟩
     ·refine W_cond_t rfl aB (W_exit (at_exit (ib_here (Ze (Zd (Za rfl rfl (Exec.add rfl aI rfl (Za rfl rfl (Zm (v := Vi (IntKind.i64.wrap ((b1 : Int) + 1))) rfl rfl (Zb (Ze ?_)))))))))))
      have hq := Zu ab
      subst bu
      refine ⟨_, rfl, ?_⟩; exact ⟨gB, u, ((a7).f1).f1, aV, aE, bB, aF, bC, bD, bE, aW, aX, (Eq.trans rfl (wrap_up cm (SliceRep.le (ay.mono (Zt (Zt d g) n)))))⟩
     refine W_cond_f rfl aB ?_
     replace aB := Zk aB
     refine W_skip (Ze (Zc (Zd (Za rfl rfl (Exec.load_box_agg (ds := [Value.string (b.Name), Vi (b.Cost), x, y, z, q, aa]) (a7) A63 rfl aE rfl (Za rfl rfl (Exec.load_box_agg (ds := [p, j, l, Vi (a.Atom), Value.bool (a.Add)]) ((a7).f1) A81 rfl aF rfl (Za rfl rfl (Exec.buildSlice (Te := 81) (cs := [p, j, l, Vi (a.Atom), Value.bool (a.Add)]) a7 rfl (parts_cons (c := [p, j, l, Vi (a.Atom), Value.bool (a.Add)]) (cells_of rfl rfl) parts_nil) (fun _ => by kernel_rfl) ?_)))))))))
     intro hc iR eb
     refine Za rfl rfl (Zm (v := Vi (bl)) rfl rfl (Za rfl rfl (Zm (v := o) rfl aV ?_)))
     have ec := St.boxArr (E := encGChange) (xs := [a]) eb ⟨[p, j, l, Vi (a.Atom), Value.bool (a.Add)], [], rfl, ⟨[p, j, l], [Vi (a.Atom), Value.bool (a.Add)], rfl, ⟨[p], [j, l], rfl, ⟨_, rfl, (bF.mono (Zt n u))⟩, ⟨[j], [l], rfl, ⟨_, rfl, (bG.mono (Zt n u))⟩, ⟨_, rfl, (bH.mono (Zt n u))⟩⟩⟩, ⟨[Vi (a.Atom)], [Value.bool (a.Add)], rfl, rfl, rfl⟩⟩, rfl⟩ (by simp [maxLen])
     obtain ⟨ii, ah, ed, g4⟩ := ec.freezeArr
     obtain ⟨gK, g1, ab⟩ := Zg ab
     obtain ⟨bQ, jc⟩ := gK
     replace ab := un2_eq ab
     refine Za rfl rfl (Tc rfl rfl rfl (Zi rfl (Zi rfl (Zi rfl (Zi rfl args_nil)))) (invariant_situation_sim g1 ed (bn.mono (Zt (Zt (Zt (Zt d g) n) u) ah)) (bo.mono (Zt (Zt (Zt (Zt d g) n) u) ah)) (bp.mono (Zt (Zt (Zt (Zt d g) n) u) ah)) (a4.mono (Zt (Zt (Zt (Zt d g) n) u) ah)) (bq.mono (Zt (Zt (Zt (Zt d g) n) u) ah)) g4 (ay.mono (Zt (Zt (Zt (Zt d g) n) u) ah))).r ?_)
     rintro _ iS ⟨df, aG, aH, a3, ee, rfl⟩
     refine Za rfl rfl (Zm (v := Value.tuple #[Value.agg #[Value.map (some aG), Value.map (some aH)], Value.bool (bQ)]) rfl rfl (Za rfl rfl (Exec.extract (v := Value.agg #[Value.map (some aG), Value.map (some aH)]) rfl rfl rfl (Za rfl rfl (Exec.extract (v := Value.bool (bQ)) rfl rfl rfl (Za rfl rfl (Exec.alloc (cs := [Value.map none, Value.map none]) ee Z121 rfl rfl ?_)))))))
     intro hd iT ef
     refine Za rfl rfl (Exec.store_box (ds := [Value.map (some aG), Value.map (some aH)]) (es := [Value.map (some aG), Value.map (some aH)]) ef A121 rfl rfl rfl rfl (Zj rfl (Zj rfl one_nil)) (Nat.le_of_ble_eq_true rfl) rfl ?_)
     intro iU aO
     refine Za rfl rfl (Zo (v := Value.bool (bQ)) rfl rfl (Zb (Ze (Zc ?_))))
     obtain ⟨aK, a2, ab⟩ := Zg ab
     refine W_mid (M := fun f' w' => (fun (aK : Bool) => ∃ (dg : PHeap) , PHeap.le df dg ∧ St w0 dg (Res.box i 63 [Value.string (b.Name), Vi (b.Cost), x, y, z, q, aa] :: Res.box ac 81 [p, j, l, Vi (a.Atom), Value.bool (a.Add)] :: H) w' ∧ f' 1 = o ∧ f' 2 = Value.pointer (some ⟨i, 0, none⟩) ∧ f' 5 = af ∧ f' 11 = Value.pointer (some ⟨ac, 0, none⟩) ∧ f' 46 = ai ∧ f' 47 = Vi ((ag.length : Int)) ∧ f' 48 = Vi ((ao : Int)) ∧ f' 87 = o ∧ f' 88 = Vi ((a5.length : Int)) ∧ f' 89 = Vi ((b1 : Int)) ∧ f' 113 = Value.bool (aK)) aK) ?_ ?_
     ·refine Zd (WL_passes 2 rfl ?_)
      rcases ite_some a2 with ⟨ar, a2⟩ | ⟨ar, a2⟩
      ·refine WL_run rfl (Zf rfl (Zx ar)) rfl (Exec.load_box_agg (ds := [Value.map (some aG), Value.map (some aH)]) (aO) A121 rfl rfl rfl (WL_run rfl (Zf rfl (Zx ar)) rfl (Exec.load_box_agg (ds := [Value.string (b.Name), Vi (b.Cost), x, y, z, q, aa]) ((aO).f3) A63 rfl aE rfl (WL_run rfl (Zf rfl (Zx ar)) rfl (Zm (v := Vi (bl)) rfl rfl ?_)))))
       obtain ⟨gT, g2, a2⟩ := Zg a2
       refine WL_run rfl (Zf rfl (Zx ar)) rfl (Tc rfl rfl rfl (Zi rfl (Zi rfl (Zi rfl args_nil))) (invariant_literals_deletes_o_sim g2 ((aO).f2).f2 (bn.mono (Zt (Zt (Zt (Zt (Zt d g) n) u) ah) a3)) (bo.mono (Zt (Zt (Zt (Zt (Zt d g) n) u) ah) a3)) (bp.mono (Zt (Zt (Zt (Zt (Zt d g) n) u) ah) a3)) (a4.mono (Zt (Zt (Zt (Zt (Zt d g) n) u) ah) a3)) (bq.mono (Zt (Zt (Zt (Zt (Zt d g) n) u) ah) a3))).r ?_)
       rintro _ iV ⟨gC, eJ, eg, rfl⟩
       refine WL_run rfl (Zf rfl (Zx ar)) rfl (Exec.not rfl rfl (Za rfl rfl (Zs (v := Value.bool (!gT)) rfl (Zx ar) rfl (Zb (Ze ?_)))))
       have hr := Zu a2
       subst aK
       exact ⟨gC, eJ, (((((eg).drop).drop).drop).f1).f1, aV, aE, bB, aF, bC, bD, bE, aW, aX, aI, rfl⟩
      replace ar := Zk ar
      refine WL_passes 6 (by rw [ar]; rfl) ?_
      refine Zb (Ze ?_)
      have hs := Zu a2
      subst aK
      exact ⟨df, (Zv _), (((((aO).drop).drop).drop).f1).f1, aV, aE, bB, aF, bC, bD, bE, aW, aX, aI, rfl⟩
     intro hB iW dA
     obtain ⟨dh, cq, cg, fJ, fK, fL, fM, fN, fO, fP, fQ, fR, fS, cJ⟩ := dA
     refine (Ze ?_)
     rcases ite_some ab with ⟨aC, ab⟩ | ⟨aC, ab⟩
     ·refine W_cond_t cJ aC (Zc (Zd (Za rfl rfl (Zo (v := Value.bool (false)) rfl rfl (Zb (Ze (W_ret (ib_ret (at_ret (at_ret (ib_ret (at_ret (ib_ret (at_ret (at_ret (ib_ret (at_ret (at_ret ?_))))))))))))))))))
      have ht := Zu ab
      subst bu
      have e1 := e5 _ (eA (by intro _ h; cases h))
      have hu := Zu e1
      subst bs
      have e2 := cn _ (co (by intro _ h; cases h))
      have hv := Zu e2
      subst r
      refine ⟨_, ret1 rfl, ?_⟩
      exact ⟨dh, (Zt (Zt (Zt (Zt (Zt (Zt d g) n) u) ah) a3) cq), ((cg).drop).drop, rfl⟩
     refine W_cond_f cJ aC ?_
     replace aC := Zk aC
     refine W_skip (ib_normal (Ze (Zd (Za rfl rfl (Exec.add rfl fS rfl (Za rfl rfl (Zm (v := Vi (IntKind.i64.wrap ((b1 : Int) + 1))) rfl rfl (Zb (Ze ?_)))))))))
     have hw := Zu ab
     subst bu
     refine ⟨_, rfl, ?_⟩; exact ⟨dh, (Zt (Zt (Zt u ah) a3) cq), ((cg).f1).f1, fJ, fK, fL, fM, fN, fO, fP, fQ, fR, (Eq.trans rfl (wrap_up cm (SliceRep.le (ay.mono (Zt (Zt d g) n)))))⟩
    intro ir hC iX d4 eB
    obtain ⟨gD, eK, eh, fT, fU, fV, fW, fX, fY, fZ, ga, cK, gQ⟩ := d4
    refine Zc (Zd (Za rfl rfl (Zq rfl gQ cK (Zb (Ze (Zc (W_false (Zx (decide_eq_false (by omega))) (W_exit (at_exit (at_exit (ib_here (Ze ?_))))))))))))
    refine ⟨_, .inl eB, ?_⟩; exact ⟨gD, eK, ((eh).f1).f1, fT, fU, fV, fW, fX, fY, fZ, ga, cK⟩
   rintro hD iY ⟨it, cj, dB⟩
   have al := cj.elim (ex _) (eo _)
   clear cj
   obtain ⟨gE, b3, ei, gb, gc, gd, hV, gf, gg, gh, hW, hX⟩ := dB
   refine (ib_normal (Ze (Zd (Za rfl rfl (Exec.add rfl gh rfl (Za rfl rfl (Zm (v := Vi (IntKind.i64.wrap ((ao : Int) + 1))) rfl rfl (Zb (Ze ?_)))))))))
   have hx := Zu al
   subst bs
   refine ⟨_, rfl, ?_⟩; exact ⟨gE, af, ai, (Zt (Zt g n) b3), ((ei).f1).drop, gb, gc, gd, gf, gg, (Eq.trans rfl (wrap_up er ((bx).f1).arr_le)), (aP.mono (Zt n b3)), (aQ.mono (Zt n b3))⟩
  intro gL hE iZ d5 eC
  obtain ⟨br, bR⟩ := gL
  obtain ⟨gF, af, ai, eL, ej, gi, gj, gk, gl, cL, gR, aP, aQ⟩ := d5
  refine Zc (Zd (Za rfl rfl (Zq rfl gR cL (Zb (Ze (Zc (W_false (Zx (decide_eq_false (by omega))) (W_exit (at_exit (at_exit (ib_here (Ze ?_))))))))))))
  refine ⟨_, .inl eC, ?_⟩; exact ⟨gF, af, ai, eL, ej, gi, gj, gk, gl, cL, aP, aQ⟩
 rintro hF ja ⟨gM, ck, dC⟩
 have hm := ck.elim (eu _) (el _)
 clear ck
 obtain ⟨bS, dk⟩ := gM
 replace hm := un2_eq hm
 obtain ⟨gG, bM, bN, eM, ek, hY, hZ, ia, ib, ic, hH, hI⟩ := dC
 refine (Ze (Zc (Zd (Za rfl rfl (Zo (v := Value.bool (true)) rfl rfl (Zb (Ze (W_ret ?_))))))))
 have hy := Zu hm
 subst r
 refine ⟨_, ret1 rfl, ?_⟩
 exact ⟨gG, (Zt d eM), (ek).drop, rfl⟩
theorem invariant_balanced_sim {w0 w : World} {s : PHeap} {H : List Res} {n : Ground} {ag : (List Int)} {ac : Value} {ad : Value} {o : Value} {ae : Value} {p : Value} {b : Value} {r : Bool} (hm : invariant_balanced_p n ag = some r) (hS : St w0 s (H) w) (bc : SliceRep encAtom s ac n.Atoms) (cc : SliceRep encGFluent s ad n.Fluents) (a2 : SliceRep (encInt .i64) s o n.Init) (cd : SliceRep encCond s ae n.Goal) (au : SliceRep encGOp s p n.Ops) (aa : SliceRep (encInt .i64) s b ag) :
  Calls Tryz.prog 23 #[Value.agg #[ac, ad, o, ae, p], b] w fun e w' => ∃ v, e = .returned v ∧ ((fun (cb : Bool) => ∃ (aT : PHeap) , PHeap.le s aT ∧ St w0 aT (H) w' ∧ v = Value.bool (cb)) r) := by
 unfold invariant_balanced_p at hm
 refine calls_of_W Tryz.func23 rfl rfl (Zc (Zd (Za rfl rfl (Exec.box (cs := [ac, ad, o, ae, p]) hS rfl rfl rfl ?_))))
 intro ab cL bp
 refine Za rfl rfl (Zo (v := Value.bool (false)) rfl rfl (Zb (Ze (Zc (Zc (Zd (Za rfl rfl (Zm (v := b) rfl rfl (Za rfl rfl (Zr S24 rfl rfl aa (Za rfl rfl (Zm (v := Vi (0)) rfl rfl (Zb (Ze ?_))))))))))))))
 obtain ⟨a3, bg, b4, b0, bv⟩ := ctl_some hm
 refine W_mid (M := fun f' w' => ∃ s', (a3 = .next s' ∨ a3 = .brk s') ∧ (fun (_ : Unit) => ∃ (aU : PHeap) , PHeap.le s aU ∧ St w0 aU (Res.box ab 28 [ac, ad, o, ae, p] :: H) w' ∧ f' 1 = b ∧ f' 2 = Value.pointer (some ⟨ab, 0, none⟩) ∧ f' 9 = b ∧ f' 10 = Vi ((ag.length : Int))) s') ?_ ?_
 ·refine W_block (W_forC (fun k' s' f' w' => (fun (_ : Unit) => ∃ (aV : PHeap) , PHeap.le s aV ∧ St w0 aV (Res.box ab 28 [ac, ad, o, ae, p] :: H) w' ∧ f' 1 = b ∧ f' 2 = Value.pointer (some ⟨ab, 0, none⟩) ∧ f' 9 = b ∧ f' 10 = Vi ((ag.length : Int)) ∧ f' 11 = Vi (k' : Int)) s') bg ?_ ?_ ?_)
  ·exact ⟨s, (Zv _), bp, rfl, rfl, rfl, rfl, rfl⟩
  ·intro t cC a4 cv cM bx bi l b6
   obtain ⟨ap, ak, q, al, am, an, ao, x⟩ := bi
   refine Zc (Zd (Za rfl rfl (Zq rfl x ao (Zb (Ze (Zc (W_true (Zx (decide_eq_true (by omega))) (W_skip (Ze (Zc (W_block (Zc (Zd (Za rfl rfl (Zm (v := Vi ((t : Int))) rfl x ?_)))))))))))))))
   obtain ⟨y, bO, l⟩ := Zg l
   refine Za rfl rfl (Exec.index_rep S24 rfl an x (aa.mono ak) bO ?_)
   intro ce c2 bd
   refine Za rfl rfl (Zw (E := (encInt .i64)) q A3 rfl rfl rfl bd ?_)
   intro cI bP
   obtain rfl := encInt_val.1 bP
   refine Za rfl rfl (Zo (v := Vi ((t : Int))) rfl rfl (Za rfl rfl (Zo (v := Vi (y)) rfl rfl (Zb (Ze (Zc ?_))))))
   obtain ⟨z, a, l⟩ := Zg l
   refine W_mid (M := fun f' w' => (fun (z : Bool) => ∃ (aW : PHeap) , PHeap.le ap aW ∧ St w0 aW (Res.box ab 28 [ac, ad, o, ae, p] :: H) w' ∧ f' 1 = b ∧ f' 2 = Value.pointer (some ⟨ab, 0, none⟩) ∧ f' 9 = b ∧ f' 10 = Vi ((ag.length : Int)) ∧ f' 11 = Vi ((t : Int)) ∧ f' 37 = Value.bool (z)) z) ?_ ?_
   ·refine Zd (Za rfl rfl (Zm (v := Vi (y)) rfl rfl (Za rfl rfl (Zq rfl rfl rfl (Za rfl rfl (Zm (v := Value.bool (decide (y < 0))) rfl rfl ?_))))))
    rcases ite_some a with ⟨i, a⟩ | ⟨i, a⟩
    ·refine WL_passes 19 (by rw [i]; rfl) ?_
     refine Zb (Ze ?_)
     have ci := Zu a
     subst z
     exact ⟨ap, (Zv _), q, al, am, an, ao, x, rfl⟩
    replace i := Zk i
    refine WL_run rfl (Zf rfl (Zx i)) rfl (Zm (v := Vi (y)) rfl rfl (WL_run rfl (Zf rfl (Zx i)) rfl (Zp F28_0 rfl am rfl (WL_run rfl (Zf rfl (Zx i)) rfl (Zn (q) A22 rfl rfl rfl (WL_run rfl (Zf rfl (Zx i)) rfl (Zr S22 rfl rfl (bc.mono ak) (WL_run rfl (Zf rfl (Zx i)) rfl (Exec.geq rfl rfl rfl ?_)))))))))
    refine WL_passes 2 (by rw [i]; rfl) ?_
    rcases ite_some a with ⟨g, a⟩ | ⟨g, a⟩
    ·refine WL_passes 12 (by rw [g]; rfl) ?_
     refine Zb (Ze ?_)
     have cj := Zu a
     subst z
     exact ⟨ap, (Zv _), q, al, am, an, ao, x, rfl⟩
    replace g := Zk g
    refine WL_run rfl (Zf rfl (Zx g)) rfl (Zm (v := Vi ((t : Int))) rfl rfl (WL_run rfl (Zf rfl (Zx g)) rfl (Exec.gtr rfl rfl rfl (WL_run rfl (Zf rfl (Zx g)) rfl (Zm (v := Value.bool (decide (0 < (t : Int)))) rfl rfl ?_)))))
    rcases ite_some a with ⟨d, a⟩ | ⟨d, a⟩
    ·refine WL_run rfl (Zf rfl (Zx d)) rfl (Zm (v := b) rfl al (WL_run rfl (Zf rfl (Zx d)) rfl (Zm (v := Vi ((t : Int))) rfl rfl (WL_run rfl (Zf rfl (Zx d)) rfl (Exec.sub rfl rfl rfl ?_)))))
     obtain ⟨bb, bQ, a⟩ := Zg a
     refine WL_run rfl (Zf rfl (Zx d)) rfl (Exec.index_rep S24 rfl rfl rfl (aa.mono ak) bQ ?_)
     intro cf c3 be
     refine WL_run rfl (Zf rfl (Zx d)) rfl (Zw (E := (encInt .i64)) q A3 rfl rfl rfl be ?_)
     intro cJ bR
     obtain rfl := encInt_val.1 bR
     refine WL_run rfl (Zf rfl (Zx d)) rfl (Zm (v := Vi (y)) rfl rfl (WL_run rfl (Zf rfl (Zx d)) rfl (Exec.geq rfl rfl rfl (WL_run rfl (Zf rfl (Zx g)) rfl (Zs (v := Value.bool (decide (y ≤ bb))) rfl (Zx d) rfl (Za rfl rfl (Exec.pick_f (v := Value.bool (decide (y ≤ bb))) rfl (Zx g) rfl (Zb (Ze ?_)))))))))
     have ck := Zu a
     subst z
     exact ⟨ap, (Zv _), q, al, am, an, ao, x, rfl⟩
    replace d := Zk d
    refine WL_passes 7 (by rw [d]; rfl) ?_
    refine WL_run rfl (Zf rfl (Zx g)) rfl (Exec.pick_f (v := Value.bool (false)) rfl rfl rfl (Za rfl rfl (Exec.pick_f (v := Value.bool (false)) rfl (Zx g) rfl (Zb (Ze ?_)))))
    have cl := Zu a
    subst z
    exact ⟨ap, (Zv _), q, al, am, an, ao, x, rfl⟩
   intro cw cN bm
   obtain ⟨aX, aE, a7, bE, bF, bG, bH, bI, aG⟩ := bm
   refine (Ze ?_)
   rcases ite_some l with ⟨ah, l⟩ | ⟨ah, l⟩
   ·refine W_cond_t aG ah (Zc (Zd (Za rfl rfl (Zo (v := Value.bool (false)) rfl rfl (Zb (Ze (W_ret (ib_ret (at_ret (at_ret (ib_ret (at_ret (at_ret ?_)))))))))))))
    have cm := Zu l
    subst a4
    have b2 := b4 _ (b6 (by intro _ h; cases h))
    have cn := Zu b2
    subst r
    refine ⟨_, ret1 rfl, ?_⟩
    exact ⟨aX, (Zt ak aE), (a7).drop, rfl⟩
   refine W_cond_f aG ah ?_
   replace ah := Zk ah
   refine W_skip (ib_normal (Ze (Zd (Za rfl rfl (Exec.add rfl bI rfl (Za rfl rfl (Zm (v := Vi (IntKind.i64.wrap ((t : Int) + 1))) rfl rfl (Zb (Ze ?_)))))))))
   have co := Zu l
   subst a4
   refine ⟨_, rfl, ?_⟩; exact ⟨aX, (Zt ak aE), a7, bE, bF, bG, bH, (Eq.trans rfl (wrap_up bx (SliceRep.le aa)))⟩
  intro cD cx cO bj b7
  obtain ⟨bW, bB, bq, bJ, bK, bL, aH, bZ⟩ := bj
  refine Zc (Zd (Za rfl rfl (Zq rfl bZ aH (Zb (Ze (Zc (W_false (Zx (decide_eq_false (by omega))) (W_exit (at_exit (at_exit (ib_here (Ze ?_))))))))))))
  refine ⟨_, .inl b7, ?_⟩; exact ⟨bW, bB, bq, bJ, bK, bL, aH⟩
 rintro cy cP ⟨cE, aC, bn⟩
 have hm := aC.elim (b0 _) (bv _)
 clear aC
 obtain ⟨cA, j, a8, aI, aJ, c5, c6⟩ := bn
 refine (Ze (Zc (Zc (Zd (Za rfl rfl (Zp F28_2 rfl aJ rfl (Za rfl rfl (Zn (a8) A24 rfl rfl rfl (Za rfl rfl (Exec.build rfl (parts_cons (c := [o]) (cells_of rfl (cells_one ((a2.mono j)).one)) parts_nil) (v := Value.agg #[o, Value.slice none 0 0]) (fun _ => by kernel_rfl) (Za rfl rfl (Zm (v := b) rfl aI ?_))))))))))))
 obtain ⟨cX, bS, hm⟩ := Zg hm
 refine Za rfl rfl (Tc rfl rfl rfl (Zi rfl (Zi rfl args_nil)) (invariant_Holds_sim bS a8 (a2.mono j) (SliceRep.nil _ _) (aa.mono j)).r ?_)
 rintro _ cQ ⟨ar, u, av, rfl⟩
 refine Za rfl rfl (Exec.not rfl rfl (Zb (Ze ?_)))
 rcases ite_some hm with ⟨ai, hm⟩ | ⟨ai, hm⟩
 ·refine W_cond_t rfl ai (Zc (Zd (Za rfl rfl (Zo (v := Value.bool (false)) rfl rfl (Zb (Ze (W_ret (at_ret ?_))))))))
  have cp := Zu hm
  subst r
  refine ⟨_, ret1 rfl, ?_⟩
  exact ⟨ar, (Zt j u), (av).drop, rfl⟩
 refine W_cond_f rfl ai ?_
 replace ai := Zk ai
 refine W_skip (Ze (Zc (Zc (Zd (Za rfl rfl (Zp F28_4 rfl aJ rfl (Za rfl rfl (Zn (av) A26 rfl rfl rfl (Za rfl rfl (Zr S26 rfl rfl (au.mono (Zt j u)) (Za rfl rfl (Zm (v := Vi (0)) rfl rfl (Zb (Ze ?_))))))))))))))
 obtain ⟨a5, bh, b5, b1, bw⟩ := ctl_some hm
 refine W_mid (M := fun f' w' => ∃ s', (a5 = .next s' ∨ a5 = .brk s') ∧ (fun (_ : Unit) => ∃ (aY : PHeap) , PHeap.le ar aY ∧ St w0 aY (H) w' ∧ f' 1 = b ∧ f' 46 = p ∧ f' 47 = Vi ((n.Ops.length : Int))) s') ?_ ?_
 ·refine W_block (W_forC (fun k' s' f' w' => (fun (_ : Unit) => ∃ (aZ : PHeap) , PHeap.le ar aZ ∧ St w0 aZ (H) w' ∧ f' 1 = b ∧ f' 46 = p ∧ f' 47 = Vi ((n.Ops.length : Int)) ∧ f' 48 = Vi (k' : Int)) s') bh ?_ ?_ ?_)
  ·have br := (av).drop
   exact ⟨ar, (Zv _), br, aI, rfl, rfl, rfl⟩
  ·intro bA cF a6 cz cR bz bk m b8
   obtain ⟨cB, aq, a9, aK, aL, aM, a1⟩ := bk
   refine Zc (Zd (Za rfl rfl (Zq rfl a1 aM (Zb (Ze (Zc (W_true (Zx (decide_eq_true (by omega))) (W_skip (Ze (Zc (W_block (Zc (Zd ?_)))))))))))))
   obtain ⟨af, bT, m⟩ := Zg m
   refine Za rfl rfl (Exec.index_rep S26 rfl aL a1 (au.mono (Zt (Zt j u) aq)) bT ?_)
   intro cg c4 bf
   refine Za rfl rfl (Zw (E := encGOp) a9 A63 rfl rfl rfl bf ?_)
   intro cK bU
   obtain ⟨aw, ax, ay, az, a0, rfl, aO, aP, aQ, aR, aS⟩ := encGOp_val.1 bU
   refine Za rfl rfl (Exec.alloc (cs := [Value.string (⟨#[]⟩), Vi (0), Value.slice none 0 0, Value.slice none 0 0, Value.slice none 0 0, Value.slice none 0 0, Value.slice none 0 0]) a9 Z63 rfl rfl ?_)
   intro ch cS bs
   refine Za rfl rfl (Exec.store_box (ds := [Value.string (af.Name), Vi (af.Cost), aw, ax, ay, az, a0]) (es := [Value.string (af.Name), Vi (af.Cost), aw, ax, ay, az, a0]) bs A63 rfl rfl rfl rfl (Zj rfl (Zj rfl (Zj (aO).one (Zj (aP).one (Zj (aQ).one (Zj (aR).one (Zj (aS).one one_nil))))))) (Nat.le_of_ble_eq_true rfl) rfl ?_)
   intro cT aA
   refine Zb (Ze (Zc (Zd (Za rfl rfl (Exec.load_box_agg (ds := [Value.string (af.Name), Vi (af.Cost), aw, ax, ay, az, a0]) (aA) A63 rfl rfl rfl (Za rfl rfl (Zm (v := b) rfl aK ?_)))))))
   obtain ⟨cY, bV, m⟩ := Zg m
   refine Za rfl rfl (Tc rfl rfl rfl (Zi rfl (Zi rfl args_nil)) (invariant_keeps_sim bV aA aO aP aQ aR aS (aa.mono (Zt (Zt j u) aq))).r ?_)
   rintro _ cU ⟨ba, aF, aB, rfl⟩
   refine Za rfl rfl (Exec.not rfl rfl (Zb (Ze ?_)))
   rcases ite_some m with ⟨aj, m⟩ | ⟨aj, m⟩
   ·refine W_cond_t rfl aj (Zc (Zd (Za rfl rfl (Zo (v := Value.bool (false)) rfl rfl (Zb (Ze (W_ret (ib_ret (at_ret (at_ret (ib_ret (at_ret (at_ret ?_)))))))))))))
    have cq := Zu m
    subst a6
    have b3 := b5 _ (b8 (by intro _ h; cases h))
    have cr := Zu b3
    subst r
    refine ⟨_, ret1 rfl, ?_⟩
    exact ⟨ba, (Zt (Zt (Zt j u) aq) aF), (aB).drop, rfl⟩
   refine W_cond_f rfl aj ?_
   replace aj := Zk aj
   refine W_skip (ib_normal (Ze (Zd (Za rfl rfl (Exec.add rfl a1 rfl (Za rfl rfl (Zm (v := Vi (IntKind.i64.wrap ((bA : Int) + 1))) rfl rfl (Zb (Ze ?_)))))))))
   have ct := Zu m
   subst a6
   refine ⟨_, rfl, ?_⟩; exact ⟨ba, (Zt aq aF), (aB).drop, aK, aL, aM, (Eq.trans rfl (wrap_up bz (SliceRep.le (au.mono (Zt j u)))))⟩
  intro cG c0 cV bl b9
  obtain ⟨bX, bC, bt, bM, bN, aN, ca⟩ := bl
  refine Zc (Zd (Za rfl rfl (Zq rfl ca aN (Zb (Ze (Zc (W_false (Zx (decide_eq_false (by omega))) (W_exit (at_exit (at_exit (ib_here (Ze ?_))))))))))))
  refine ⟨_, .inl b9, ?_⟩; exact ⟨bX, bC, bt, bM, bN, aN⟩
 rintro c1 cW ⟨cH, aD, bo⟩
 have hm := aD.elim (b1 _) (bw _)
 clear aD
 obtain ⟨bY, bD, bu, c7, c8, c9⟩ := bo
 refine (Ze (Zc (Zd (Za rfl rfl (Zo (v := Value.bool (true)) rfl rfl (Zb (Ze (W_ret ?_))))))))
 have cu := Zu hm
 subst r
 refine ⟨_, ret1 rfl, ?_⟩
 exact ⟨bY, (Zt (Zt j u) bD), bu, rfl⟩
theorem invariant_inside_sim {w0 w : World} {s : PHeap} {H : List Res} {i : (List Int)} {q : (List Int)} {b : Value} {c : Value} {r : Bool} (hm : invariant_inside_p i q = some r) (hS : St w0 s (H) w) (j : SliceRep (encInt .i64) s b i) (p : SliceRep (encInt .i64) s c q) :
  Calls Tryz.prog 28 #[b, c] w fun e w' => ∃ v, e = .returned v ∧ ((fun (aC : Bool) => ∃ (af : PHeap) , PHeap.le s af ∧ St w0 af (H) w' ∧ v = Value.bool (aC)) r) := by
 unfold invariant_inside_p at hm
 refine calls_of_W Tryz.func28 rfl rfl (Zc (Zd (Za rfl rfl (Zo (v := Value.bool (false)) rfl rfl (Zb (Ze (Zc (Zc (Zd (Za rfl rfl (Zm (v := b) rfl rfl (Za rfl rfl (Zr S24 rfl rfl j (Za rfl rfl (Zm (v := c) rfl rfl (Za rfl rfl (Zr S24 rfl rfl p (Za rfl rfl (Exec.gtr rfl rfl rfl (Zb (Ze ?_)))))))))))))))))))))
 rcases ite_some hm with ⟨d, hm⟩ | ⟨d, hm⟩
 ·refine W_cond_t rfl d (Zc (Zd (Za rfl rfl (Zo (v := Value.bool (false)) rfl rfl (Zb (Ze (W_ret (at_ret ?_))))))))
  have aE := Zu hm
  subst r
  refine ⟨_, ret1 rfl, ?_⟩
  exact ⟨s, (Zv _), hS, rfl⟩
 refine W_cond_f rfl d ?_
 replace d := Zk d
 refine W_skip (Ze (Zc (Zc (Zd (Za rfl rfl (Zm (v := b) rfl rfl (Za rfl rfl (Zr S24 rfl rfl j (Za rfl rfl (Zm (v := Vi (0)) rfl rfl (Zb (Ze ?_))))))))))))
 obtain ⟨t, al, ax, av, ar⟩ := ctl_some hm
 refine W_mid (M := fun f' w' => ∃ s', (t = .next s' ∨ t = .brk s') ∧ (fun (_ : Unit) => ∃ (ag : PHeap) , PHeap.le s ag ∧ St w0 ag (H) w' ∧ f' 1 = c ∧ f' 14 = b ∧ f' 15 = Vi ((i.length : Int))) s') ?_ ?_
 ·refine W_block (W_forC (fun k' s' f' w' => (fun (_ : Unit) => ∃ (ah : PHeap) , PHeap.le s ah ∧ St w0 ah (H) w' ∧ f' 1 = c ∧ f' 14 = b ∧ f' 15 = Vi ((i.length : Int)) ∧ f' 16 = Vi (k' : Int)) s') al ?_ ?_ ?_)
  ·exact ⟨s, (Zv _), hS, rfl, rfl, rfl, rfl⟩
  ·intro a0 aR u aJ aV au am a ay
   obtain ⟨aQ, l, x, ab, ac, ad, n⟩ := am
   refine Zc (Zd (Za rfl rfl (Zq rfl n ad (Zb (Ze (Zc (W_true (Zx (decide_eq_true (by omega))) (W_skip (Ze (Zc (W_block (Zc (Zd ?_)))))))))))))
   obtain ⟨aj, a5, a⟩ := Zg a
   refine Za rfl rfl (Exec.index_rep S24 rfl ac n (j.mono l) a5 ?_)
   intro aD aM ak
   refine Za rfl rfl (Zw (E := (encInt .i64)) x A3 rfl rfl rfl ak ?_)
   intro aU a6
   obtain rfl := encInt_val.1 a6
   refine Za rfl rfl (Zo (v := Vi (aj)) rfl rfl (Zb (Ze (Zc (Zd (Za rfl rfl (Zm (v := c) rfl ab (Za rfl rfl (Zm (v := Vi (aj)) rfl rfl ?_)))))))))
   obtain ⟨aA, a7, a⟩ := Zg a
   obtain ⟨o, m⟩ := aA
   replace a := un2_eq a
   refine Za rfl rfl (Tc rfl rfl rfl (Zi rfl (Zi rfl args_nil)) (slices_BinarySearch_int_sim a7 x (p.mono l)).r ?_)
   rintro _ aW ⟨ai, aa, y, rfl⟩
   refine Za rfl rfl (Zm (v := Value.tuple #[Vi (o), Value.bool (m)]) rfl rfl (Za rfl rfl (Exec.extract (v := Vi (o)) rfl rfl rfl (Za rfl rfl (Exec.extract (v := Value.bool (m)) rfl rfl rfl (Za rfl rfl (Zo (v := Vi (o)) rfl rfl (Za rfl rfl (Zo (v := Value.bool (m)) rfl rfl (Zb (Ze (Zc (Zd (Za rfl rfl (Zm (v := Value.bool (m)) rfl rfl (Za rfl rfl (Exec.not rfl rfl (Zb (Ze ?_)))))))))))))))))))
   rcases ite_some a with ⟨g, a⟩ | ⟨g, a⟩
   ·refine W_cond_t rfl g (Zc (Zd (Za rfl rfl (Zo (v := Value.bool (false)) rfl rfl (Zb (Ze (W_ret (ib_ret (at_ret (at_ret (ib_ret (at_ret (at_ret ?_)))))))))))))
    have aF := Zu a
    subst u
    have aw := ax _ (ay (by intro _ h; cases h))
    have aG := Zu aw
    subst r
    refine ⟨_, ret1 rfl, ?_⟩
    exact ⟨ai, (Zt l aa), y, rfl⟩
   refine W_cond_f rfl g ?_
   replace g := Zk g
   refine W_skip (ib_normal (Ze (Zd (Za rfl rfl (Exec.add rfl n rfl (Za rfl rfl (Zm (v := Vi (IntKind.i64.wrap ((a0 : Int) + 1))) rfl rfl (Zb (Ze ?_)))))))))
   have aH := Zu a
   subst u
   refine ⟨_, rfl, ?_⟩; exact ⟨ai, (Zt l aa), y, ab, ac, ad, (Eq.trans rfl (wrap_up au (SliceRep.le j)))⟩
  intro aS aK aX an az
  obtain ⟨a8, a1, ap, a3, a4, ae, aB⟩ := an
  refine Zc (Zd (Za rfl rfl (Zq rfl aB ae (Zb (Ze (Zc (W_false (Zx (decide_eq_false (by omega))) (W_exit (at_exit (at_exit (ib_here (Ze ?_))))))))))))
  refine ⟨_, .inl az, ?_⟩; exact ⟨a8, a1, ap, a3, a4, ae⟩
 rintro aL aY ⟨aT, z, ao⟩
 have hm := z.elim (av _) (ar _)
 clear z
 obtain ⟨a9, a2, aq, aN, aO, aP⟩ := ao
 refine (Ze (Zc (Zd (Za rfl rfl (Zo (v := Value.bool (true)) rfl rfl (Zb (Ze (W_ret ?_))))))))
 have aI := Zu hm
 subst r
 refine ⟨_, ret1 rfl, ?_⟩
 exact ⟨a9, a2, aq, rfl⟩
end Go.Pw
