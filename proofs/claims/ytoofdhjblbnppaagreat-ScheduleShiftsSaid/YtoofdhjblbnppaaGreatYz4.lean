/-
  The walks (printed by my generator).
-/
import Derived.Test.YtoofdhjblbnppaaGreatL29
import Derived.Test.YtoofdhjblbnppaaGreatL27
import Derived.Test.YtoofdhjblbnppaaGreatYz3
set_option maxRecDepth 100000
set_option maxHeartbeats 4000000
set_option linter.unusedVariables false
namespace Go.Pw
open Go.Proofs
theorem ref56_Sorted_sim {w0 w : World} {s : PHeap} {H : List Res} {ak : (List Launch)} {ap : Value} {r : (List Launch)} (hm : ref56_Sorted_p ak = some r) (hS : St w0 s (H) w) (aM : SliceRep encLaunch s ap ak) :
  Calls Tryz.prog 37 #[ap] w fun e w' => ∃ v, e = .returned v ∧ ((fun (b6 : (List Launch)) => ∃ (aF : PHeap) (aL : Value), PHeap.le s aF ∧ St w0 aF (Res.arr encLaunch 56 aL b6 :: H) w' ∧ v = aL) r) := by
 unfold ref56_Sorted_p at hm
 refine calls_of_W Tryz.func37 rfl rfl (Zc (Zd (Za rfl rfl (Zo (v := Value.slice none 0 0) rfl rfl (Zb (Ze (Zc (Zd (Za rfl rfl (Exec.buildSlice (Te := 56) (cs := []) hS rfl parts_nil (fun _ => by kernel_rfl) ?_))))))))))
 intro b7 cr aU
 refine Za rfl rfl (Zm (v := ap) rfl rfl ?_)
 have aV := St.boxArr (E := encLaunch) (xs := []) aU rfl (by simp [maxLen])
 obtain ⟨af, bo, hm⟩ := Zg hm
 refine Za rfl rfl (Exec.append_rep (E := encLaunch) (ys := ak) aV S27 Z56 rfl (by decide) rfl rfl rfl aM bo ?_)
 intro a ct aj
 refine Za rfl rfl (Zo (v := a) rfl rfl (Zb (Ze (Zc (Zc (Zd (Za rfl rfl (Zm (v := a) rfl rfl (Za rfl rfl (Exec.len_arr (aj) S27 rfl rfl (Za rfl rfl (Zm (v := Vi (0)) rfl rfl (Zb (Ze ?_))))))))))))))
 obtain ⟨al, aN, hm⟩ := Zg hm
 refine W_block (W_forS (fun k' s' f' w' => (fun (al : (List Launch)) => ∃ (aG : PHeap) , PHeap.le s aG ∧ St w0 aG (Res.arr encLaunch 56 a al :: H) w' ∧ f' 3 = a ∧ f' 10 = Vi ((af.length : Int)) ∧ f' 11 = Vi (k' : Int)) s') aN ?_ ?_ ?_)
 ·exact ⟨s, (Zv _), aj, rfl, rfl, rfl⟩
 ·intro q al b0 bQ cu bc aP ab
  obtain ⟨ao, bf, aW, bi, aB, aq⟩ := aP
  refine Zc (Zd (Za rfl rfl (Zq rfl aq aB (Zb (Ze (Zc (W_true (Zx (decide_eq_true (by omega))) (W_skip (Ze (Zc (W_block (Zc (Zd (Za rfl rfl (Zm (v := Vi ((q : Int))) rfl aq (Za rfl rfl (Zo (v := Vi ((q : Int))) rfl rfl (Zb (Ze (Zc (Zd (Za rfl rfl (Zm (v := Vi ((q : Int))) rfl rfl (Za rfl rfl (Zo (v := Vi ((q : Int))) rfl rfl (Zb (Ze ?_)))))))))))))))))))))))))))
  obtain ⟨ar, aO, cf, bd, bb⟩ := ctl_some ab
  refine W_mid (M := fun f' w' => ∃ s', (ar = .next s' ∨ ar = .brk s') ∧ (un2 fun (a7 : Int) (a8 : (List Launch)) => ∃ (aH : PHeap) , PHeap.le ao aH ∧ St w0 aH (Res.arr encLaunch 56 a a8 :: H) w' ∧ f' 3 = a ∧ f' 5 = Vi (a7) ∧ f' 10 = Vi ((af.length : Int)) ∧ f' 11 = Vi ((q : Int))) s') ?_ ?_
  ·refine W_block (W_while (fun s' f' w' => (un2 fun (g : Int) (am : (List Launch)) => ∃ (aI : PHeap) , PHeap.le ao aI ∧ St w0 aI (Res.arr encLaunch 56 a am :: H) w' ∧ f' 3 = a ∧ f' 5 = Vi (g) ∧ f' 10 = Vi ((af.length : Int)) ∧ f' 11 = Vi ((q : Int))) s') aO ?_ ?_)
   ·exact ⟨ao, (Zv _), aW, bi, rfl, aB, aq⟩
   intro b3 au bR cv aQ d be
   obtain ⟨g, am⟩ := b3
   replace d := un2_eq d
   obtain ⟨ac, a9, aX, p, o, ag, ah⟩ := aQ
   refine Zc (Zc ?_)
   obtain ⟨z, j, d⟩ := Zg d
   refine W_mid (M := fun f' w' => (fun (z : Bool) => ∃ (aJ : PHeap) , PHeap.le ac aJ ∧ St w0 aJ (Res.arr encLaunch 56 a am :: H) w' ∧ f' 3 = a ∧ f' 5 = Vi (g) ∧ f' 10 = Vi ((af.length : Int)) ∧ f' 11 = Vi ((q : Int)) ∧ f' 58 = Value.bool (z)) z) ?_ ?_
   ·refine W_dl (n0 := 44) (qs 0 44 .done) hmix (by kernel_rfl) (by kernel_rfl) ?_
    have l := aX.drew
    refine DL_q rfl rfl (Zm (v := Vi (g)) rfl o ⟨rfl, ?_⟩)
    refine DL_q rfl rfl (Exec.gtr rfl rfl rfl ⟨rfl, ?_⟩)
    refine DL_q rfl rfl (Zm (v := Value.bool (decide (0 < g))) rfl rfl ⟨rfl, ?_⟩)
    rcases ite_some j with ⟨b, j⟩ | ⟨b, j⟩
    ·refine DL_qg rfl rfl (Zf rfl (Zx b)) (Zm (v := a) rfl p ⟨rfl, ?_⟩)
     refine DL_qg rfl rfl (Zf rfl (Zx b)) (Zm (v := Vi (g)) rfl o ⟨rfl, ?_⟩)
     obtain ⟨ad, m, j⟩ := Zg j
     obtain ⟨bV, b8, av⟩ := (l).arr_at m
     refine DL_qg rfl rfl (Zf rfl (Zx b)) (Exec.index_slice S27 rfl av rfl (idx_some m).1 (idx_some m).2.1 ⟨rfl, ?_⟩)
     refine DL_qg rfl rfl (Zf rfl (Zx b)) (Zp F56_0 rfl rfl rfl ⟨rfl, ?_⟩)
     refine DL_qg rfl rfl (Zf rfl (Zx b)) (Exec.load_arr (F := (encInt .i64)) (l) av A3 rfl rfl rfl m (Sub.iso (Sub.fst (Sub.refl _))) ?_)
     intro cj bp
     obtain rfl := encInt_val.1 bp
     refine ⟨rfl, ?_⟩
     refine DL_qg rfl rfl (Zf rfl (Zx b)) (Zm (v := a) rfl p ⟨rfl, ?_⟩)
     refine DL_qg rfl rfl (Zf rfl (Zx b)) (Zm (v := Vi (g)) rfl o ⟨rfl, ?_⟩)
     refine DL_qg rfl rfl (Zf rfl (Zx b)) (Exec.sub rfl rfl rfl ⟨rfl, ?_⟩)
     obtain ⟨ae, n, j⟩ := Zg j
     obtain ⟨bW, b9, aw⟩ := (l).arr_at n
     refine DL_qg rfl rfl (Zf rfl (Zx b)) (Exec.index_slice S27 rfl aw rfl (idx_some n).1 (idx_some n).2.1 ⟨rfl, ?_⟩)
     refine DL_qg rfl rfl (Zf rfl (Zx b)) (Zp F56_0 rfl rfl rfl ⟨rfl, ?_⟩)
     refine DL_qg rfl rfl (Zf rfl (Zx b)) (Exec.load_arr (F := (encInt .i64)) (l) aw A3 rfl rfl rfl n (Sub.iso (Sub.fst (Sub.refl _))) ?_)
     intro ck bq
     obtain rfl := encInt_val.1 bq
     refine ⟨rfl, ?_⟩
     refine DL_qg rfl rfl (Zf rfl (Zx b)) (Zq rfl rfl rfl ⟨rfl, ?_⟩)
     refine DL_qg rfl rfl (Zf rfl (Zx b)) (Zm (v := Value.bool (decide (ad.At < ae.At))) rfl rfl ⟨rfl, ?_⟩)
     rcases ite_some j with ⟨c, j⟩ | ⟨c, j⟩
     ·refine DL_passes 26 (by rw [c]; rfl) ?_
      refine DL_qg rfl rfl (Zf rfl (Zx b)) (Zs (v := Value.bool (true)) rfl rfl rfl ⟨rfl, ?_⟩)
      refine DL_q rfl rfl (Zs (v := Value.bool (true)) rfl (Zx b) rfl ⟨rfl, ?_⟩)
      refine DL_done (Zb (Ze ?_))
      have bI := Zu j
      subst z
      exact ⟨ac, (Zv _), l, p, o, ag, ah, rfl⟩
     replace c := Zk c
     refine DL_qg rfl rfl (Zf rfl (Zx c)) (Zm (v := a) rfl p ⟨rfl, ?_⟩)
     refine DL_qg rfl rfl (Zf rfl (Zx c)) (Zm (v := Vi (g)) rfl o ⟨rfl, ?_⟩)
     obtain ⟨bX, bA, ax⟩ := (l).arr_at m
     refine DL_qg rfl rfl (Zf rfl (Zx c)) (Exec.index_slice S27 rfl ax rfl (idx_some m).1 (idx_some m).2.1 ⟨rfl, ?_⟩)
     refine DL_qg rfl rfl (Zf rfl (Zx c)) (Zp F56_0 rfl rfl rfl ⟨rfl, ?_⟩)
     refine DL_qg rfl rfl (Zf rfl (Zx c)) (Exec.load_arr (F := (encInt .i64)) (l) ax A3 rfl rfl rfl m (Sub.iso (Sub.fst (Sub.refl _))) ?_)
     intro cl br
     obtain rfl := encInt_val.1 br
     refine ⟨rfl, ?_⟩
     refine DL_qg rfl rfl (Zf rfl (Zx c)) (Zm (v := a) rfl p ⟨rfl, ?_⟩)
     refine DL_qg rfl rfl (Zf rfl (Zx c)) (Zm (v := Vi (g)) rfl o ⟨rfl, ?_⟩)
     refine DL_qg rfl rfl (Zf rfl (Zx c)) (Exec.sub rfl rfl rfl ⟨rfl, ?_⟩)
     obtain ⟨bY, bB, ay⟩ := (l).arr_at n
     refine DL_qg rfl rfl (Zf rfl (Zx c)) (Exec.index_slice S27 rfl ay rfl (idx_some n).1 (idx_some n).2.1 ⟨rfl, ?_⟩)
     refine DL_qg rfl rfl (Zf rfl (Zx c)) (Zp F56_0 rfl rfl rfl ⟨rfl, ?_⟩)
     refine DL_qg rfl rfl (Zf rfl (Zx c)) (Exec.load_arr (F := (encInt .i64)) (l) ay A3 rfl rfl rfl n (Sub.iso (Sub.fst (Sub.refl _))) ?_)
     intro cm bs
     obtain rfl := encInt_val.1 bs
     refine ⟨rfl, ?_⟩
     refine DL_qg rfl rfl (Zf rfl (Zx c)) (Exec.eql rfl rfl rfl ⟨rfl, ?_⟩)
     refine DL_qg rfl rfl (Zf rfl (Zx c)) (Zm (v := Value.bool (decide (ad.At = ae.At))) rfl rfl ⟨rfl, ?_⟩)
     rcases ite_some j with ⟨i, j⟩ | ⟨i, j⟩
     ·refine DL_qg rfl rfl (Zf rfl (Zx i)) (Zm (v := a) rfl p ⟨rfl, ?_⟩)
      refine DL_qg rfl rfl (Zf rfl (Zx i)) (Zm (v := Vi (g)) rfl o ⟨rfl, ?_⟩)
      obtain ⟨bZ, bC, az⟩ := (l).arr_at m
      refine DL_qg rfl rfl (Zf rfl (Zx i)) (Exec.index_slice S27 rfl az rfl (idx_some m).1 (idx_some m).2.1 ⟨rfl, ?_⟩)
      refine DL_qg rfl rfl (Zf rfl (Zx i)) (Zp F56_1 rfl rfl rfl ⟨rfl, ?_⟩)
      refine DL_qg rfl rfl (Zf rfl (Zx i)) (Exec.load_arr (F := (encInt .i64)) (l) az A3 rfl rfl rfl m (Sub.iso (Sub.snd (Sub.refl _) rfl)) ?_)
      intro cn bt
      obtain rfl := encInt_val.1 bt
      refine ⟨rfl, ?_⟩
      refine DL_qg rfl rfl (Zf rfl (Zx i)) (Zm (v := a) rfl p ⟨rfl, ?_⟩)
      refine DL_qg rfl rfl (Zf rfl (Zx i)) (Zm (v := Vi (g)) rfl o ⟨rfl, ?_⟩)
      refine DL_qg rfl rfl (Zf rfl (Zx i)) (Exec.sub rfl rfl rfl ⟨rfl, ?_⟩)
      obtain ⟨ca, bD, a0⟩ := (l).arr_at n
      refine DL_qg rfl rfl (Zf rfl (Zx i)) (Exec.index_slice S27 rfl a0 rfl (idx_some n).1 (idx_some n).2.1 ⟨rfl, ?_⟩)
      refine DL_qg rfl rfl (Zf rfl (Zx i)) (Zp F56_1 rfl rfl rfl ⟨rfl, ?_⟩)
      refine DL_qg rfl rfl (Zf rfl (Zx i)) (Exec.load_arr (F := (encInt .i64)) (l) a0 A3 rfl rfl rfl n (Sub.iso (Sub.snd (Sub.refl _) rfl)) ?_)
      intro co bu
      obtain rfl := encInt_val.1 bu
      refine ⟨rfl, ?_⟩
      refine DL_qg rfl rfl (Zf rfl (Zx i)) (Zq rfl rfl rfl ⟨rfl, ?_⟩)
      refine DL_qg rfl rfl (Zf rfl (Zx c)) (Zs (v := Value.bool (decide (ad.Job < ae.Job))) rfl (Zx i) rfl ⟨rfl, ?_⟩)
      refine DL_qg rfl rfl (Zf rfl (Zx b)) (Exec.pick_f (v := Value.bool (decide (ad.Job < ae.Job))) rfl (Zx c) rfl ⟨rfl, ?_⟩)
      refine DL_q rfl rfl (Zs (v := Value.bool (decide (ad.Job < ae.Job))) rfl (Zx b) rfl ⟨rfl, ?_⟩)
      refine DL_done (Zb (Ze ?_))
      have bJ := Zu j
      subst z
      exact ⟨ac, (Zv _), l, p, o, ag, ah, rfl⟩
     replace i := Zk i
     refine DL_passes 12 (by rw [i]; rfl) ?_
     refine DL_qg rfl rfl (Zf rfl (Zx c)) (Exec.pick_f (v := Value.bool (false)) rfl rfl rfl ⟨rfl, ?_⟩)
     refine DL_qg rfl rfl (Zf rfl (Zx b)) (Exec.pick_f (v := Value.bool (false)) rfl (Zx c) rfl ⟨rfl, ?_⟩)
     refine DL_q rfl rfl (Zs (v := Value.bool (false)) rfl (Zx b) rfl ⟨rfl, ?_⟩)
     refine DL_done (Zb (Ze ?_))
     have bK := Zu j
     subst z
     exact ⟨ac, (Zv _), l, p, o, ag, ah, rfl⟩
    replace b := Zk b
    refine DL_passes 41 (by rw [b]; rfl) ?_
    refine DL_done (Zb (Ze ?_))
    have bL := Zu j
    subst z
    exact ⟨ac, (Zv _), l, p, o, ag, ah, rfl⟩
   intro bS cw aS
   obtain ⟨aK, aA, t, u, x, aC, aD, aE⟩ := aS
   refine (Ze ?_)
   rcases ite_some d with ⟨aa, d⟩ | ⟨aa, d⟩
   ·refine W_cond_t aE aa (W_skip (Ze (Zc (W_block (W_dl (n0 := 16) (qs 0 15 (.e 15 [2, 3, 4] .done)) hmix (by kernel_rfl) (by kernel_rfl) (DL_q rfl rfl (Zm (v := a) rfl u ⟨rfl, ?_⟩)))))))
    refine DL_q rfl rfl (Zm (v := Vi (g)) rfl x ⟨rfl, ?_⟩)
    refine DL_q rfl rfl (Zm (v := a) rfl u ⟨rfl, ?_⟩)
    refine DL_q rfl rfl (Zm (v := Vi (g)) rfl x ⟨rfl, ?_⟩)
    refine DL_q rfl rfl (Exec.sub rfl rfl rfl ⟨rfl, ?_⟩)
    refine DL_q rfl rfl (Zm (v := a) rfl u ⟨rfl, ?_⟩)
    refine DL_q rfl rfl (Zm (v := Vi (g)) rfl x ⟨rfl, ?_⟩)
    refine DL_q rfl rfl (Exec.sub rfl rfl rfl ⟨rfl, ?_⟩)
    obtain ⟨c1, ai, d⟩ := Zg d
    obtain ⟨cb, bE, a1⟩ := (t.drew).arr_at ai
    refine DL_q rfl rfl (Exec.index_slice S27 rfl a1 rfl (idx_some ai).1 (idx_some ai).2.1 ⟨rfl, ?_⟩)
    refine DL_q rfl rfl (Exec.load_arr (F := encLaunch) (t.drew) a1 A56 rfl rfl rfl ai (Sub.refl _) ?_)
    intro cp bv
    obtain rfl := encLaunch_val.1 bv
    refine ⟨rfl, ?_⟩
    refine DL_q rfl rfl (Zm (v := a) rfl u ⟨rfl, ?_⟩)
    refine DL_q rfl rfl (Zm (v := Vi (g)) rfl x ⟨rfl, ?_⟩)
    obtain ⟨c2, y, d⟩ := Zg d
    obtain ⟨cc, bF, a2⟩ := (t.drew).arr_at y
    refine DL_q rfl rfl (Exec.index_slice S27 rfl a2 rfl (idx_some y).1 (idx_some y).2.1 ⟨rfl, ?_⟩)
    refine DL_q rfl rfl (Exec.load_arr (F := encLaunch) (t.drew) a2 A56 rfl rfl rfl y (Sub.refl _) ?_)
    intro cq bw
    obtain rfl := encLaunch_val.1 bw
    refine ⟨rfl, ?_⟩
    obtain ⟨cd, bG, a3⟩ := (t.drew).arr_at y
    refine DL_q rfl rfl (Exec.index_slice S27 rfl a3 rfl (idx_some y).1 (idx_some y).2.1 ⟨rfl, ?_⟩)
    obtain ⟨cg, bx, d⟩ := Zg d
    refine DL_e rfl rfl (Exec.store_arr t.drew a3 A56 rfl rfl rfl rfl (encLaunch_val.2 rfl) bx ?_)
    intro cx a5
    refine ⟨(ag_cons (ag_r rfl rfl (Zm (v := a) rfl u ⟨rfl, rfl⟩)) (ag_cons (ag_r rfl rfl (Zm (v := Vi (g)) rfl x ⟨rfl, rfl⟩)) (ag_cons (ag_r rfl rfl (Exec.sub rfl rfl rfl ⟨rfl, rfl⟩)) ag_nil))), ?_⟩
    refine DL_done ?_
    obtain ⟨c3, an, d⟩ := Zg d
    obtain ⟨ce, bH, a4⟩ := (a5).arr_at an
    refine Za rfl rfl (Exec.index_slice S27 rfl a4 rfl (idx_some an).1 (idx_some an).2.1 ?_)
    obtain ⟨ch, bz, d⟩ := Zg d
    refine Za rfl rfl (Exec.store_arr a5 a4 A56 rfl rfl rfl rfl (encLaunch_val.2 rfl) bz ?_)
    intro cy aY
    refine Zb (ib_normal (Ze (Zd (Za rfl rfl (Zm (v := Vi (g)) rfl x (Za rfl rfl (Exec.sub rfl rfl rfl (Za rfl rfl (Zo (v := Vi (IntKind.i64.wrap (g - 1))) rfl rfl (Zb (Ze ?_)))))))))))
    have bM := Zu d
    subst au
    refine ⟨_, rfl, ?_⟩; exact ⟨aK, (Zt a9 aA), aY, u, rfl, aC, aD⟩
   refine W_cond_f aE aa ?_
   replace aa := Zk aa
   refine W_exit (at_exit (at_exit (ib_here (Ze ?_))))
   have bN := Zu d
   subst au
   refine ⟨_, .inr (be (by intro _ h; cases h)), ?_⟩; exact ⟨aK, (Zt a9 aA), t, u, x, aC, aD⟩
  rintro bT cz ⟨b4, a6, aT⟩
  have ab := a6.elim (bd _) (bb _)
  clear a6
  obtain ⟨a7, a8⟩ := b4
  replace ab := un2_eq ab
  obtain ⟨b1, bg, aZ, bj, ci, bk, bl⟩ := aT
  refine (ib_normal (Ze (Zd (Za rfl rfl (Exec.add rfl bl rfl (Za rfl rfl (Zm (v := Vi (IntKind.i64.wrap ((q : Int) + 1))) rfl rfl (Zb (Ze ?_)))))))))
  have bO := Zu ab
  subst b0
  exact ⟨b1, (Zt bf bg), aZ, bj, bk, (Eq.trans rfl (wrap_up bc (aj).arr_le))⟩
 intro bU c0 aR
 obtain ⟨b2, bh, ba, bm, bn, b5⟩ := aR
 refine Zc (Zd (Za rfl rfl (Zq rfl b5 bn (Zb (Ze (Zc (W_false (Zx (decide_eq_false (by omega))) (W_exit (at_exit (at_exit (ib_here (Ze (Zc (Zd (Za rfl rfl (Zm (v := a) rfl bm (Za rfl rfl (Zo (v := a) rfl rfl (Zb (Ze (W_ret ?_)))))))))))))))))))))
 have bP := Zu hm
 subst r
 refine ⟨_, ret1 rfl, ?_⟩
 exact ⟨b2, a, bh, ba, rfl⟩
theorem ref57_point_sim {w0 w : World} {s : PHeap} {H : List Res} {a : Int} {c : Bool}  {r : Int} (hm : ref57_point_p a c = some r) (hS : St w0 s (H) w)  :
  Calls Tryz.prog 38 #[Vi (a), Value.bool (c)] w fun e w' => ∃ v, e = .returned v ∧ ((fun (f : Int) => ∃ (d : PHeap) , PHeap.le s d ∧ St w0 d (H) w' ∧ v = Vi (f)) r) := by
 unfold ref57_point_p at hm
 refine calls_of_W Tryz.func38 rfl rfl (Zc (Zd (Za rfl rfl (Zo (v := Vi (0)) rfl rfl (Zb (Ze (Zc (Zc (Zd (Za rfl rfl (Zm (v := Value.bool (c)) rfl rfl (Zb (Ze ?_)))))))))))))
 rcases ite_some hm with ⟨b, hm⟩ | ⟨b, hm⟩
 ·refine W_cond_t rfl b (Zc (Zd (Za rfl rfl (Zm (v := Vi (a)) rfl rfl (Za rfl rfl (Exec.mul rfl rfl rfl (Za rfl rfl (Exec.add rfl rfl rfl (Za rfl rfl (Zo (v := Vi (IntKind.i64.wrap ((IntKind.i64.wrap (2 * a)) + 2))) rfl rfl (Zb (Ze (W_ret (at_ret ?_))))))))))))))
  have g := Zu hm
  subst r
  refine ⟨_, ret1 rfl, ?_⟩
  exact ⟨s, (Zv _), hS, rfl⟩
 refine W_cond_f rfl b ?_
 replace b := Zk b
 refine W_skip (Ze (Zc (Zd (Za rfl rfl (Zm (v := Vi (a)) rfl rfl (Za rfl rfl (Exec.mul rfl rfl rfl (Za rfl rfl (Exec.add rfl rfl rfl (Za rfl rfl (Zo (v := Vi (IntKind.i64.wrap ((IntKind.i64.wrap (2 * a)) + 1))) rfl rfl (Zb (Ze (W_ret ?_))))))))))))))
 have h := Zu hm
 subst r
 refine ⟨_, ret1 rfl, ?_⟩
 exact ⟨s, (Zv _), hS, rfl⟩
theorem ref57_after_sim {w0 w : World} {s : PHeap} {H : List Res} {d : Int} {b : Int} {a : Int}  {r : Bound} (hm : ref57_after_p d b a = some r) (hS : St w0 s (H) w)  :
  Calls Tryz.prog 40 #[Vi (d), Vi (b), Vi (a)] w fun e w' => ∃ v, e = .returned v ∧ ((fun (f : Bound) => ∃ (h : PHeap) , PHeap.le s h ∧ St w0 h (H) w' ∧ v = Value.agg #[Vi (f.A), Vi (f.B), Vi (f.Most)]) r) := by
 unfold ref57_after_p at hm
 refine calls_of_W Tryz.func40 rfl rfl (Zc (Zd (Za rfl rfl (Exec.alloc (cs := [Vi (0), Vi (0), Vi (0)]) hS Z49 rfl rfl ?_))))
 intro j l i
 refine Zb (Ze (Zc (Zd (Za rfl rfl (Zm (v := Vi (d)) rfl rfl (Za rfl rfl (Zm (v := Vi (b)) rfl rfl (Za rfl rfl (Zm (v := Vi (a)) rfl rfl (Za rfl rfl (Exec.neg rfl rfl (Za rfl rfl (Exec.build rfl (parts_cons (c := [Vi (d)]) (cells_of rfl rfl) (parts_cons (c := [Vi (b)]) (cells_of rfl rfl) (parts_cons (c := [Vi (IntKind.i64.wrap (0 - a))]) (cells_of rfl rfl) parts_nil))) (v := Value.agg #[Vi (d), Vi (b), Vi (IntKind.i64.wrap (0 - a))]) (fun _ => by kernel_rfl) (Za rfl rfl (Exec.store_box (ds := [Vi (d), Vi (b), Vi (IntKind.i64.wrap (0 - a))]) (es := [Vi (d), Vi (b), Vi (IntKind.i64.wrap (0 - a))]) i A49 rfl rfl rfl rfl (Zj rfl (Zj rfl (Zj rfl one_nil))) (Nat.le_of_ble_eq_true rfl) rfl ?_)))))))))))))))
 intro m g
 refine Zb (Ze (W_ret ?_))
 have k := Zu hm
 subst r
 refine ⟨_, retG1 rfl ⟨_, _, rfl, cellRes (g) A49⟩, ?_⟩
 exact ⟨s, (Zv _), (g).drop, rfl⟩
theorem S92 : tySlice Tryz.prog 92 = some (91, 2, 2) := by kernel_rfl
theorem A91 : tyAgg Tryz.prog 91 = some (true, 2) := by kernel_rfl
theorem Z91 : tyZero Tryz.prog 91 = some (Value.agg #[Value.bool false, Value.bool false]) := by kernel_rfl
theorem ref55_Writes_sim {w0 w : World} {s : PHeap} {H : List Res} {a : Job} {g : Bool} {i : Value} {j : Value} {k : Value} {c : Value} {d : Value} {r : (List Fact)} (hm : ref55_Writes_p a g = some r) (hS : St w0 s (H) w) (p : SliceRep encFact s i a.Start) (q : SliceRep encFact s j a.Over) (t : SliceRep encFact s k a.End) (m : SliceRep encFact s c a.AtStart) (n : SliceRep encFact s d a.AtEnd) :
  Calls Tryz.prog 44 #[Value.agg #[Value.string (a.Name), Vi (a.Duration), i, j, k, c, d], Value.bool (g)] w fun e w' => ∃ v, e = .returned v ∧ ((fun (o : (List Fact)) => ∃ (h : PHeap) (l : Value), PHeap.le s h ∧ St w0 h (H) w' ∧ v = l ∧ SliceRep encFact h l o) r) := by
 unfold ref55_Writes_p at hm
 refine calls_of_W Tryz.func44 rfl rfl (Zc (Zd (Za rfl rfl (Exec.box (cs := [Value.string (a.Name), Vi (a.Duration), i, j, k, c, d]) hS rfl rfl rfl ?_))))
 intro u z f
 refine Za rfl rfl (Zo (v := Value.slice none 0 0) rfl rfl (Zb (Ze (Zc (Zc (Zd (Za rfl rfl (Zm (v := Value.bool (g)) rfl rfl (Zb (Ze ?_))))))))))
 rcases ite_some hm with ⟨b, hm⟩ | ⟨b, hm⟩
 ·refine W_cond_t rfl b (Zc (Zd (Za rfl rfl (Zp F63_6 rfl rfl rfl (Za rfl rfl (Zn (f) A23 rfl rfl rfl (Za rfl rfl (Zo (v := d) rfl rfl (Zb (Ze (W_ret (at_ret ?_))))))))))))
  have x := Zu hm
  subst r
  refine ⟨_, ret1 rfl, ?_⟩
  exact ⟨s, d, (Zv _), (f).drop, rfl, n⟩
 refine W_cond_f rfl b ?_
 replace b := Zk b
 refine W_skip (Ze (Zc (Zd (Za rfl rfl (Zp F63_5 rfl rfl rfl (Za rfl rfl (Zn (f) A23 rfl rfl rfl (Za rfl rfl (Zo (v := c) rfl rfl (Zb (Ze (W_ret ?_))))))))))))
 have y := Zu hm
 subst r
 refine ⟨_, ret1 rfl, ?_⟩
 exact ⟨s, c, (Zv _), (f).drop, rfl, m⟩
theorem ref55_Reads_sim {w0 w : World} {s : PHeap} {H : List Res} {a : Job} {g : Bool} {c : Value} {i : Value} {d : Value} {j : Value} {k : Value} {r : (List Fact)} (hm : ref55_Reads_p a g = some r) (hS : St w0 s (H) w) (m : SliceRep encFact s c a.Start) (p : SliceRep encFact s i a.Over) (n : SliceRep encFact s d a.End) (q : SliceRep encFact s j a.AtStart) (t : SliceRep encFact s k a.AtEnd) :
  Calls Tryz.prog 67 #[Value.agg #[Value.string (a.Name), Vi (a.Duration), c, i, d, j, k], Value.bool (g)] w fun e w' => ∃ v, e = .returned v ∧ ((fun (o : (List Fact)) => ∃ (h : PHeap) (l : Value), PHeap.le s h ∧ St w0 h (H) w' ∧ v = l ∧ SliceRep encFact h l o) r) := by
 unfold ref55_Reads_p at hm
 refine calls_of_W Tryz.func67 rfl rfl (Zc (Zd (Za rfl rfl (Exec.box (cs := [Value.string (a.Name), Vi (a.Duration), c, i, d, j, k]) hS rfl rfl rfl ?_))))
 intro u z f
 refine Za rfl rfl (Zo (v := Value.slice none 0 0) rfl rfl (Zb (Ze (Zc (Zc (Zd (Za rfl rfl (Zm (v := Value.bool (g)) rfl rfl (Zb (Ze ?_))))))))))
 rcases ite_some hm with ⟨b, hm⟩ | ⟨b, hm⟩
 ·refine W_cond_t rfl b (Zc (Zd (Za rfl rfl (Zp F63_4 rfl rfl rfl (Za rfl rfl (Zn (f) A23 rfl rfl rfl (Za rfl rfl (Zo (v := d) rfl rfl (Zb (Ze (W_ret (at_ret ?_))))))))))))
  have x := Zu hm
  subst r
  refine ⟨_, ret1 rfl, ?_⟩
  exact ⟨s, d, (Zv _), (f).drop, rfl, n⟩
 refine W_cond_f rfl b ?_
 replace b := Zk b
 refine W_skip (Ze (Zc (Zd (Za rfl rfl (Zp F63_2 rfl rfl rfl (Za rfl rfl (Zn (f) A23 rfl rfl rfl (Za rfl rfl (Zo (v := c) rfl rfl (Zb (Ze (W_ret ?_))))))))))))
 have y := Zu hm
 subst r
 refine ⟨_, ret1 rfl, ?_⟩
 exact ⟨s, c, (Zv _), (f).drop, rfl, m⟩
theorem ref55_meet_sim {w0 w : World} {s : PHeap} {H : List Res} {g : (List Fact)} {m : (List Fact)} {d : Value} {a : Value} {r : Bool} (hm : ref55_meet_p g m = some r) (hS : St w0 s (H) w) (q : SliceRep encFact s d g) (t : SliceRep encFact s a m) :
  Calls Tryz.prog 66 #[d, a] w fun e w' => ∃ v, e = .returned v ∧ ((fun (b0 : Bool) => ∃ (ar : PHeap) , PHeap.le s ar ∧ St w0 ar (H) w' ∧ v = Value.bool (b0)) r) := by
 unfold ref55_meet_p at hm
 refine calls_of_W Tryz.func66 rfl rfl (Zc (Zd (Za rfl rfl (Zo (v := Value.bool (false)) rfl rfl (Zb (Ze (Zc (Zc (Zd (Za rfl rfl (Zm (v := d) rfl rfl (Za rfl rfl (Zr S23 rfl rfl q (Za rfl rfl (Zm (v := Vi (0)) rfl rfl (Zb (Ze ?_)))))))))))))))))
 obtain ⟨ab, a1, aO, aK, aG⟩ := ctl_some hm
 refine W_mid (M := fun f' w' => ∃ s', (ab = .next s' ∨ ab = .brk s') ∧ (fun (_ : Unit) => ∃ (au : PHeap) , PHeap.le s au ∧ St w0 au (H) w' ∧ f' 1 = a ∧ f' 9 = d ∧ f' 10 = Vi ((g.length : Int))) s') ?_ ?_
 ·refine W_block (W_forC (fun k' s' f' w' => (fun (_ : Unit) => ∃ (av : PHeap) , PHeap.le s av ∧ St w0 av (H) w' ∧ f' 1 = a ∧ f' 9 = d ∧ f' 10 = Vi ((g.length : Int)) ∧ f' 11 = Vi (k' : Int)) s') a1 ?_ ?_ ?_)
  ·exact ⟨s, (Zv _), hS, rfl, rfl, rfl, rfl⟩
  ·intro u bO ac bA bW aI a3 l aQ
   obtain ⟨y, i, af, aj, ak, al, z⟩ := a3
   refine Zc (Zd (Za rfl rfl (Zq rfl z al (Zb (Ze (Zc (W_true (Zx (decide_eq_true (by omega))) (W_skip (Ze (Zc (W_block (Zc (Zd ?_)))))))))))))
   obtain ⟨b, bp, l⟩ := Zg l
   refine Za rfl rfl (Exec.index_rep S23 rfl ak z (q.mono i) bp ?_)
   intro b1 bG az
   refine Za rfl rfl (Zw (E := encFact) af A104 rfl rfl rfl az ?_)
   intro bU bq
   obtain rfl := encFact_val.1 bq
   refine Za rfl rfl (Exec.alloc (cs := [Vi (0), Vi (0)]) af Z104 rfl rfl ?_)
   intro n bX a9
   refine Za rfl rfl (Exec.store_box (ds := [Vi (b.Var), Vi (b.Val)]) (es := [Vi (b.Var), Vi (b.Val)]) a9 A104 rfl rfl rfl rfl (Zj rfl (Zj rfl one_nil)) (Nat.le_of_ble_eq_true rfl) rfl ?_)
   intro bY aA
   refine Zb (Ze (Zc (Zd (Za rfl rfl (Zm (v := a) rfl aj (Za rfl rfl (Zr S23 rfl rfl (t.mono i) (Za rfl rfl (Zm (v := Vi (0)) rfl rfl (Zb (Ze ?_)))))))))))
   obtain ⟨ad, a2, aP, aL, aH⟩ := ctl_some l
   refine W_mid (M := fun f' w' => ∃ s', (ad = .next s' ∨ ad = .brk s') ∧ (fun (_ : Unit) => ∃ (aw : PHeap) , PHeap.le y aw ∧ St w0 aw (Res.box n 104 [Vi (b.Var), Vi (b.Val)] :: H) w' ∧ f' 1 = a ∧ f' 6 = Value.pointer (some ⟨n, 0, none⟩) ∧ f' 9 = d ∧ f' 10 = Vi ((g.length : Int)) ∧ f' 11 = Vi ((u : Int)) ∧ f' 15 = a ∧ f' 16 = Vi ((m.length : Int))) s') ?_ ?_
   ·refine W_block (W_forC (fun k' s' f' w' => (fun (_ : Unit) => ∃ (ax : PHeap) , PHeap.le y ax ∧ St w0 ax (Res.box n 104 [Vi (b.Var), Vi (b.Val)] :: H) w' ∧ f' 1 = a ∧ f' 6 = Value.pointer (some ⟨n, 0, none⟩) ∧ f' 9 = d ∧ f' 10 = Vi ((g.length : Int)) ∧ f' 11 = Vi ((u : Int)) ∧ f' 15 = a ∧ f' 16 = Vi ((m.length : Int)) ∧ f' 17 = Vi (k' : Int)) s') a2 ?_ ?_ ?_)
    ·exact ⟨y, (Zv _), aA, aj, rfl, ak, al, z, rfl, rfl, rfl⟩
    ·intro aU bP ae bB bZ aJ a4 c aR
     obtain ⟨ay, x, ag, aZ, am, ba, bb, bc, an, ao, aa⟩ := a4
     refine Zc (Zd (Za rfl rfl (Zq rfl aa ao (Zb (Ze (Zc (W_true (Zx (decide_eq_true (by omega))) (W_skip (Ze (Zc (W_block (Zc (Zd ?_)))))))))))))
     obtain ⟨p, br, c⟩ := Zg c
     refine Za rfl rfl (Exec.index_rep S23 rfl an aa (t.mono (Zt i x)) br ?_)
     intro b2 bH a0
     refine Za rfl rfl (Zw (E := encFact) ag A104 rfl rfl rfl a0 ?_)
     intro bV bs
     obtain rfl := encFact_val.1 bs
     refine Za rfl rfl (Exec.alloc (cs := [Vi (0), Vi (0)]) ag Z104 rfl rfl ?_)
     intro b3 ca aB
     refine Za rfl rfl (Exec.store_box (ds := [Vi (p.Var), Vi (p.Val)]) (es := [Vi (p.Var), Vi (p.Val)]) aB A104 rfl rfl rfl rfl (Zj rfl (Zj rfl one_nil)) (Nat.le_of_ble_eq_true rfl) rfl ?_)
     intro cb o
     refine Zb (Ze (Zc (Zd (Za rfl rfl (Zp F104_0 rfl am rfl (Za rfl rfl (Zn ((o).f1) A3 rfl rfl rfl (Za rfl rfl (Zp F104_0 rfl rfl rfl (Za rfl rfl (Zn (o) A3 rfl rfl rfl (Za rfl rfl (Exec.eql rfl rfl rfl (Zb (Ze ?_)))))))))))))))
     rcases ite_some c with ⟨j, c⟩ | ⟨j, c⟩
     ·refine W_cond_t rfl j (Zc (Zd (Za rfl rfl (Zo (v := Value.bool (true)) rfl rfl (Zb (Ze (W_ret (ib_ret (at_ret (at_ret (ib_ret (at_ret (ib_ret (at_ret (at_ret (ib_ret (at_ret (at_ret ?_))))))))))))))))))
      have b4 := Zu c
      subst ae
      have aM := aP _ (aR (by intro _ h; cases h))
      have b5 := Zu aM
      subst ac
      have aN := aO _ (aQ (by intro _ h; cases h))
      have b6 := Zu aN
      subst r
      refine ⟨_, ret1 rfl, ?_⟩
      exact ⟨ay, (Zt i x), ((o).drop).drop, rfl⟩
     refine W_cond_f rfl j ?_
     replace j := Zk j
     refine W_skip (ib_normal (Ze (Zd (Za rfl rfl (Exec.add rfl aa rfl (Za rfl rfl (Zm (v := Vi (IntKind.i64.wrap ((aU : Int) + 1))) rfl rfl (Zb (Ze ?_)))))))))
     have b7 := Zu c
     subst ae
     refine ⟨_, rfl, ?_⟩; exact ⟨ay, x, (o).drop, aZ, am, ba, bb, bc, an, ao, (Eq.trans rfl (wrap_up aJ (SliceRep.le (t.mono i))))⟩
    intro bQ bC cc a5 aS
    obtain ⟨bt, aV, aC, bd, be, bf, bg, bh, bi, ap, bx⟩ := a5
    refine Zc (Zd (Za rfl rfl (Zq rfl bx ap (Zb (Ze (Zc (W_false (Zx (decide_eq_false (by omega))) (W_exit (at_exit (at_exit (ib_here (Ze ?_))))))))))))
    refine ⟨_, .inl aS, ?_⟩; exact ⟨bt, aV, aC, bd, be, bf, bg, bh, bi, ap⟩
   rintro bD cd ⟨bR, ah, a7⟩
   have l := ah.elim (aL _) (aH _)
   clear ah
   obtain ⟨bu, aW, aD, bj, bI, bk, bl, bm, bJ, bK⟩ := a7
   refine (ib_normal (Ze (Zd (Za rfl rfl (Exec.add rfl bm rfl (Za rfl rfl (Zm (v := Vi (IntKind.i64.wrap ((u : Int) + 1))) rfl rfl (Zb (Ze ?_)))))))))
   have b8 := Zu l
   subst ac
   refine ⟨_, rfl, ?_⟩; exact ⟨bu, (Zt i aW), (aD).drop, bj, bk, bl, (Eq.trans rfl (wrap_up aI (SliceRep.le q)))⟩
  intro bS bE ce a6 aT
  obtain ⟨bv, aX, aE, bn, bo, aq, bz⟩ := a6
  refine Zc (Zd (Za rfl rfl (Zq rfl bz aq (Zb (Ze (Zc (W_false (Zx (decide_eq_false (by omega))) (W_exit (at_exit (at_exit (ib_here (Ze ?_))))))))))))
  refine ⟨_, .inl aT, ?_⟩; exact ⟨bv, aX, aE, bn, bo, aq⟩
 rintro bF cf ⟨bT, ai, a8⟩
 have hm := ai.elim (aK _) (aG _)
 clear ai
 obtain ⟨bw, aY, aF, bL, bM, bN⟩ := a8
 refine (Ze (Zc (Zd (Za rfl rfl (Zo (v := Value.bool (false)) rfl rfl (Zb (Ze (W_ret ?_))))))))
 have b9 := Zu hm
 subst r
 refine ⟨_, ret1 rfl, ?_⟩
 exact ⟨bw, aY, aF, rfl⟩
theorem ref55_Interfere_sim {w0 w : World} {s : PHeap} {H : List Res} {g : Job} {b : Job} {y : Bool} {n : Bool} {aa : Value} {ab : Value} {ac : Value} {ad : Value} {ae : Value} {o : Value} {p : Value} {t : Value} {u : Value} {x : Value} {r : Bool} (hm : ref55_Interfere_p g b y n = some r) (hS : St w0 s (H) w) (ai : SliceRep encFact s aa g.Start) (aj : SliceRep encFact s ab g.Over) (ak : SliceRep encFact s ac g.End) (al : SliceRep encFact s ad g.AtStart) (am : SliceRep encFact s ae g.AtEnd) (an : SliceRep encFact s o b.Start) (ao : SliceRep encFact s p b.Over) (ap : SliceRep encFact s t b.End) (aq : SliceRep encFact s u b.AtStart) (ar : SliceRep encFact s x b.AtEnd) :
  Calls Tryz.prog 41 #[Value.agg #[Value.string (g.Name), Vi (g.Duration), aa, ab, ac, ad, ae], Value.agg #[Value.string (b.Name), Vi (b.Duration), o, p, t, u, x], Value.bool (y), Value.bool (n)] w fun e w' => ∃ v, e = .returned v ∧ ((fun (aP : Bool) => ∃ (az : PHeap) , PHeap.le s az ∧ St w0 az (H) w' ∧ v = Value.bool (aP)) r) := by
 unfold ref55_Interfere_p at hm
 refine calls_of_W Tryz.func41 rfl rfl (Zc (Zd (Za rfl rfl (Exec.box (cs := [Value.string (g.Name), Vi (g.Duration), aa, ab, ac, ad, ae]) hS rfl rfl rfl ?_))))
 intro aR bk a3
 refine Za rfl rfl (Exec.box (cs := [Value.string (b.Name), Vi (b.Duration), o, p, t, u, x]) a3 rfl rfl rfl ?_)
 intro aS bl au
 refine Za rfl rfl (Zo (v := Value.bool (false)) rfl rfl (Zb (Ze (Zc ?_))))
 obtain ⟨af, i, hm⟩ := Zg hm
 refine W_mid (M := fun f' w' => (fun (af : Bool) => ∃ (a0 : PHeap) , PHeap.le s a0 ∧ St w0 a0 (H) w' ∧ f' 8 = Value.bool (af)) af) ?_ ?_
 ·refine W_dl (n0 := 25) (.q 0 (.q 1 (.q 3 (.q 4 (.e 2 [3, 4] (.e 5 [] (.e 6 [] (qs 7 3 (.q 11 (.q 12 (.e 10 [11, 12] (.e 13 [] (.e 14 [] (qs 15 4 (.q 20 (.q 21 (.e 19 [20, 21] (.e 22 [] (.e 23 [] (.q 24 .done)))))))))))))))))))) hmix (by kernel_rfl) (by kernel_rfl) (DL_q rfl rfl (Exec.load_box_agg (ds := [Value.string (g.Name), Vi (g.Duration), aa, ab, ac, ad, ae]) ((au.drew).f1) A63 rfl rfl rfl ⟨rfl, ?_⟩))
  refine DL_q rfl rfl (Zm (v := Value.bool (y)) rfl rfl ⟨rfl, ?_⟩)
  refine DL_q rfl rfl (Exec.load_box_agg (ds := [Value.string (b.Name), Vi (b.Duration), o, p, t, u, x]) (au.drew) A63 rfl rfl rfl ⟨rfl, ?_⟩)
  refine DL_q rfl rfl (Zm (v := Value.bool (n)) rfl rfl ⟨rfl, ?_⟩)
  refine DL_e rfl rfl (Tc rfl rfl rfl (Zi rfl (Zi rfl args_nil)) (ref55_Writes_sim (ref55_Writes_tot g y) au.drew ai aj ak al am).r ?_)
  rintro be bm ⟨aY, _, a, av, rfl, aF⟩
  refine ⟨(ag_cons (ag_r rfl rfl (Exec.load_box_agg (ds := [Value.string (b.Name), Vi (b.Duration), o, p, t, u, x]) (av) A63 rfl rfl rfl ⟨rfl, rfl⟩)) (ag_cons (ag_r rfl rfl (Zm (v := Value.bool (n)) rfl rfl ⟨rfl, rfl⟩)) ag_nil)), ?_⟩
  refine DL_e rfl rfl (Tc rfl rfl rfl (Zi rfl (Zi rfl args_nil)) (ref55_Reads_sim (ref55_Reads_tot b n) av (an.mono a) (ao.mono a) (ap.mono a) (aq.mono a) (ar.mono a)).r ?_)
  rintro bf bn ⟨aZ, _, c, a4, rfl, aG⟩
  refine ⟨ag_nil, ?_⟩
  obtain ⟨aQ, aC, i⟩ := Zg i
  refine DL_e rfl rfl (Tc rfl rfl rfl (Zi rfl (Zi rfl args_nil)) (ref55_meet_sim aC a4 (aF.mono c) aG).r ?_)
  rintro _ bo ⟨aL, d, ag, rfl⟩
  refine ⟨ag_nil, ?_⟩
  refine DL_q rfl rfl (Zm (v := Value.bool (aQ)) rfl rfl ⟨rfl, ?_⟩)
  rcases ite_some i with ⟨j, i⟩ | ⟨j, i⟩
  ·refine DL_passes 17 (by rw [j]; rfl) ?_
   refine DL_done (Za rfl rfl (Zo (v := Value.bool (true)) rfl rfl (Zb (Ze ?_))))
   have aT := Zu i
   subst af
   exact ⟨aL, (Zt (Zt a c) d), ((ag).drop).drop, rfl⟩
  replace j := Zk j
  refine DL_qg rfl rfl (Zf rfl (Zx j)) (Exec.load_box_agg (ds := [Value.string (g.Name), Vi (g.Duration), aa, ab, ac, ad, ae]) ((ag).f1) A63 rfl rfl rfl ⟨rfl, ?_⟩)
  refine DL_qg rfl rfl (Zf rfl (Zx j)) (Zm (v := Value.bool (y)) rfl rfl ⟨rfl, ?_⟩)
  refine DL_qg rfl rfl (Zf rfl (Zx j)) (Exec.load_box_agg (ds := [Value.string (b.Name), Vi (b.Duration), o, p, t, u, x]) (ag) A63 rfl rfl rfl ⟨rfl, ?_⟩)
  refine DL_qg rfl rfl (Zf rfl (Zx j)) (Zm (v := Value.bool (n)) rfl rfl ⟨rfl, ?_⟩)
  refine DL_eg rfl rfl (Zf rfl (Zx j)) (Tc rfl rfl rfl (Zi rfl (Zi rfl args_nil)) (ref55_Writes_sim (ref55_Writes_tot g y) ag (ai.mono (Zt (Zt a c) d)) (aj.mono (Zt (Zt a c) d)) (ak.mono (Zt (Zt a c) d)) (al.mono (Zt (Zt a c) d)) (am.mono (Zt (Zt a c) d))).r ?_)
  rintro bg bp ⟨ba, _, h, aw, rfl, aH⟩
  refine ⟨(ag_cons (ag_g rfl rfl (Zf rfl (Zx j)) (Exec.load_box_agg (ds := [Value.string (b.Name), Vi (b.Duration), o, p, t, u, x]) (aw) A63 rfl rfl rfl ⟨rfl, rfl⟩)) (ag_cons (ag_g rfl rfl (Zf rfl (Zx j)) (Zm (v := Value.bool (n)) rfl rfl ⟨rfl, rfl⟩)) ag_nil)), ?_⟩
  refine DL_eg rfl rfl (Zf rfl (Zx j)) (Tc rfl rfl rfl (Zi rfl (Zi rfl args_nil)) (ref55_Writes_sim (ref55_Writes_tot b n) aw (an.mono (Zt (Zt (Zt a c) d) h)) (ao.mono (Zt (Zt (Zt a c) d) h)) (ap.mono (Zt (Zt (Zt a c) d) h)) (aq.mono (Zt (Zt (Zt a c) d) h)) (ar.mono (Zt (Zt (Zt a c) d) h))).r ?_)
  rintro bh bq ⟨bb, _, l, a5, rfl, aI⟩
  refine ⟨ag_nil, ?_⟩
  obtain ⟨bw, aD, i⟩ := Zg i
  refine DL_eg rfl rfl (Zf rfl (Zx j)) (Tc rfl rfl rfl (Zi rfl (Zi rfl args_nil)) (ref55_meet_sim aD a5 (aH.mono l) aI).r ?_)
  rintro _ br ⟨aM, m, ah, rfl⟩
  refine ⟨ag_nil, ?_⟩
  refine DL_passes 2 (by rw [j]; rfl) ?_
  rcases ite_some i with ⟨k, i⟩ | ⟨k, i⟩
  ·refine DL_passes 8 (by rw [k]; rfl) ?_
   refine DL_done (Za rfl rfl (Zo (v := Value.bool (true)) rfl rfl (Zb (Ze ?_))))
   have aU := Zu i
   subst af
   exact ⟨aM, (Zt (Zt (Zt (Zt (Zt a c) d) h) l) m), ((ah).drop).drop, rfl⟩
  replace k := Zk k
  refine DL_qg rfl rfl (Zf rfl (Zx k)) (Exec.load_box_agg (ds := [Value.string (g.Name), Vi (g.Duration), aa, ab, ac, ad, ae]) ((ah).f1) A63 rfl rfl rfl ⟨rfl, ?_⟩)
  refine DL_qg rfl rfl (Zf rfl (Zx k)) (Zm (v := Value.bool (y)) rfl rfl ⟨rfl, ?_⟩)
  refine DL_qg rfl rfl (Zf rfl (Zx k)) (Exec.load_box_agg (ds := [Value.string (b.Name), Vi (b.Duration), o, p, t, u, x]) (ah) A63 rfl rfl rfl ⟨rfl, ?_⟩)
  refine DL_qg rfl rfl (Zf rfl (Zx k)) (Zm (v := Value.bool (n)) rfl rfl ⟨rfl, ?_⟩)
  refine DL_eg rfl rfl (Zf rfl (Zx k)) (Tc rfl rfl rfl (Zi rfl (Zi rfl args_nil)) (ref55_Reads_sim (ref55_Reads_tot g y) ah (ai.mono (Zt (Zt (Zt (Zt (Zt a c) d) h) l) m)) (aj.mono (Zt (Zt (Zt (Zt (Zt a c) d) h) l) m)) (ak.mono (Zt (Zt (Zt (Zt (Zt a c) d) h) l) m)) (al.mono (Zt (Zt (Zt (Zt (Zt a c) d) h) l) m)) (am.mono (Zt (Zt (Zt (Zt (Zt a c) d) h) l) m))).r ?_)
  rintro bi bs ⟨bc, _, z, ax, rfl, aJ⟩
  refine ⟨(ag_cons (ag_g rfl rfl (Zf rfl (Zx k)) (Exec.load_box_agg (ds := [Value.string (b.Name), Vi (b.Duration), o, p, t, u, x]) (ax) A63 rfl rfl rfl ⟨rfl, rfl⟩)) (ag_cons (ag_g rfl rfl (Zf rfl (Zx k)) (Zm (v := Value.bool (n)) rfl rfl ⟨rfl, rfl⟩)) ag_nil)), ?_⟩
  refine DL_eg rfl rfl (Zf rfl (Zx k)) (Tc rfl rfl rfl (Zi rfl (Zi rfl args_nil)) (ref55_Writes_sim (ref55_Writes_tot b n) ax (an.mono (Zt (Zt (Zt (Zt (Zt (Zt a c) d) h) l) m) z)) (ao.mono (Zt (Zt (Zt (Zt (Zt (Zt a c) d) h) l) m) z)) (ap.mono (Zt (Zt (Zt (Zt (Zt (Zt a c) d) h) l) m) z)) (aq.mono (Zt (Zt (Zt (Zt (Zt (Zt a c) d) h) l) m) z)) (ar.mono (Zt (Zt (Zt (Zt (Zt (Zt a c) d) h) l) m) z))).r ?_)
  rintro bj bt ⟨bd, _, ay, a6, rfl, aK⟩
  refine ⟨ag_nil, ?_⟩
  obtain ⟨a1, aE, i⟩ := Zg i
  refine DL_eg rfl rfl (Zf rfl (Zx k)) (Tc rfl rfl rfl (Zi rfl (Zi rfl args_nil)) (ref55_meet_sim aE a6 (aJ.mono ay) aK).r ?_)
  rintro _ bu ⟨aN, a9, a7, rfl⟩
  refine ⟨ag_nil, ?_⟩
  refine DL_q rfl rfl (Exec.pick_f (v := Value.bool (a1)) rfl (Zx k) rfl ⟨rfl, ?_⟩)
  refine DL_done (Za rfl rfl (Zo (v := Value.bool (a1)) rfl rfl (Zb (Ze ?_))))
  have aV := Zu i
  subst af
  exact ⟨aN, (Zt (Zt (Zt (Zt (Zt (Zt (Zt (Zt a c) d) h) l) m) z) ay) a9), ((a7).drop).drop, rfl⟩
 intro aX bv a2
 obtain ⟨aO, aA, a8, aB⟩ := a2
 refine (Ze (W_ret ?_))
 have aW := Zu hm
 subst r
 refine ⟨_, ret1 rfl, ?_⟩
 exact ⟨aO, aA, a8, aB⟩
theorem ref55_End_sim {w0 w : World} {s : PHeap} {H : List Res} {c : Temporal} {a : Launch} {d : Value} {f : Value} {g : Value} {h : Value} {r : Int} (hm : ref55_End_p c a = some r) (hS : St w0 s (H) w) (q : SliceRep (encInt .i64) s d c.Vars) (t : SliceRep (encInt .i64) s f c.Init) (u : SliceRep encFact s g c.Goal) (j : SliceRep encJob s h c.Jobs) :
  Calls Tryz.prog 21 #[Value.agg #[d, f, g, h], Value.agg #[Vi (a.At), Vi (a.Job)]] w fun e w' => ∃ v, e = .returned v ∧ ((fun (p : Int) => ∃ (i : PHeap) , PHeap.le s i ∧ St w0 i (H) w' ∧ v = Vi (p)) r) := by
 unfold ref55_End_p at hm
 refine calls_of_W Tryz.func21 rfl rfl (Zc (Zd (Za rfl rfl (Exec.box (cs := [d, f, g, h]) hS rfl rfl rfl ?_))))
 intro x ae l
 refine Za rfl rfl (Exec.box (cs := [Vi (a.At), Vi (a.Job)]) l rfl rfl rfl ?_)
 intro y af b
 refine Za rfl rfl (Zo (v := Vi (0)) rfl rfl (Zb (Ze (Zc (W_dl (n0 := 10) (qs 0 10 .done) hmix (by kernel_rfl) (by kernel_rfl) (DL_q rfl rfl (Zp F56_0 rfl rfl rfl ⟨rfl, ?_⟩)))))))
 refine DL_q rfl rfl (Zn (b.drew) A3 rfl rfl rfl ⟨rfl, ?_⟩)
 refine DL_q rfl rfl (Zp F26_3 rfl rfl rfl ⟨rfl, ?_⟩)
 refine DL_q rfl rfl (Zn ((b.drew).f1) A24 rfl rfl rfl ⟨rfl, ?_⟩)
 refine DL_q rfl rfl (Zp F56_1 rfl rfl rfl ⟨rfl, ?_⟩)
 refine DL_q rfl rfl (Zn (b.drew) A3 rfl rfl rfl ⟨rfl, ?_⟩)
 obtain ⟨o, m, hm⟩ := Zg hm
 refine DL_q rfl rfl (Exec.index_repE S24 rfl rfl rfl j m ?_)
 intro z ac k aa
 refine ⟨rfl, ?_⟩
 refine DL_q rfl rfl (Zp F63_1 rfl rfl rfl ⟨rfl, ?_⟩)
 refine DL_q rfl rfl (Zw (E := (encInt .i64)) b.drew A3 rfl rfl rfl (k.sub (Sub.iso (Sub.snd (Sub.fst (Sub.refl _)) rfl)) rfl) ?_)
 intro ad n
 obtain rfl := encInt_val.1 n
 refine ⟨rfl, ?_⟩
 refine DL_q rfl rfl (Exec.add rfl rfl rfl ⟨rfl, ?_⟩)
 refine DL_done (Za rfl rfl (Zo (v := Vi (IntKind.i64.wrap (a.At + o.Duration))) rfl rfl (Zb (Ze (W_ret ?_)))))
 have ab := Zu hm
 subst r
 refine ⟨_, ret1 rfl, ?_⟩
 exact ⟨s, (Zv _), ((b.drew).drop).drop, rfl⟩
theorem ref57_at_sim {w0 w : World} {s : PHeap} {H : List Res} {d : Temporal} {a : Launch} {j : Bool} {f : Value} {g : Value} {h : Value} {i : Value} {r : Int} (hm : ref57_at_p d a j = some r) (hS : St w0 s (H) w) (l : SliceRep (encInt .i64) s f d.Vars) (m : SliceRep (encInt .i64) s g d.Init) (n : SliceRep encFact s h d.Goal) (o : SliceRep encJob s i d.Jobs) :
  Calls Tryz.prog 42 #[Value.agg #[f, g, h, i], Value.agg #[Vi (a.At), Vi (a.Job)], Value.bool (j)] w fun e w' => ∃ v, e = .returned v ∧ ((fun (y : Int) => ∃ (k : PHeap) , PHeap.le s k ∧ St w0 k (H) w' ∧ v = Vi (y)) r) := by
 unfold ref57_at_p at hm
 refine calls_of_W Tryz.func42 rfl rfl (Zc (Zd (Za rfl rfl (Exec.box (cs := [f, g, h, i]) hS rfl rfl rfl ?_))))
 intro aa ae p
 refine Za rfl rfl (Exec.box (cs := [Vi (a.At), Vi (a.Job)]) p rfl rfl rfl ?_)
 intro ab af b
 refine Za rfl rfl (Zo (v := Vi (0)) rfl rfl (Zb (Ze (Zc (Zc (Zd (Za rfl rfl (Zm (v := Value.bool (j)) rfl rfl (Zb (Ze ?_))))))))))
 rcases ite_some hm with ⟨c, hm⟩ | ⟨c, hm⟩
 ·refine W_cond_t rfl c (Zc (Zd (Za rfl rfl (Exec.load_box_agg (ds := [f, g, h, i]) ((b).f1) A26 rfl rfl rfl (Za rfl rfl (Exec.load_box_agg (ds := [Vi (a.At), Vi (a.Job)]) (b) A56 rfl rfl rfl ?_))))))
  obtain ⟨z, u, hm⟩ := Zg hm
  refine Za rfl rfl (Tc rfl rfl rfl (Zi rfl (Zi rfl args_nil)) (ref55_End_sim u b l m n o).r ?_)
  rintro _ ag ⟨x, t, q, rfl⟩
  refine Za rfl rfl (Zo (v := Vi (z)) rfl rfl (Zb (Ze (W_ret (at_ret ?_)))))
  have ac := Zu hm
  subst r
  refine ⟨_, ret1 rfl, ?_⟩
  exact ⟨x, t, ((q).drop).drop, rfl⟩
 refine W_cond_f rfl c ?_
 replace c := Zk c
 refine W_skip (Ze (Zc (Zd (Za rfl rfl (Zp F56_0 rfl rfl rfl (Za rfl rfl (Zn (b) A3 rfl rfl rfl (Za rfl rfl (Zo (v := Vi (a.At)) rfl rfl (Zb (Ze (W_ret ?_))))))))))))
 have ad := Zu hm
 subst r
 refine ⟨_, ret1 rfl, ?_⟩
 exact ⟨s, (Zv _), ((b).drop).drop, rfl⟩
theorem ref57_common_sim {w0 w : World} {s : PHeap} {H : List Res} {g : (List Fact)} {m : (List Fact)} {d : Value} {a : Value} {r : Bool} (hm : ref57_common_p g m = some r) (hS : St w0 s (H) w) (q : SliceRep encFact s d g) (t : SliceRep encFact s a m) :
  Calls Tryz.prog 43 #[d, a] w fun e w' => ∃ v, e = .returned v ∧ ((fun (b0 : Bool) => ∃ (ar : PHeap) , PHeap.le s ar ∧ St w0 ar (H) w' ∧ v = Value.bool (b0)) r) := by
 unfold ref57_common_p at hm
 refine calls_of_W Tryz.func43 rfl rfl (Zc (Zd (Za rfl rfl (Zo (v := Value.bool (false)) rfl rfl (Zb (Ze (Zc (Zc (Zd (Za rfl rfl (Zm (v := d) rfl rfl (Za rfl rfl (Zr S23 rfl rfl q (Za rfl rfl (Zm (v := Vi (0)) rfl rfl (Zb (Ze ?_)))))))))))))))))
 obtain ⟨ab, a1, aO, aK, aG⟩ := ctl_some hm
 refine W_mid (M := fun f' w' => ∃ s', (ab = .next s' ∨ ab = .brk s') ∧ (fun (_ : Unit) => ∃ (au : PHeap) , PHeap.le s au ∧ St w0 au (H) w' ∧ f' 1 = a ∧ f' 9 = d ∧ f' 10 = Vi ((g.length : Int))) s') ?_ ?_
 ·refine W_block (W_forC (fun k' s' f' w' => (fun (_ : Unit) => ∃ (av : PHeap) , PHeap.le s av ∧ St w0 av (H) w' ∧ f' 1 = a ∧ f' 9 = d ∧ f' 10 = Vi ((g.length : Int)) ∧ f' 11 = Vi (k' : Int)) s') a1 ?_ ?_ ?_)
  ·exact ⟨s, (Zv _), hS, rfl, rfl, rfl, rfl⟩
  ·intro u bO ac bA bW aI a3 l aQ
   obtain ⟨y, i, af, aj, ak, al, z⟩ := a3
   refine Zc (Zd (Za rfl rfl (Zq rfl z al (Zb (Ze (Zc (W_true (Zx (decide_eq_true (by omega))) (W_skip (Ze (Zc (W_block (Zc (Zd ?_)))))))))))))
   obtain ⟨b, bp, l⟩ := Zg l
   refine Za rfl rfl (Exec.index_rep S23 rfl ak z (q.mono i) bp ?_)
   intro b1 bG az
   refine Za rfl rfl (Zw (E := encFact) af A104 rfl rfl rfl az ?_)
   intro bU bq
   obtain rfl := encFact_val.1 bq
   refine Za rfl rfl (Exec.alloc (cs := [Vi (0), Vi (0)]) af Z104 rfl rfl ?_)
   intro n bX a9
   refine Za rfl rfl (Exec.store_box (ds := [Vi (b.Var), Vi (b.Val)]) (es := [Vi (b.Var), Vi (b.Val)]) a9 A104 rfl rfl rfl rfl (Zj rfl (Zj rfl one_nil)) (Nat.le_of_ble_eq_true rfl) rfl ?_)
   intro bY aA
   refine Zb (Ze (Zc (Zd (Za rfl rfl (Zm (v := a) rfl aj (Za rfl rfl (Zr S23 rfl rfl (t.mono i) (Za rfl rfl (Zm (v := Vi (0)) rfl rfl (Zb (Ze ?_)))))))))))
   obtain ⟨ad, a2, aP, aL, aH⟩ := ctl_some l
   refine W_mid (M := fun f' w' => ∃ s', (ad = .next s' ∨ ad = .brk s') ∧ (fun (_ : Unit) => ∃ (aw : PHeap) , PHeap.le y aw ∧ St w0 aw (Res.box n 104 [Vi (b.Var), Vi (b.Val)] :: H) w' ∧ f' 1 = a ∧ f' 6 = Value.pointer (some ⟨n, 0, none⟩) ∧ f' 9 = d ∧ f' 10 = Vi ((g.length : Int)) ∧ f' 11 = Vi ((u : Int)) ∧ f' 15 = a ∧ f' 16 = Vi ((m.length : Int))) s') ?_ ?_
   ·refine W_block (W_forC (fun k' s' f' w' => (fun (_ : Unit) => ∃ (ax : PHeap) , PHeap.le y ax ∧ St w0 ax (Res.box n 104 [Vi (b.Var), Vi (b.Val)] :: H) w' ∧ f' 1 = a ∧ f' 6 = Value.pointer (some ⟨n, 0, none⟩) ∧ f' 9 = d ∧ f' 10 = Vi ((g.length : Int)) ∧ f' 11 = Vi ((u : Int)) ∧ f' 15 = a ∧ f' 16 = Vi ((m.length : Int)) ∧ f' 17 = Vi (k' : Int)) s') a2 ?_ ?_ ?_)
    ·exact ⟨y, (Zv _), aA, aj, rfl, ak, al, z, rfl, rfl, rfl⟩
    ·intro aU bP ae bB bZ aJ a4 c aR
     obtain ⟨ay, x, ag, aZ, am, ba, bb, bc, an, ao, aa⟩ := a4
     refine Zc (Zd (Za rfl rfl (Zq rfl aa ao (Zb (Ze (Zc (W_true (Zx (decide_eq_true (by omega))) (W_skip (Ze (Zc (W_block (Zc (Zd ?_)))))))))))))
     obtain ⟨p, br, c⟩ := Zg c
     refine Za rfl rfl (Exec.index_rep S23 rfl an aa (t.mono (Zt i x)) br ?_)
     intro b2 bH a0
     refine Za rfl rfl (Zw (E := encFact) ag A104 rfl rfl rfl a0 ?_)
     intro bV bs
     obtain rfl := encFact_val.1 bs
     refine Za rfl rfl (Exec.alloc (cs := [Vi (0), Vi (0)]) ag Z104 rfl rfl ?_)
     intro b3 ca aB
     refine Za rfl rfl (Exec.store_box (ds := [Vi (p.Var), Vi (p.Val)]) (es := [Vi (p.Var), Vi (p.Val)]) aB A104 rfl rfl rfl rfl (Zj rfl (Zj rfl one_nil)) (Nat.le_of_ble_eq_true rfl) rfl ?_)
     intro cb o
     refine Zb (Ze (Zc (Zd (Za rfl rfl (Zp F104_0 rfl am rfl (Za rfl rfl (Zn ((o).f1) A3 rfl rfl rfl (Za rfl rfl (Zp F104_0 rfl rfl rfl (Za rfl rfl (Zn (o) A3 rfl rfl rfl (Za rfl rfl (Exec.eql rfl rfl rfl (Zb (Ze ?_)))))))))))))))
     rcases ite_some c with ⟨j, c⟩ | ⟨j, c⟩
     ·refine W_cond_t rfl j (Zc (Zd (Za rfl rfl (Zo (v := Value.bool (true)) rfl rfl (Zb (Ze (W_ret (ib_ret (at_ret (at_ret (ib_ret (at_ret (ib_ret (at_ret (at_ret (ib_ret (at_ret (at_ret ?_))))))))))))))))))
      have b4 := Zu c
      subst ae
      have aM := aP _ (aR (by intro _ h; cases h))
      have b5 := Zu aM
      subst ac
      have aN := aO _ (aQ (by intro _ h; cases h))
      have b6 := Zu aN
      subst r
      refine ⟨_, ret1 rfl, ?_⟩
      exact ⟨ay, (Zt i x), ((o).drop).drop, rfl⟩
     refine W_cond_f rfl j ?_
     replace j := Zk j
     refine W_skip (ib_normal (Ze (Zd (Za rfl rfl (Exec.add rfl aa rfl (Za rfl rfl (Zm (v := Vi (IntKind.i64.wrap ((aU : Int) + 1))) rfl rfl (Zb (Ze ?_)))))))))
     have b7 := Zu c
     subst ae
     refine ⟨_, rfl, ?_⟩; exact ⟨ay, x, (o).drop, aZ, am, ba, bb, bc, an, ao, (Eq.trans rfl (wrap_up aJ (SliceRep.le (t.mono i))))⟩
    intro bQ bC cc a5 aS
    obtain ⟨bt, aV, aC, bd, be, bf, bg, bh, bi, ap, bx⟩ := a5
    refine Zc (Zd (Za rfl rfl (Zq rfl bx ap (Zb (Ze (Zc (W_false (Zx (decide_eq_false (by omega))) (W_exit (at_exit (at_exit (ib_here (Ze ?_))))))))))))
    refine ⟨_, .inl aS, ?_⟩; exact ⟨bt, aV, aC, bd, be, bf, bg, bh, bi, ap⟩
   rintro bD cd ⟨bR, ah, a7⟩
   have l := ah.elim (aL _) (aH _)
   clear ah
   obtain ⟨bu, aW, aD, bj, bI, bk, bl, bm, bJ, bK⟩ := a7
   refine (ib_normal (Ze (Zd (Za rfl rfl (Exec.add rfl bm rfl (Za rfl rfl (Zm (v := Vi (IntKind.i64.wrap ((u : Int) + 1))) rfl rfl (Zb (Ze ?_)))))))))
   have b8 := Zu l
   subst ac
   refine ⟨_, rfl, ?_⟩; exact ⟨bu, (Zt i aW), (aD).drop, bj, bk, bl, (Eq.trans rfl (wrap_up aI (SliceRep.le q)))⟩
  intro bS bE ce a6 aT
  obtain ⟨bv, aX, aE, bn, bo, aq, bz⟩ := a6
  refine Zc (Zd (Za rfl rfl (Zq rfl bz aq (Zb (Ze (Zc (W_false (Zx (decide_eq_false (by omega))) (W_exit (at_exit (at_exit (ib_here (Ze ?_))))))))))))
  refine ⟨_, .inl aT, ?_⟩; exact ⟨bv, aX, aE, bn, bo, aq⟩
 rintro bF cf ⟨bT, ai, a8⟩
 have hm := ai.elim (aK _) (aG _)
 clear ai
 obtain ⟨bw, aY, aF, bL, bM, bN⟩ := a8
 refine (Ze (Zc (Zd (Za rfl rfl (Zo (v := Value.bool (false)) rfl rfl (Zb (Ze (W_ret ?_))))))))
 have b9 := Zu hm
 subst r
 refine ⟨_, ret1 rfl, ?_⟩
 exact ⟨bw, aY, aF, rfl⟩
theorem ref57_Network_sim {w0 w : World} {s : PHeap} {H : List Res} {b0 : Temporal} {dy : (List Launch)} {aa : Value} {ab : Value} {ac : Value} {ad : Value} {cS : Value} {r : (List Bound) × Int} (hm : ref57_Network_p b0 dy = some r) (hS : St w0 s (H) w) (bc : SliceRep (encInt .i64) s aa b0.Vars) (bd : SliceRep (encInt .i64) s ab b0.Init) (be : SliceRep encFact s ac b0.Goal) (a2 : SliceRep encJob s ad b0.Jobs) (e5 : SliceRep encLaunch s cS dy) :
  Calls Tryz.prog 17 #[Value.agg #[aa, ab, ac, ad], cS] w fun e w' => ∃ v, e = .returned v ∧ ((un2 fun (kx : (List Bound)) (ky : Int) => ∃ (dU : PHeap) (ey : Value), PHeap.le s dU ∧ St w0 dU (Res.arr encBound 49 ey kx :: H) w' ∧ v = Value.tuple #[ey, Vi (ky)]) r) := by
 unfold ref57_Network_p at hm
 refine calls_of_W Tryz.func17 rfl rfl (Zc (Zd (Za rfl rfl (Exec.box (cs := [aa, ab, ac, ad]) hS rfl rfl rfl ?_))))
 intro y ng fk
 refine Za rfl rfl (Zo (v := Value.slice none 0 0) rfl rfl (Za rfl rfl (Zo (v := Vi (0)) rfl rfl (Zb (Ze (Zc (Zd (Za rfl rfl (Zm (v := cS) rfl rfl ?_)))))))))
 obtain ⟨n, iU, hm⟩ := Zg hm
 refine Za rfl rfl (Tc rfl rfl rfl (Zi rfl args_nil) (ref56_Sorted_sim iU fk e5).r ?_)
 rintro d nh ⟨dV, _, u, cp, rfl⟩
 refine Za rfl rfl (Zo (v := d) rfl rfl (Zb (Ze (Zc (Zd (Za rfl rfl (Zo (v := Value.slice none 0 0) rfl rfl (Zb (Ze (Zc (Zc (Zd (Za rfl rfl (Zm (v := d) rfl rfl (Za rfl rfl (Exec.len_arr (cp) S27 rfl rfl (Za rfl rfl (Zm (v := Vi (0)) rfl rfl (Zb (Ze ?_))))))))))))))))))))
 obtain ⟨cA, eF, hm⟩ := Zg hm
 refine W_block (W_forS (fun k' s' f' w' => (fun (cA : (List Bound)) => ∃ (dW : PHeap) (aX : Value), PHeap.le dV dW ∧ St w0 dW (Res.box y 26 [aa, ab, ac, ad] :: Res.arr encLaunch 56 d n :: Res.arr encBound 49 aX cA :: H) w' ∧ f' 2 = Value.pointer (some ⟨y, 0, none⟩) ∧ f' 6 = d ∧ f' 7 = aX ∧ f' 29 = d ∧ f' 30 = Vi ((n.length : Int)) ∧ f' 31 = Vi (k' : Int)) s') eF ?_ ?_ ?_)
 ·have fl := cp.nilArr encBound 49
  exact ⟨dV, (Value.slice none 0 0), (Zv _), ((fl).f1).f2, rfl, rfl, rfl, rfl, rfl, rfl⟩
 ·intro a cA jL lo ni gw eO aO
  obtain ⟨mq, aX, dt, cq, dz, ha, hb, d0, d1, ch⟩ := eO
  refine Zc (Zd (Za rfl rfl (Zq rfl ch d1 (Zb (Ze (Zc (W_true (Zx (decide_eq_true (by omega))) (W_skip (Ze (Zc (W_block (Zc (Zd (Za rfl rfl (Zm (v := Vi ((a : Int))) rfl ch ?_)))))))))))))))
  obtain ⟨ci, bU, aO⟩ := Zg aO
  obtain ⟨lB, kF, cX⟩ := ((cq).f1).arr_at bU
  refine Za rfl rfl (Exec.index_slice S27 rfl (Eq.trans d0 cX) ch (idx_some bU).1 (idx_some bU).2.1 (Za rfl rfl (Exec.load_arr (F := encLaunch) ((cq).f1) cX A56 rfl rfl rfl bU (Sub.refl _) ?_)))
  intro mP iV
  obtain rfl := encLaunch_val.1 iV
  refine Za rfl rfl (Exec.alloc (cs := [Vi (0), Vi (0)]) cq Z56 rfl rfl ?_)
  intro k0 nj fm
  refine Za rfl rfl (Zo (v := Vi ((a : Int))) rfl rfl (Za rfl rfl (Exec.store_box (ds := [Vi (ci.At), Vi (ci.Job)]) (es := [Vi (ci.At), Vi (ci.Job)]) fm A56 rfl rfl rfl rfl (Zj rfl (Zj rfl one_nil)) (Nat.le_of_ble_eq_true rfl) rfl ?_)))
  intro nk b7
  refine Zb (Ze (Zc (Zd (Za rfl rfl (Zp F26_3 rfl dz rfl (Za rfl rfl (Zn ((b7).f1) A24 rfl rfl rfl (Za rfl rfl (Zp F56_1 rfl rfl rfl (Za rfl rfl (Zn (b7) A3 rfl rfl rfl ?_)))))))))))
  obtain ⟨o, iW, aO⟩ := Zg aO
  refine Za rfl rfl (Exec.index_rep S24 rfl rfl rfl (a2.mono (Zt u dt)) iW ?_)
  intro k1 lR e6
  refine Za rfl rfl (Zp F63_1 rfl rfl rfl (Za rfl rfl (Zw (E := (encInt .i64)) b7 A3 rfl rfl rfl (e6.sub (Sub.iso (Sub.snd (Sub.fst (Sub.refl _)) rfl)) rfl) ?_)))
  intro mQ iX
  obtain rfl := encInt_val.1 iX
  refine Za rfl rfl (Zo (v := Vi (o.Duration)) rfl rfl (Zb (Ze (Zd (Za rfl rfl (Zm (v := aX) rfl hb (Za rfl rfl (Zm (v := Vi ((a : Int))) rfl rfl (Za rfl rfl (Tc rfl rfl rfl (Zi rfl (Zi rfl args_nil)) (ref57_point_sim (ref57_point_tot (a : Int) false) b7 ).r ?_))))))))))
  rintro _ nl ⟨mr, g4, fn, rfl⟩
  refine Za rfl rfl (Tc rfl rfl rfl (Zi rfl (Zi rfl (Zi rfl args_nil))) (ref57_after_sim (ref57_after_tot (ref57_point_t (a : Int) false) 0 0) fn ).r ?_)
  rintro _ nm ⟨ms, g5, fo, rfl⟩
  refine Za rfl rfl (Zm (v := Vi ((a : Int))) rfl rfl (Za rfl rfl (Tc rfl rfl rfl (Zi rfl (Zi rfl args_nil)) (ref57_point_sim (ref57_point_tot (a : Int) true) fo ).r ?_)))
  rintro _ nn ⟨mt, g6, fp, rfl⟩
  refine Za rfl rfl (Zm (v := Vi ((a : Int))) rfl rfl (Za rfl rfl (Tc rfl rfl rfl (Zi rfl (Zi rfl args_nil)) (ref57_point_sim (ref57_point_tot (a : Int) false) fp ).r ?_)))
  rintro _ no ⟨mu, g7, fq, rfl⟩
  refine Za rfl rfl (Zm (v := Vi (o.Duration)) rfl rfl (Za rfl rfl (Tc rfl rfl rfl (Zi rfl (Zi rfl (Zi rfl args_nil))) (ref57_after_sim (ref57_after_tot (ref57_point_t (a : Int) true) (ref57_point_t (a : Int) false) o.Duration) fq ).r ?_)))
  rintro _ np ⟨mv, g8, fr, rfl⟩
  refine Za rfl rfl (Zm (v := Vi ((a : Int))) rfl rfl (Za rfl rfl (Tc rfl rfl rfl (Zi rfl (Zi rfl args_nil)) (ref57_point_sim (ref57_point_tot (a : Int) false) fr ).r ?_)))
  rintro _ nq ⟨mw, g9, fs, rfl⟩
  refine Za rfl rfl (Zm (v := Vi ((a : Int))) rfl rfl (Za rfl rfl (Tc rfl rfl rfl (Zi rfl (Zi rfl args_nil)) (ref57_point_sim (ref57_point_tot (a : Int) true) fs ).r ?_)))
  rintro _ nr ⟨jM, gA, ft, rfl⟩
  refine Za rfl rfl (Zm (v := Vi (o.Duration)) rfl rfl (Za rfl rfl (Exec.build rfl (parts_cons (c := [Vi ((ref57_point_t (a : Int) false))]) (cells_of rfl rfl) (parts_cons (c := [Vi ((ref57_point_t (a : Int) true))]) (cells_of rfl rfl) (parts_cons (c := [Vi (o.Duration)]) (cells_of rfl rfl) parts_nil))) (v := Value.agg #[Vi ((ref57_point_t (a : Int) false)), Vi ((ref57_point_t (a : Int) true)), Vi (o.Duration)]) (fun _ => by kernel_rfl) (Za rfl rfl (Exec.buildSlice (Te := 49) (cs := [Vi ((ref57_after_t (ref57_point_t (a : Int) false) 0 0).A), Vi ((ref57_after_t (ref57_point_t (a : Int) false) 0 0).B), Vi ((ref57_after_t (ref57_point_t (a : Int) false) 0 0).Most), Vi ((ref57_after_t (ref57_point_t (a : Int) true) (ref57_point_t (a : Int) false) o.Duration).A), Vi ((ref57_after_t (ref57_point_t (a : Int) true) (ref57_point_t (a : Int) false) o.Duration).B), Vi ((ref57_after_t (ref57_point_t (a : Int) true) (ref57_point_t (a : Int) false) o.Duration).Most), Vi ((ref57_point_t (a : Int) false)), Vi ((ref57_point_t (a : Int) true)), Vi (o.Duration)]) ft rfl (parts_cons (c := [Vi ((ref57_after_t (ref57_point_t (a : Int) false) 0 0).A), Vi ((ref57_after_t (ref57_point_t (a : Int) false) 0 0).B), Vi ((ref57_after_t (ref57_point_t (a : Int) false) 0 0).Most)]) (cells_of rfl rfl) (parts_cons (c := [Vi ((ref57_after_t (ref57_point_t (a : Int) true) (ref57_point_t (a : Int) false) o.Duration).A), Vi ((ref57_after_t (ref57_point_t (a : Int) true) (ref57_point_t (a : Int) false) o.Duration).B), Vi ((ref57_after_t (ref57_point_t (a : Int) true) (ref57_point_t (a : Int) false) o.Duration).Most)]) (cells_of rfl rfl) (parts_cons (c := [Vi ((ref57_point_t (a : Int) false)), Vi ((ref57_point_t (a : Int) true)), Vi (o.Duration)]) (cells_of rfl rfl) parts_nil))) (fun _ => by kernel_rfl) ?_)))))
  intro k2 ns fu
  obtain ⟨lL, iY, aO⟩ := Zg aO
  refine Za rfl rfl (Exec.append_box (E := encBound) (ys := [(ref57_after_t (ref57_point_t (a : Int) false) 0 0), (ref57_after_t (ref57_point_t (a : Int) true) (ref57_point_t (a : Int) false) o.Duration), (⟨(ref57_point_t (a : Int) false), (ref57_point_t (a : Int) true), o.Duration⟩ : Bound)]) (fu).f4 S42 Z49 rfl (by decide) rfl rfl rfl rfl ⟨[Vi ((ref57_after_t (ref57_point_t (a : Int) false) 0 0).A), Vi ((ref57_after_t (ref57_point_t (a : Int) false) 0 0).B), Vi ((ref57_after_t (ref57_point_t (a : Int) false) 0 0).Most)], [Vi ((ref57_after_t (ref57_point_t (a : Int) true) (ref57_point_t (a : Int) false) o.Duration).A), Vi ((ref57_after_t (ref57_point_t (a : Int) true) (ref57_point_t (a : Int) false) o.Duration).B), Vi ((ref57_after_t (ref57_point_t (a : Int) true) (ref57_point_t (a : Int) false) o.Duration).Most), Vi ((ref57_point_t (a : Int) false)), Vi ((ref57_point_t (a : Int) true)), Vi (o.Duration)], rfl, ⟨[Vi ((ref57_after_t (ref57_point_t (a : Int) false) 0 0).A)], [Vi ((ref57_after_t (ref57_point_t (a : Int) false) 0 0).B), Vi ((ref57_after_t (ref57_point_t (a : Int) false) 0 0).Most)], rfl, rfl, ⟨[Vi ((ref57_after_t (ref57_point_t (a : Int) false) 0 0).B)], [Vi ((ref57_after_t (ref57_point_t (a : Int) false) 0 0).Most)], rfl, rfl, rfl⟩⟩, ⟨[Vi ((ref57_after_t (ref57_point_t (a : Int) true) (ref57_point_t (a : Int) false) o.Duration).A), Vi ((ref57_after_t (ref57_point_t (a : Int) true) (ref57_point_t (a : Int) false) o.Duration).B), Vi ((ref57_after_t (ref57_point_t (a : Int) true) (ref57_point_t (a : Int) false) o.Duration).Most)], [Vi ((ref57_point_t (a : Int) false)), Vi ((ref57_point_t (a : Int) true)), Vi (o.Duration)], rfl, ⟨[Vi ((ref57_after_t (ref57_point_t (a : Int) true) (ref57_point_t (a : Int) false) o.Duration).A)], [Vi ((ref57_after_t (ref57_point_t (a : Int) true) (ref57_point_t (a : Int) false) o.Duration).B), Vi ((ref57_after_t (ref57_point_t (a : Int) true) (ref57_point_t (a : Int) false) o.Duration).Most)], rfl, rfl, ⟨[Vi ((ref57_after_t (ref57_point_t (a : Int) true) (ref57_point_t (a : Int) false) o.Duration).B)], [Vi ((ref57_after_t (ref57_point_t (a : Int) true) (ref57_point_t (a : Int) false) o.Duration).Most)], rfl, rfl, rfl⟩⟩, ⟨[Vi ((ref57_point_t (a : Int) false)), Vi ((ref57_point_t (a : Int) true)), Vi (o.Duration)], [], rfl, ⟨[Vi ((ref57_point_t (a : Int) false))], [Vi ((ref57_point_t (a : Int) true)), Vi (o.Duration)], rfl, rfl, ⟨[Vi ((ref57_point_t (a : Int) true))], [Vi (o.Duration)], rfl, rfl, rfl⟩⟩, rfl⟩⟩⟩ rfl iY ?_)
  intro ez nt fv
  refine Za rfl rfl (Zo (v := ez) rfl rfl (Zb (ib_normal (Ze (Zd (Za rfl rfl (Exec.add rfl ch rfl (Za rfl rfl (Zm (v := Vi (IntKind.i64.wrap ((a : Int) + 1))) rfl rfl (Zb (Ze ?_)))))))))))
  have kN := Zu aO
  subst jL
  exact ⟨jM, ez, (Zt (Zt (Zt (Zt (Zt (Zt (Zt dt g4) g5) g6) g7) g8) g9) gA), ((((fv).f1).drop).f2).f2, dz, ha, rfl, d0, d1, (Eq.trans rfl (wrap_up gw (cp).arr_le))⟩
 intro lp nu eP
 obtain ⟨dX, aX, x, cr, hc, d2, hd, lY, he, kp⟩ := eP
 refine Zc (Zd (Za rfl rfl (Zq rfl kp he (Zb (Ze (Zc (W_false (Zx (decide_eq_false (by omega))) (W_exit (at_exit (at_exit (ib_here (Ze (Zc (Zc (Zd (Za rfl rfl (Zm (v := d) rfl d2 (Za rfl rfl (Exec.len_arr ((cr).f1) S27 rfl rfl (Za rfl rfl (Zm (v := Vi (0)) rfl rfl (Zb (Ze ?_)))))))))))))))))))))))
 obtain ⟨c3, eG, hm⟩ := Zg hm
 refine W_block (W_forS (fun k' s' f' w' => (fun (c3 : (List Bound)) => ∃ (dY : PHeap) (aY : Value), PHeap.le dX dY ∧ St w0 dY (Res.box y 26 [aa, ab, ac, ad] :: Res.arr encLaunch 56 d n :: Res.arr encBound 49 aY c3 :: H) w' ∧ f' 2 = Value.pointer (some ⟨y, 0, none⟩) ∧ f' 6 = d ∧ f' 7 = aY ∧ f' 62 = d ∧ f' 63 = Vi ((n.length : Int)) ∧ f' 64 = Vi (k' : Int)) s') eG ?_ ?_ ?_)
 ·have fw := (cr).f2
  exact ⟨dX, aX, (Zv _), ((fw).f2).f2, hc, d2, hd, rfl, rfl, rfl⟩
 ·intro i c3 jN lq nv gx eQ aP
  obtain ⟨cQ, aY, aw, ct, hf, hg, hh, d3, d4, cj⟩ := eQ
  refine Zc (Zd (Za rfl rfl (Zq rfl cj d4 (Zb (Ze (Zc (W_true (Zx (decide_eq_true (by omega))) (W_skip (Ze (Zc (W_block (Zc (Zd (Za rfl rfl (Zm (v := Vi ((i : Int))) rfl cj ?_)))))))))))))))
  obtain ⟨ao, bV, aP⟩ := Zg aP
  obtain ⟨lC, kG, cY⟩ := ((ct).f1).arr_at bV
  refine Za rfl rfl (Exec.index_slice S27 rfl (Eq.trans d3 cY) cj (idx_some bV).1 (idx_some bV).2.1 (Za rfl rfl (Exec.load_arr (F := encLaunch) ((ct).f1) cY A56 rfl rfl rfl bV (Sub.refl _) ?_)))
  intro mR iZ
  obtain rfl := encLaunch_val.1 iZ
  refine Za rfl rfl (Exec.alloc (cs := [Vi (0), Vi (0)]) ct Z56 rfl rfl ?_)
  intro aB nw fx
  refine Za rfl rfl (Zo (v := Vi ((i : Int))) rfl rfl (Za rfl rfl (Exec.store_box (ds := [Vi (ao.At), Vi (ao.Job)]) (es := [Vi (ao.At), Vi (ao.Job)]) fx A56 rfl rfl rfl rfl (Zj rfl (Zj rfl one_nil)) (Nat.le_of_ble_eq_true rfl) rfl ?_)))
  intro nx fy
  refine Zb (Ze (Zc (Zd (Za rfl rfl (Zm (v := Vi ((i : Int))) rfl rfl (Za rfl rfl (Exec.add rfl rfl rfl (Za rfl rfl (Zo (v := Vi (IntKind.i64.wrap ((i : Int) + 1))) rfl rfl (Zb (Ze ?_)))))))))))
  obtain ⟨cU, eH, lJ, g1, gu⟩ := ctl_some aP
  refine W_mid (M := fun f' w' => ∃ s', (cU = .next s' ∨ cU = .brk s') ∧ (un2 fun (dq : Int) (du : (List Bound)) => ∃ (dZ : PHeap) (cc : Value), PHeap.le cQ dZ ∧ St w0 dZ (Res.box y 26 [aa, ab, ac, ad] :: Res.arr encLaunch 56 d n :: Res.arr encBound 49 cc du :: Res.box aB 56 [Vi (ao.At), Vi (ao.Job)] :: H) w' ∧ f' 2 = Value.pointer (some ⟨y, 0, none⟩) ∧ f' 6 = d ∧ f' 7 = cc ∧ f' 11 = Vi ((i : Int)) ∧ f' 12 = Value.pointer (some ⟨aB, 0, none⟩) ∧ f' 13 = Vi (dq) ∧ f' 62 = d ∧ f' 63 = Vi ((n.length : Int)) ∧ f' 64 = Vi ((i : Int))) s') ?_ ?_
  ·refine W_block (W_while (fun s' f' w' => (un2 fun (l : Int) (dv : (List Bound)) => ∃ (ea : PHeap) (b1 : Value), PHeap.le cQ ea ∧ St w0 ea (Res.box y 26 [aa, ab, ac, ad] :: Res.arr encLaunch 56 d n :: Res.arr encBound 49 b1 dv :: Res.box aB 56 [Vi (ao.At), Vi (ao.Job)] :: H) w' ∧ f' 2 = Value.pointer (some ⟨y, 0, none⟩) ∧ f' 6 = d ∧ f' 7 = b1 ∧ f' 11 = Vi ((i : Int)) ∧ f' 12 = Value.pointer (some ⟨aB, 0, none⟩) ∧ f' 13 = Vi (l) ∧ f' 62 = d ∧ f' 63 = Vi ((n.length : Int)) ∧ f' 64 = Vi ((i : Int))) s') eH ?_ ?_)
   ·have fz := (fy).f3
    exact ⟨cQ, aY, (Zv _), ((fz).f3).f3, hf, hg, hh, rfl, rfl, rfl, d3, d4, cj⟩
   intro kl cV lr ny eR a6 g3
   obtain ⟨l, dv⟩ := kl
   replace a6 := un2_eq a6
   obtain ⟨jO, b1, au, cu, d5, cB, d6, d7, d8, cC, d9, dA, dB⟩ := eR
   refine Zc (Zc (Zd (Za rfl rfl (Zm (v := Vi (l)) rfl cC (Za rfl rfl (Zm (v := d) rfl cB (Za rfl rfl (Exec.len_arr ((cu).f1) S27 rfl rfl (Za rfl rfl (Zq rfl rfl rfl (Zb (Ze ?_))))))))))))
   rcases ite_some a6 with ⟨bg, a6⟩ | ⟨bg, a6⟩
   ·refine W_cond_t rfl bg (W_skip (Ze (Zc (W_block (Zc (Zd (Za rfl rfl (Exec.build rfl (parts_cons (c := [Value.bool (false)]) (cells_of rfl rfl) (parts_cons (c := [Value.bool (false)]) (cells_of rfl rfl) parts_nil)) (v := Value.agg #[Value.bool (false), Value.bool (false)]) (fun _ => by kernel_rfl) (Za rfl rfl (Exec.build rfl (parts_cons (c := [Value.bool (false)]) (cells_of rfl rfl) (parts_cons (c := [Value.bool (true)]) (cells_of rfl rfl) parts_nil)) (v := Value.agg #[Value.bool (false), Value.bool (true)]) (fun _ => by kernel_rfl) (Za rfl rfl (Exec.build rfl (parts_cons (c := [Value.bool (true)]) (cells_of rfl rfl) (parts_cons (c := [Value.bool (false)]) (cells_of rfl rfl) parts_nil)) (v := Value.agg #[Value.bool (true), Value.bool (false)]) (fun _ => by kernel_rfl) (Za rfl rfl (Exec.build rfl (parts_cons (c := [Value.bool (true)]) (cells_of rfl rfl) (parts_cons (c := [Value.bool (true)]) (cells_of rfl rfl) parts_nil)) (v := Value.agg #[Value.bool (true), Value.bool (true)]) (fun _ => by kernel_rfl) (Za rfl rfl (Exec.buildSlice (Te := 91) (cs := [Value.bool (false), Value.bool (false), Value.bool (false), Value.bool (true), Value.bool (true), Value.bool (false), Value.bool (true), Value.bool (true)]) cu rfl (parts_cons (c := [Value.bool (false), Value.bool (false)]) (cells_of rfl rfl) (parts_cons (c := [Value.bool (false), Value.bool (true)]) (cells_of rfl rfl) (parts_cons (c := [Value.bool (true), Value.bool (false)]) (cells_of rfl rfl) (parts_cons (c := [Value.bool (true), Value.bool (true)]) (cells_of rfl rfl) parts_nil)))) (fun _ => by kernel_rfl) ?_))))))))))))))))
    intro cT nz f0
    have f5 := St.boxArr (E := encArr2_bool) (xs := [(⟨false, false⟩ : Arr2_bool), (⟨false, true⟩ : Arr2_bool), (⟨true, false⟩ : Arr2_bool), (⟨true, true⟩ : Arr2_bool)]) f0 ⟨[Value.bool (false), Value.bool (false)], [Value.bool (false), Value.bool (true), Value.bool (true), Value.bool (false), Value.bool (true), Value.bool (true)], rfl, ⟨[Value.bool (false)], [Value.bool (false)], rfl, rfl, rfl⟩, ⟨[Value.bool (false), Value.bool (true)], [Value.bool (true), Value.bool (false), Value.bool (true), Value.bool (true)], rfl, ⟨[Value.bool (false)], [Value.bool (true)], rfl, rfl, rfl⟩, ⟨[Value.bool (true), Value.bool (false)], [Value.bool (true), Value.bool (true)], rfl, ⟨[Value.bool (true)], [Value.bool (false)], rfl, rfl, rfl⟩, ⟨[Value.bool (true), Value.bool (true)], [], rfl, ⟨[Value.bool (true)], [Value.bool (true)], rfl, rfl, rfl⟩, rfl⟩⟩⟩⟩ (by simp [maxLen])
    obtain ⟨eb, ax, f6, ca⟩ := f5.freezeArr
    refine Za rfl rfl (Zr S92 rfl rfl ca (Za rfl rfl (Zm (v := Vi (0)) rfl rfl (Zb (Ze ?_)))))
    obtain ⟨c4, eI, a6⟩ := Zg a6
    refine W_block (W_forS (fun k' s' f' w' => (fun (c4 : (List Bound)) => ∃ (ec : PHeap) (aJ : Value), PHeap.le eb ec ∧ St w0 ec (Res.box y 26 [aa, ab, ac, ad] :: Res.arr encLaunch 56 d n :: Res.arr encBound 49 aJ c4 :: Res.box aB 56 [Vi (ao.At), Vi (ao.Job)] :: H) w' ∧ f' 2 = Value.pointer (some ⟨y, 0, none⟩) ∧ f' 6 = d ∧ f' 7 = aJ ∧ f' 11 = Vi ((i : Int)) ∧ f' 12 = Value.pointer (some ⟨aB, 0, none⟩) ∧ f' 13 = Vi (l) ∧ f' 62 = d ∧ f' 63 = Vi ((n.length : Int)) ∧ f' 64 = Vi ((i : Int)) ∧ f' 81 = Value.slice (some ⟨cT, 0, none⟩) 4 4 ∧ f' 82 = Vi (([(⟨false, false⟩ : Arr2_bool), (⟨false, true⟩ : Arr2_bool), (⟨true, false⟩ : Arr2_bool), (⟨true, true⟩ : Arr2_bool)].length : Int)) ∧ f' 83 = Vi (k' : Int)) s') eI ?_ ?_ ?_)
    ·have f7 := (f6).f3
     exact ⟨eb, b1, (Zv _), (((f7).f3).f3).f3, d5, cB, d6, d7, d8, cC, d9, dA, dB, rfl, rfl, rfl⟩
    ·intro c2 c4 ed ls n1 dm eS ae
     obtain ⟨mx, aJ, ar, de, aF, aS, cD, bC, bw, aG, cE, cF, cG, bD, bE, b2⟩ := eS
     refine Zc (Zd (Za rfl rfl (Zq rfl b2 bE (Zb (Ze (Zc (W_true (Zx (decide_eq_true (by omega))) (W_skip (Ze (Zc (W_block (Zc (Zd ?_)))))))))))))
     obtain ⟨b, ja, ae⟩ := Zg ae
     refine Za rfl rfl (Exec.index_rep S92 rfl bD b2 (ca.mono ar) ja ?_)
     intro k3 lS e7
     refine Za rfl rfl (Zw (E := encArr2_bool) de A91 rfl rfl rfl e7 ?_)
     intro mS jb
     obtain rfl := encArr2_bool_val.1 jb
     refine Za rfl rfl (Exec.alloc (cs := [Value.bool (false), Value.bool (false)]) de Z91 rfl rfl ?_)
     intro k4 n2 f8
     refine Za rfl rfl (Exec.store_box (ds := [Value.bool (b.a0), Value.bool (b.a1)]) (es := [Value.bool (b.a0), Value.bool (b.a1)]) f8 A91 rfl rfl rfl rfl (Zj rfl (Zj rfl one_nil)) (Nat.le_of_ble_eq_true rfl) rfl ?_)
     intro n3 f9
     refine Zb (Ze (Zc (Zc (W_dl (n0 := 21) (qs 0 19 (.e 19 [] (.q 20 .done))) hmix (by kernel_rfl) (by kernel_rfl) ?_))))
     have a4 := f9.drew
     refine DL_q rfl rfl (Zp F26_3 rfl aF rfl ⟨rfl, ?_⟩)
     refine DL_q rfl rfl (Zn ((a4).f1) A24 rfl rfl rfl ⟨rfl, ?_⟩)
     refine DL_q rfl rfl (Zp F56_1 rfl bw rfl ⟨rfl, ?_⟩)
     refine DL_q rfl rfl (Zn ((a4).f4) A3 rfl rfl rfl ⟨rfl, ?_⟩)
     obtain ⟨oz, jc, ae⟩ := Zg ae
     refine DL_q rfl rfl (Exec.index_repE S24 rfl rfl rfl (a2.mono (Zt (Zt (Zt (Zt (Zt u x) aw) au) ax) ar)) jc ?_)
     intro k5 lT e8 kO
     refine ⟨rfl, ?_⟩
     refine DL_q rfl rfl (Zw (E := encJob) a4 A63 rfl rfl rfl e8 ?_)
     intro mT jd
     obtain ⟨mA, mB, mC, mD, mE, rfl, j4, j5, j6, j7, j8⟩ := encJob_val.1 jd
     refine ⟨rfl, ?_⟩
     refine DL_q rfl rfl (Zp F26_3 rfl aF rfl ⟨rfl, ?_⟩)
     refine DL_q rfl rfl (Zn ((a4).f1) A24 rfl rfl rfl ⟨rfl, ?_⟩)
     refine DL_q rfl rfl (Zm (v := d) rfl aS ⟨rfl, ?_⟩)
     refine DL_q rfl rfl (Zm (v := Vi (l)) rfl aG ⟨rfl, ?_⟩)
     obtain ⟨o0, ay, ae⟩ := Zg ae
     obtain ⟨lD, kH, cZ⟩ := ((a4).f2).arr_at ay
     refine DL_q rfl rfl (Exec.index_slice S27 rfl cZ rfl (idx_some ay).1 (idx_some ay).2.1 ⟨rfl, ?_⟩)
     refine DL_q rfl rfl (Zp F56_1 rfl rfl rfl ⟨rfl, ?_⟩)
     refine DL_q rfl rfl (Exec.load_arr (F := (encInt .i64)) ((a4).f2) cZ A3 rfl rfl rfl ay (Sub.iso (Sub.snd (Sub.refl _) rfl)) ?_)
     intro mU je
     obtain rfl := encInt_val.1 je
     refine ⟨rfl, ?_⟩
     obtain ⟨o1, jf, ae⟩ := Zg ae
     refine DL_q rfl rfl (Exec.index_repE S24 rfl rfl rfl (a2.mono (Zt (Zt (Zt (Zt (Zt u x) aw) au) ax) ar)) jf ?_)
     intro k6 lU e9 kP
     refine ⟨rfl, ?_⟩
     refine DL_q rfl rfl (Zw (E := encJob) a4 A63 rfl rfl rfl e9 ?_)
     intro mV jg
     obtain ⟨mF, mG, mH, mI, mJ, rfl, j9, jA, jB, jC, jD⟩ := encJob_val.1 jg
     refine ⟨rfl, ?_⟩
     refine DL_q rfl rfl (Exec.index_parr Tryz.underlying91 A4 rfl rfl rfl (by decide) rfl ⟨rfl, ?_⟩)
     refine DL_q rfl rfl (Zn (a4) A4 rfl rfl rfl ⟨rfl, ?_⟩)
     refine DL_q rfl rfl (Exec.index_parr Tryz.underlying91 A4 rfl rfl rfl (by decide) rfl ⟨rfl, ?_⟩)
     refine DL_q rfl rfl (Zn (a4) A4 rfl rfl rfl ⟨rfl, ?_⟩)
     obtain ⟨o4, jh, ae⟩ := Zg ae
     refine DL_e rfl rfl (Tc rfl rfl rfl (Zi rfl (Zi rfl (Zi rfl (Zi rfl args_nil)))) (ref55_Interfere_sim jh a4 j4 j5 j6 j7 j8 j9 jA jB jC jD).r ?_)
     rintro _ n4 ⟨jP, a5, b8, rfl⟩
     refine ⟨ag_nil, ?_⟩
     refine DL_q rfl rfl (Exec.not rfl rfl ⟨rfl, ?_⟩)
     refine DL_done (Zb (Ze ?_))
     rcases ite_some ae with ⟨bh, ae⟩ | ⟨bh, ae⟩
     ·refine W_cond_t rfl bh (W_exit (at_exit (ib_here (Ze (Zd (Za rfl rfl (Exec.add rfl b2 rfl (Za rfl rfl (Zm (v := Vi (IntKind.i64.wrap ((c2 : Int) + 1))) rfl rfl (Zb (Ze ?_)))))))))))
      have kQ := Zu ae
      subst ed
      exact ⟨jP, aJ, (Zt ar a5), (((((b8).drop).f3).f3).f3).f3, aF, aS, cD, bC, bw, aG, cE, cF, cG, bD, bE, (Eq.trans rfl (wrap_up dm (SliceRep.le ca)))⟩
     refine W_cond_f rfl bh ?_
     replace bh := Zk bh
     refine W_skip (Ze (Zc (W_dl (n0 := 9) (qs 0 3 (qs 4 3 (.e 3 [4, 5, 6] (.e 7 [] (.q 8 .done))))) hmix (by kernel_rfl) (by kernel_rfl) (DL_q rfl rfl (Zm (v := Vi ((i : Int))) rfl bC ⟨rfl, ?_⟩)))))
     refine DL_q rfl rfl (Exec.index_parr Tryz.underlying91 A4 rfl rfl rfl (by decide) rfl ⟨rfl, ?_⟩)
     refine DL_q rfl rfl (Zn (b8.drew) A4 rfl rfl rfl ⟨rfl, ?_⟩)
     refine DL_q rfl rfl (Zm (v := Vi (l)) rfl aG ⟨rfl, ?_⟩)
     refine DL_q rfl rfl (Exec.index_parr Tryz.underlying91 A4 rfl rfl rfl (by decide) rfl ⟨rfl, ?_⟩)
     refine DL_q rfl rfl (Zn (b8.drew) A4 rfl rfl rfl ⟨rfl, ?_⟩)
     refine DL_e rfl rfl (Tc rfl rfl rfl (Zi rfl (Zi rfl args_nil)) (ref57_point_sim (ref57_point_tot (i : Int) b.a0) b8.drew ).r ?_)
     rintro _ n5 ⟨my, a8, df, rfl⟩
     refine ⟨(ag_cons (ag_r rfl rfl (Zm (v := Vi (l)) rfl aG ⟨rfl, rfl⟩)) (ag_cons (ag_r rfl rfl (Exec.index_parr Tryz.underlying91 A4 rfl rfl rfl (by decide) rfl ⟨rfl, rfl⟩)) (ag_cons (ag_r rfl rfl (Zn (df) A4 rfl rfl rfl ⟨rfl, rfl⟩)) ag_nil))), ?_⟩
     refine DL_e rfl rfl (Tc rfl rfl rfl (Zi rfl (Zi rfl args_nil)) (ref57_point_sim (ref57_point_tot l b.a1) df ).r ?_)
     rintro _ n6 ⟨mz, a9, fA, rfl⟩
     refine ⟨ag_nil, ?_⟩
     refine DL_q rfl rfl (Zo (v := Vi ((ref57_point_t (i : Int) b.a0))) rfl rfl ⟨rfl, ?_⟩)
     refine DL_done (Za rfl rfl (Zo (v := Vi ((ref57_point_t l b.a1))) rfl rfl (Zb (Ze (Zc (W_dl (n0 := 14) (qs 0 4 (qs 5 7 (.e 4 [5, 6, 7, 8, 9, 10, 11] (.e 12 [] (.q 13 .done))))) hmix (by kernel_rfl) (by kernel_rfl) ?_))))))
     have aD := fA.drew
     refine DL_q rfl rfl (Exec.load_box_agg (ds := [aa, ab, ac, ad]) ((aD).f1) A26 rfl aF rfl ⟨rfl, ?_⟩)
     refine DL_q rfl rfl (Exec.load_box_agg (ds := [Vi (ao.At), Vi (ao.Job)]) ((aD).f4) A56 rfl bw rfl ⟨rfl, ?_⟩)
     refine DL_q rfl rfl (Exec.index_parr Tryz.underlying91 A4 rfl rfl rfl (by decide) rfl ⟨rfl, ?_⟩)
     refine DL_q rfl rfl (Zn (aD) A4 rfl rfl rfl ⟨rfl, ?_⟩)
     refine DL_q rfl rfl (Exec.load_box_agg (ds := [aa, ab, ac, ad]) ((aD).f1) A26 rfl aF rfl ⟨rfl, ?_⟩)
     refine DL_q rfl rfl (Zm (v := d) rfl aS ⟨rfl, ?_⟩)
     refine DL_q rfl rfl (Zm (v := Vi (l)) rfl aG ⟨rfl, ?_⟩)
     obtain ⟨lE, kI, b6⟩ := ((aD).f2).arr_at ay
     refine DL_q rfl rfl (Exec.index_slice S27 rfl b6 rfl (idx_some ay).1 (idx_some ay).2.1 ⟨rfl, ?_⟩)
     refine DL_q rfl rfl (Exec.load_arr (F := encLaunch) ((aD).f2) b6 A56 rfl rfl rfl ay (Sub.refl _) ?_)
     intro mW ji
     obtain rfl := encLaunch_val.1 ji
     refine ⟨rfl, ?_⟩
     refine DL_q rfl rfl (Exec.index_parr Tryz.underlying91 A4 rfl rfl rfl (by decide) rfl ⟨rfl, ?_⟩)
     refine DL_q rfl rfl (Zn (aD) A4 rfl rfl rfl ⟨rfl, ?_⟩)
     obtain ⟨o5, jj, ae⟩ := Zg ae
     refine DL_e rfl rfl (Tc rfl rfl rfl (Zi rfl (Zi rfl (Zi rfl args_nil))) (ref57_at_sim jj aD (bc.mono (Zt (Zt (Zt (Zt (Zt (Zt (Zt (Zt u x) aw) au) ax) ar) a5) a8) a9)) (bd.mono (Zt (Zt (Zt (Zt (Zt (Zt (Zt (Zt u x) aw) au) ax) ar) a5) a8) a9)) (be.mono (Zt (Zt (Zt (Zt (Zt (Zt (Zt (Zt u x) aw) au) ax) ar) a5) a8) a9)) (a2.mono (Zt (Zt (Zt (Zt (Zt (Zt (Zt (Zt u x) aw) au) ax) ar) a5) a8) a9))).r ?_)
     rintro _ n7 ⟨m0, br, b9, rfl⟩
     refine ⟨(ag_cons (ag_r rfl rfl (Exec.load_box_agg (ds := [aa, ab, ac, ad]) ((b9).f1) A26 rfl aF rfl ⟨rfl, rfl⟩)) (ag_cons (ag_r rfl rfl (Zm (v := d) rfl aS ⟨rfl, rfl⟩)) (ag_cons (ag_r rfl rfl (Zm (v := Vi (l)) rfl aG ⟨rfl, rfl⟩)) (ag_cons (ag_r rfl rfl (Exec.index_slice S27 rfl b6 rfl (idx_some ay).1 (idx_some ay).2.1 ⟨rfl, rfl⟩)) (ag_cons (ag_r rfl rfl (Exec.load_arr (F := encLaunch) ((b9).f2) b6 A56 rfl rfl rfl ay (Sub.refl _) (fun _ q => ⟨rfl, encLaunch_val.1 q⟩))) (ag_cons (ag_r rfl rfl (Exec.index_parr Tryz.underlying91 A4 rfl rfl rfl (by decide) rfl ⟨rfl, rfl⟩)) (ag_cons (ag_r rfl rfl (Zn (b9) A4 rfl rfl rfl ⟨rfl, rfl⟩)) ag_nil))))))), ?_⟩
     obtain ⟨o6, jk, ae⟩ := Zg ae
     refine DL_e rfl rfl (Tc rfl rfl rfl (Zi rfl (Zi rfl (Zi rfl args_nil))) (ref57_at_sim jk b9 (bc.mono (Zt (Zt (Zt (Zt (Zt (Zt (Zt (Zt (Zt u x) aw) au) ax) ar) a5) a8) a9) br)) (bd.mono (Zt (Zt (Zt (Zt (Zt (Zt (Zt (Zt (Zt u x) aw) au) ax) ar) a5) a8) a9) br)) (be.mono (Zt (Zt (Zt (Zt (Zt (Zt (Zt (Zt (Zt u x) aw) au) ax) ar) a5) a8) a9) br)) (a2.mono (Zt (Zt (Zt (Zt (Zt (Zt (Zt (Zt (Zt u x) aw) au) ax) ar) a5) a8) a9) br))).r ?_)
     rintro _ n8 ⟨jQ, gB, dg, rfl⟩
     refine ⟨ag_nil, ?_⟩
     refine DL_q rfl rfl (Zq rfl rfl rfl ⟨rfl, ?_⟩)
     refine DL_done (Zb (Ze ?_))
     obtain ⟨bs, a7, ae⟩ := Zg ae
     refine W_mid (M := fun f' w' => (fun (bs : (List Bound)) => ∃ (ee : PHeap) (cd : Value), PHeap.le jQ ee ∧ St w0 ee (Res.box y 26 [aa, ab, ac, ad] :: Res.arr encLaunch 56 d n :: Res.arr encBound 49 cd bs :: Res.box aB 56 [Vi (ao.At), Vi (ao.Job)] :: H) w' ∧ f' 2 = Value.pointer (some ⟨y, 0, none⟩) ∧ f' 6 = d ∧ f' 7 = cd ∧ f' 11 = Vi ((i : Int)) ∧ f' 12 = Value.pointer (some ⟨aB, 0, none⟩) ∧ f' 13 = Vi (l) ∧ f' 62 = d ∧ f' 63 = Vi ((n.length : Int)) ∧ f' 64 = Vi ((i : Int)) ∧ f' 81 = Value.slice (some ⟨cT, 0, none⟩) 4 4 ∧ f' 82 = Vi (([(⟨false, false⟩ : Arr2_bool), (⟨false, true⟩ : Arr2_bool), (⟨true, false⟩ : Arr2_bool), (⟨true, true⟩ : Arr2_bool)].length : Int)) ∧ f' 83 = Vi ((c2 : Int))) bs) ?_ ?_
     ·rcases ite_some a7 with ⟨bi, a7⟩ | ⟨bi, a7⟩
      ·refine W_cond_t rfl bi (Zd (Za rfl rfl (Zm (v := aJ) rfl cD (Za rfl rfl (Zm (v := Vi ((ref57_point_t l b.a1))) rfl rfl (Za rfl rfl (Zm (v := Vi ((ref57_point_t (i : Int) b.a0))) rfl rfl (Za rfl rfl (Tc rfl rfl rfl (Zi rfl (Zi rfl (Zi rfl args_nil))) (ref57_after_sim (ref57_after_tot (ref57_point_t l b.a1) (ref57_point_t (i : Int) b.a0) 1) dg ).r ?_)))))))))
       rintro _ n9 ⟨jR, gC, fB, rfl⟩
       refine Za rfl rfl (Exec.buildSlice (Te := 49) (cs := [Vi ((ref57_after_t (ref57_point_t l b.a1) (ref57_point_t (i : Int) b.a0) 1).A), Vi ((ref57_after_t (ref57_point_t l b.a1) (ref57_point_t (i : Int) b.a0) 1).B), Vi ((ref57_after_t (ref57_point_t l b.a1) (ref57_point_t (i : Int) b.a0) 1).Most)]) fB rfl (parts_cons (c := [Vi ((ref57_after_t (ref57_point_t l b.a1) (ref57_point_t (i : Int) b.a0) 1).A), Vi ((ref57_after_t (ref57_point_t l b.a1) (ref57_point_t (i : Int) b.a0) 1).B), Vi ((ref57_after_t (ref57_point_t l b.a1) (ref57_point_t (i : Int) b.a0) 1).Most)]) (cells_of rfl rfl) parts_nil) (fun _ => by kernel_rfl) ?_)
       intro k7 nA fC
       obtain ⟨lM, jl, a7⟩ := Zg a7
       refine Za rfl rfl (Exec.append_box (E := encBound) (ys := [(ref57_after_t (ref57_point_t l b.a1) (ref57_point_t (i : Int) b.a0) 1)]) (fC).f4 S42 Z49 rfl (by decide) rfl rfl rfl rfl ⟨[Vi ((ref57_after_t (ref57_point_t l b.a1) (ref57_point_t (i : Int) b.a0) 1).A), Vi ((ref57_after_t (ref57_point_t l b.a1) (ref57_point_t (i : Int) b.a0) 1).B), Vi ((ref57_after_t (ref57_point_t l b.a1) (ref57_point_t (i : Int) b.a0) 1).Most)], [], rfl, ⟨[Vi ((ref57_after_t (ref57_point_t l b.a1) (ref57_point_t (i : Int) b.a0) 1).A)], [Vi ((ref57_after_t (ref57_point_t l b.a1) (ref57_point_t (i : Int) b.a0) 1).B), Vi ((ref57_after_t (ref57_point_t l b.a1) (ref57_point_t (i : Int) b.a0) 1).Most)], rfl, rfl, ⟨[Vi ((ref57_after_t (ref57_point_t l b.a1) (ref57_point_t (i : Int) b.a0) 1).B)], [Vi ((ref57_after_t (ref57_point_t l b.a1) (ref57_point_t (i : Int) b.a0) 1).Most)], rfl, rfl, rfl⟩⟩, rfl⟩ rfl jl ?_)
       intro e0 nB fD
       refine Za rfl rfl (Zo (v := e0) rfl rfl (Zb (Ze ?_)))
       have kR := Zu a7
       subst bs
       exact ⟨jR, e0, gC, ((((((fD).f1).drop).f3).f1).f3).f3, aF, aS, rfl, bC, bw, aG, cE, cF, cG, bD, bE, b2⟩
      refine W_cond_f rfl bi ?_
      replace bi := Zk bi
      refine Zd (Za rfl rfl (Zm (v := aJ) rfl cD (Za rfl rfl (Zm (v := Vi ((ref57_point_t (i : Int) b.a0))) rfl rfl (Za rfl rfl (Zm (v := Vi ((ref57_point_t l b.a1))) rfl rfl (Za rfl rfl (Tc rfl rfl rfl (Zi rfl (Zi rfl (Zi rfl args_nil))) (ref57_after_sim (ref57_after_tot (ref57_point_t (i : Int) b.a0) (ref57_point_t l b.a1) 1) dg ).r ?_))))))))
      rintro _ nC ⟨jS, gD, fE, rfl⟩
      refine Za rfl rfl (Exec.buildSlice (Te := 49) (cs := [Vi ((ref57_after_t (ref57_point_t (i : Int) b.a0) (ref57_point_t l b.a1) 1).A), Vi ((ref57_after_t (ref57_point_t (i : Int) b.a0) (ref57_point_t l b.a1) 1).B), Vi ((ref57_after_t (ref57_point_t (i : Int) b.a0) (ref57_point_t l b.a1) 1).Most)]) fE rfl (parts_cons (c := [Vi ((ref57_after_t (ref57_point_t (i : Int) b.a0) (ref57_point_t l b.a1) 1).A), Vi ((ref57_after_t (ref57_point_t (i : Int) b.a0) (ref57_point_t l b.a1) 1).B), Vi ((ref57_after_t (ref57_point_t (i : Int) b.a0) (ref57_point_t l b.a1) 1).Most)]) (cells_of rfl rfl) parts_nil) (fun _ => by kernel_rfl) ?_)
      intro k8 nD fF
      obtain ⟨lN, jm, a7⟩ := Zg a7
      refine Za rfl rfl (Exec.append_box (E := encBound) (ys := [(ref57_after_t (ref57_point_t (i : Int) b.a0) (ref57_point_t l b.a1) 1)]) (fF).f4 S42 Z49 rfl (by decide) rfl rfl rfl rfl ⟨[Vi ((ref57_after_t (ref57_point_t (i : Int) b.a0) (ref57_point_t l b.a1) 1).A), Vi ((ref57_after_t (ref57_point_t (i : Int) b.a0) (ref57_point_t l b.a1) 1).B), Vi ((ref57_after_t (ref57_point_t (i : Int) b.a0) (ref57_point_t l b.a1) 1).Most)], [], rfl, ⟨[Vi ((ref57_after_t (ref57_point_t (i : Int) b.a0) (ref57_point_t l b.a1) 1).A)], [Vi ((ref57_after_t (ref57_point_t (i : Int) b.a0) (ref57_point_t l b.a1) 1).B), Vi ((ref57_after_t (ref57_point_t (i : Int) b.a0) (ref57_point_t l b.a1) 1).Most)], rfl, rfl, ⟨[Vi ((ref57_after_t (ref57_point_t (i : Int) b.a0) (ref57_point_t l b.a1) 1).B)], [Vi ((ref57_after_t (ref57_point_t (i : Int) b.a0) (ref57_point_t l b.a1) 1).Most)], rfl, rfl, rfl⟩⟩, rfl⟩ rfl jm ?_)
      intro e1 nE fG
      refine Za rfl rfl (Zo (v := e1) rfl rfl (Zb (Ze ?_)))
      have kS := Zu a7
      subst bs
      exact ⟨jS, e1, gD, ((((((fG).f1).drop).f3).f1).f3).f3, aF, aS, rfl, bC, bw, aG, cE, cF, cG, bD, bE, b2⟩
     intro lu nF fe
     obtain ⟨jT, cd, gE, fH, hi, hj, hk, hl, hn, ho, hp, hq, hr, hs, ht, hu⟩ := fe
     refine (ib_normal (Ze (Zd (Za rfl rfl (Exec.add rfl hu rfl (Za rfl rfl (Zm (v := Vi (IntKind.i64.wrap ((c2 : Int) + 1))) rfl rfl (Zb (Ze ?_)))))))))
     have kT := Zu ae
     subst ed
     exact ⟨jT, cd, (Zt (Zt (Zt (Zt (Zt (Zt ar a5) a8) a9) br) gB) gE), ((((fH).f3).f3).f3).f3, hi, hj, hk, hl, hn, ho, hp, hq, hr, hs, ht, (Eq.trans rfl (wrap_up dm (SliceRep.le ca)))⟩
    intro lv nG eT
    obtain ⟨jU, aJ, gF, fI, hv, hw, hx, hy, hz, h0, h1, h2, h3, lZ, h4, kq⟩ := eT
    refine Zc (Zd (Za rfl rfl (Zq rfl kq h4 (Zb (Ze (Zc (W_false (Zx (decide_eq_false (by omega))) (W_exit (at_exit (at_exit (ib_here (ib_normal (Ze (Zd (Za rfl rfl (Zm (v := Vi (l)) rfl h0 (Za rfl rfl (Exec.add rfl rfl rfl (Za rfl rfl (Zo (v := Vi (IntKind.i64.wrap (l + 1))) rfl rfl (Zb (Ze ?_))))))))))))))))))))))
    have kU := Zu a6
    subst cV
    refine ⟨_, rfl, ?_⟩; exact ⟨jU, aJ, (Zt (Zt au ax) gF), ((((fI).f3).f3).f3).f3, hv, hw, hx, hy, hz, rfl, h1, h2, h3⟩
   refine W_cond_f rfl bg ?_
   replace bg := Zk bg
   refine W_exit (at_exit (at_exit (ib_here (Ze ?_))))
   have kV := Zu a6
   subst cV
   refine ⟨_, .inr (g3 (by intro _ h; cases h)), ?_⟩; exact ⟨jO, b1, au, ((((cu).f3).f3).f3).f3, d5, cB, d6, d7, d8, cC, d9, dA, dB⟩
  rintro lw nH ⟨km, dk, ff⟩
  have aP := dk.elim (g1 _) (gu _)
  clear dk
  obtain ⟨dq, du⟩ := km
  replace aP := un2_eq aP
  obtain ⟨jV, cc, gG, fJ, h5, h6, h7, ma, mb, mc, h8, h9, hA⟩ := ff
  refine (ib_normal (Ze (Zd (Za rfl rfl (Exec.add rfl hA rfl (Za rfl rfl (Zm (v := Vi (IntKind.i64.wrap ((i : Int) + 1))) rfl rfl (Zb (Ze ?_)))))))))
  have kW := Zu aP
  subst jN
  exact ⟨jV, cc, (Zt aw gG), (((((fJ).f3).drop).f2).f2).f2, h5, h6, h7, h8, h9, (Eq.trans rfl (wrap_up gx ((cr).f1).arr_le))⟩
 intro lx nI eU
 obtain ⟨ef, aY, aj, cv, hB, dC, hC, md, hD, kr⟩ := eU
 refine Zc (Zd (Za rfl rfl (Zq rfl kr hD (Zb (Ze (Zc (W_false (Zx (decide_eq_false (by omega))) (W_exit (at_exit (at_exit (ib_here (Ze (Zc (Zc (Zd (Za rfl rfl (Zm (v := d) rfl dC (Za rfl rfl (Exec.len_arr ((cv).f1) S27 rfl rfl (Za rfl rfl (Zm (v := Vi (0)) rfl rfl (Zb (Ze ?_)))))))))))))))))))))))
 obtain ⟨c5, eJ, hm⟩ := Zg hm
 refine W_block (W_forS (fun k' s' f' w' => (fun (c5 : (List Bound)) => ∃ (eg : PHeap) (aZ : Value), PHeap.le ef eg ∧ St w0 eg (Res.box y 26 [aa, ab, ac, ad] :: Res.arr encLaunch 56 d n :: Res.arr encBound 49 aZ c5 :: H) w' ∧ f' 2 = Value.pointer (some ⟨y, 0, none⟩) ∧ f' 6 = d ∧ f' 7 = aZ ∧ f' 144 = d ∧ f' 145 = Vi ((n.length : Int)) ∧ f' 146 = Vi (k' : Int)) s') eJ ?_ ?_ ?_)
 ·have fK := (cv).f2
  exact ⟨ef, aY, (Zv _), ((fK).f2).f2, hB, dC, hC, rfl, rfl, rfl⟩
 ·intro g c5 jW ly nJ gy eV bo
  obtain ⟨eh, aZ, ak, cw, hE, dD, hF, dE, dF, ck⟩ := eV
  refine Zc (Zd (Za rfl rfl (Zq rfl ck dF (Zb (Ze (Zc (W_true (Zx (decide_eq_true (by omega))) (W_skip (Ze (Zc (W_block (Zc (Zd (Za rfl rfl (Zm (v := Vi ((g : Int))) rfl ck ?_)))))))))))))))
  obtain ⟨af, bW, bo⟩ := Zg bo
  obtain ⟨lF, kJ, da⟩ := ((cw).f1).arr_at bW
  refine Za rfl rfl (Exec.index_slice S27 rfl (Eq.trans dE da) ck (idx_some bW).1 (idx_some bW).2.1 (Za rfl rfl (Exec.load_arr (F := encLaunch) ((cw).f1) da A56 rfl rfl rfl bW (Sub.refl _) ?_)))
  intro mX jn
  obtain rfl := encLaunch_val.1 jn
  refine Za rfl rfl (Exec.alloc (cs := [Vi (0), Vi (0)]) cw Z56 rfl rfl ?_)
  intro a3 nK fL
  refine Za rfl rfl (Zo (v := Vi ((g : Int))) rfl rfl (Za rfl rfl (Exec.store_box (ds := [Vi (af.At), Vi (af.Job)]) (es := [Vi (af.At), Vi (af.Job)]) fL A56 rfl rfl rfl rfl (Zj rfl (Zj rfl one_nil)) (Nat.le_of_ble_eq_true rfl) rfl ?_)))
  intro nL cx
  refine Zb (Ze (Zc (Zd (Za rfl rfl (Zm (v := d) rfl dD (Za rfl rfl (Exec.len_arr ((cx).f2) S27 rfl rfl (Za rfl rfl (Zm (v := Vi (0)) rfl rfl (Zb (Ze ?_)))))))))))
  obtain ⟨c6, eK, bo⟩ := Zg bo
  refine W_block (W_forS (fun k' s' f' w' => (fun (c6 : (List Bound)) => ∃ (ei : PHeap) (ba : Value), PHeap.le eh ei ∧ St w0 ei (Res.box y 26 [aa, ab, ac, ad] :: Res.arr encLaunch 56 d n :: Res.arr encBound 49 ba c6 :: Res.box a3 56 [Vi (af.At), Vi (af.Job)] :: H) w' ∧ f' 2 = Value.pointer (some ⟨y, 0, none⟩) ∧ f' 6 = d ∧ f' 7 = ba ∧ f' 18 = Vi ((g : Int)) ∧ f' 19 = Value.pointer (some ⟨a3, 0, none⟩) ∧ f' 144 = d ∧ f' 145 = Vi ((n.length : Int)) ∧ f' 146 = Vi ((g : Int)) ∧ f' 151 = d ∧ f' 152 = Vi ((n.length : Int)) ∧ f' 153 = Vi (k' : Int)) s') eK ?_ ?_ ?_)
  ·have fM := (cx).f3
   exact ⟨eh, aZ, (Zv _), ((fM).f3).f3, hE, dD, hF, rfl, rfl, dE, dF, ck, rfl, rfl, rfl⟩
  ·intro j c6 jX lz nM gz eW bp
   obtain ⟨m1, ba, al, cy, hG, hH, hI, hJ, hK, hL, hM, hN, dG, dH, cl⟩ := eW
   refine Zc (Zd (Za rfl rfl (Zq rfl cl dH (Zb (Ze (Zc (W_true (Zx (decide_eq_true (by omega))) (W_skip (Ze (Zc (W_block (Zc (Zd (Za rfl rfl (Zm (v := Vi ((j : Int))) rfl cl ?_)))))))))))))))
   obtain ⟨ah, bX, bp⟩ := Zg bp
   obtain ⟨lG, kK, db⟩ := ((cy).f1).arr_at bX
   refine Za rfl rfl (Exec.index_slice S27 rfl (Eq.trans dG db) cl (idx_some bX).1 (idx_some bX).2.1 (Za rfl rfl (Exec.load_arr (F := encLaunch) ((cy).f1) db A56 rfl rfl rfl bX (Sub.refl _) ?_)))
   intro mY jo
   obtain rfl := encLaunch_val.1 jo
   refine Za rfl rfl (Exec.alloc (cs := [Vi (0), Vi (0)]) cy Z56 rfl rfl ?_)
   intro aC nN fN
   refine Za rfl rfl (Zo (v := Vi ((j : Int))) rfl rfl (Za rfl rfl (Exec.store_box (ds := [Vi (ah.At), Vi (ah.Job)]) (es := [Vi (ah.At), Vi (ah.Job)]) fN A56 rfl rfl rfl rfl (Zj rfl (Zj rfl one_nil)) (Nat.le_of_ble_eq_true rfl) rfl ?_)))
   intro nO fO
   refine Zb (Ze (Zc (Zd (Za rfl rfl (Exec.buildSlice (Te := 4) (cs := [Value.bool (false), Value.bool (true)]) fO rfl (parts_cons (c := [Value.bool (false)]) (cells_of rfl rfl) (parts_cons (c := [Value.bool (true)]) (cells_of rfl rfl) parts_nil)) (fun _ => by kernel_rfl) ?_)))))
   intro b4 nP fP
   have fQ := St.boxArr (E := encBool) (xs := [false, true]) fP ⟨[Value.bool (false)], [Value.bool (true)], rfl, rfl, ⟨[Value.bool (true)], [], rfl, rfl, rfl⟩⟩ (by simp [maxLen])
   obtain ⟨ej, am, fR, cb⟩ := fQ.freezeArr
   refine Za rfl rfl (Zr S95 rfl rfl cb (Za rfl rfl (Zm (v := Vi (0)) rfl rfl (Zb (Ze ?_)))))
   obtain ⟨bB, eL, bp⟩ := Zg bp
   refine W_block (W_forS (fun k' s' f' w' => (fun (bB : (List Bound)) => ∃ (ek : PHeap) (az : Value), PHeap.le ej ek ∧ St w0 ek (Res.box y 26 [aa, ab, ac, ad] :: Res.arr encLaunch 56 d n :: Res.arr encBound 49 az bB :: Res.box a3 56 [Vi (af.At), Vi (af.Job)] :: Res.box aC 56 [Vi (ah.At), Vi (ah.Job)] :: H) w' ∧ f' 2 = Value.pointer (some ⟨y, 0, none⟩) ∧ f' 6 = d ∧ f' 7 = az ∧ f' 18 = Vi ((g : Int)) ∧ f' 19 = Value.pointer (some ⟨a3, 0, none⟩) ∧ f' 20 = Vi ((j : Int)) ∧ f' 21 = Value.pointer (some ⟨aC, 0, none⟩) ∧ f' 144 = d ∧ f' 145 = Vi ((n.length : Int)) ∧ f' 146 = Vi ((g : Int)) ∧ f' 151 = d ∧ f' 152 = Vi ((n.length : Int)) ∧ f' 153 = Vi ((j : Int)) ∧ f' 158 = Value.slice (some ⟨b4, 0, none⟩) 2 2 ∧ f' 159 = Vi (([false, true].length : Int)) ∧ f' 160 = Vi (k' : Int)) s') eL ?_ ?_ ?_)
   ·have fS := (fR).f4
    exact ⟨ej, ba, (Zv _), (((fS).f4).f4).f4, hG, hH, hI, hJ, hK, rfl, rfl, hL, hM, hN, dG, dH, cl, rfl, rfl, rfl⟩
   ·intro bq bB el l0 nQ dn eX ap
    obtain ⟨em, az, ag, dh, bx, dI, dJ, cH, bF, cI, cJ, dK, dL, dM, dN, dO, dP, cK, cL, cm⟩ := eX
    refine Zc (Zd (Za rfl rfl (Zq rfl cm cL (Zb (Ze (Zc (W_true (Zx (decide_eq_true (by omega))) (W_skip (Ze (Zc (W_block (Zc (Zd ?_)))))))))))))
    obtain ⟨m, jp, ap⟩ := Zg ap
    refine Za rfl rfl (Exec.index_rep S95 rfl cK cm (cb.mono ag) jp ?_)
    intro k9 lV eA
    refine Za rfl rfl (Zw (E := encBool) dh A4 rfl rfl rfl eA ?_)
    intro mZ jq
    obtain rfl := encBool_val.1 jq
    refine Za rfl rfl (Zo (v := Value.bool (m)) rfl rfl (Zb (Ze (Zc (Zc ?_)))))
    obtain ⟨b3, av, ap⟩ := Zg ap
    refine W_mid (M := fun f' w' => (fun (b3 : Bool) => ∃ (en : PHeap) , PHeap.le em en ∧ St w0 en (Res.box y 26 [aa, ab, ac, ad] :: Res.arr encLaunch 56 d n :: Res.arr encBound 49 az bB :: Res.box a3 56 [Vi (af.At), Vi (af.Job)] :: Res.box aC 56 [Vi (ah.At), Vi (ah.Job)] :: H) w' ∧ f' 2 = Value.pointer (some ⟨y, 0, none⟩) ∧ f' 6 = d ∧ f' 7 = az ∧ f' 18 = Vi ((g : Int)) ∧ f' 19 = Value.pointer (some ⟨a3, 0, none⟩) ∧ f' 20 = Vi ((j : Int)) ∧ f' 21 = Value.pointer (some ⟨aC, 0, none⟩) ∧ f' 23 = Value.bool (m) ∧ f' 144 = d ∧ f' 145 = Vi ((n.length : Int)) ∧ f' 146 = Vi ((g : Int)) ∧ f' 151 = d ∧ f' 152 = Vi ((n.length : Int)) ∧ f' 153 = Vi ((j : Int)) ∧ f' 158 = Value.slice (some ⟨b4, 0, none⟩) 2 2 ∧ f' 159 = Vi (([false, true].length : Int)) ∧ f' 160 = Vi ((bq : Int)) ∧ f' 185 = Value.bool (b3)) b3) ?_ ?_
    ·refine W_dl (n0 := 22) (qs 0 11 (qs 12 7 (.e 11 [12, 13, 14, 15, 16, 17, 18] (.e 19 [] (.q 20 (.q 21 .done)))))) hmix (by kernel_rfl) (by kernel_rfl) ?_
     have aE := dh.drew
     refine DL_q rfl rfl (Zm (v := Vi ((g : Int))) rfl cH ⟨rfl, ?_⟩)
     refine DL_q rfl rfl (Zm (v := Vi ((j : Int))) rfl cI ⟨rfl, ?_⟩)
     refine DL_q rfl rfl (Exec.eql rfl rfl rfl ⟨rfl, ?_⟩)
     refine DL_q rfl rfl (Zm (v := Value.bool (decide ((g : Int) = (j : Int)))) rfl rfl ⟨rfl, ?_⟩)
     rcases ite_some av with ⟨p, av⟩ | ⟨p, av⟩
     ·refine DL_passes 18 (by rw [p]; rfl) ?_
      refine DL_done (Zb (Ze ?_))
      have kX := Zu av
      subst b3
      exact ⟨em, (Zv _), (((((aE).f4).f4).f4).f4).f4, bx, dI, dJ, cH, bF, cI, cJ, rfl, dK, dL, dM, dN, dO, dP, cK, cL, cm, rfl⟩
     replace p := Zk p
     refine DL_qg rfl rfl (Zf rfl (Zx p)) (Zp F26_3 rfl bx rfl ⟨rfl, ?_⟩)
     refine DL_qg rfl rfl (Zf rfl (Zx p)) (Zn (aE) A24 rfl rfl rfl ⟨rfl, ?_⟩)
     refine DL_qg rfl rfl (Zf rfl (Zx p)) (Zp F56_1 rfl cJ rfl ⟨rfl, ?_⟩)
     refine DL_qg rfl rfl (Zf rfl (Zx p)) (Zn ((aE).f4) A3 rfl rfl rfl ⟨rfl, ?_⟩)
     obtain ⟨ks, jr, av⟩ := Zg av
     refine DL_qg rfl rfl (Zf rfl (Zx p)) (Exec.index_repE S24 rfl rfl rfl (a2.mono (Zt (Zt (Zt (Zt (Zt (Zt u x) aj) ak) al) am) ag)) jr ?_)
     intro kA lW eB kY
     refine ⟨rfl, ?_⟩
     refine DL_qg rfl rfl (Zf rfl (Zx p)) (Zw (E := encJob) aE A63 rfl rfl rfl eB ?_)
     intro na js
     obtain ⟨mK, mL, mM, mN, mO, rfl, jE, jF, jG, jH, jI⟩ := encJob_val.1 js
     refine ⟨rfl, ?_⟩
     refine DL_qg rfl rfl (Zf rfl (Zx p)) (Zm (v := Value.bool (m)) rfl rfl ⟨rfl, ?_⟩)
     refine DL_qg rfl rfl (Zf rfl (Zx p)) (Zp F26_3 rfl bx rfl ⟨rfl, ?_⟩)
     refine DL_qg rfl rfl (Zf rfl (Zx p)) (Zn (aE) A24 rfl rfl rfl ⟨rfl, ?_⟩)
     refine DL_qg rfl rfl (Zf rfl (Zx p)) (Zp F56_1 rfl bF rfl ⟨rfl, ?_⟩)
     refine DL_qg rfl rfl (Zf rfl (Zx p)) (Zn ((aE).f3) A3 rfl rfl rfl ⟨rfl, ?_⟩)
     obtain ⟨o2, jt, av⟩ := Zg av
     refine DL_qg rfl rfl (Zf rfl (Zx p)) (Exec.index_repE S24 rfl rfl rfl (a2.mono (Zt (Zt (Zt (Zt (Zt (Zt u x) aj) ak) al) am) ag)) jt ?_)
     intro kB lX eC eD
     refine ⟨rfl, ?_⟩
     refine DL_qg rfl rfl (Zf rfl (Zx p)) (Zp F63_3 rfl rfl rfl ⟨rfl, ?_⟩)
     refine DL_qg rfl rfl (Zf rfl (Zx p)) (Exec.load_atR (E := (encSlice encFact)) aE A23 rfl rfl rfl (eC.sub (Sub.iso (Sub.snd (Sub.snd (Sub.snd (Sub.fst (Sub.refl _)) rfl) rfl) rfl)) rfl) ?_)
     intro nb ju eE
     have jJ := encSlice_val.1 ju
     refine ⟨rfl, ?_⟩
     refine DL_eg rfl rfl (Zf rfl (Zx p)) (Tc rfl rfl rfl (Zi rfl (Zi rfl args_nil)) (ref55_Writes_sim (ref55_Writes_tot ks m) aE jE jF jG jH jI).r ?_)
     rintro nc nR ⟨m2, _, c7, bA, rfl, jK⟩
     refine ⟨(ag_cons (ag_g rfl rfl (Zf rfl (Zx p)) (Zp F26_3 rfl bx rfl ⟨rfl, rfl⟩)) (ag_cons (ag_g rfl rfl (Zf rfl (Zx p)) (Zn (bA) A24 rfl rfl rfl ⟨rfl, rfl⟩)) (ag_cons (ag_g rfl rfl (Zf rfl (Zx p)) (Zp F56_1 rfl bF rfl ⟨rfl, rfl⟩)) (ag_cons (ag_g rfl rfl (Zf rfl (Zx p)) (Zn ((bA).f3) A3 rfl rfl rfl ⟨rfl, rfl⟩)) (ag_cons (ag_g rfl rfl (Zf rfl (Zx p)) (Exec.index_run rfl rfl rfl eD ⟨rfl, rfl⟩)) (ag_cons (ag_g rfl rfl (Zf rfl (Zx p)) (Zp F63_3 rfl rfl rfl ⟨rfl, rfl⟩)) (ag_cons (ag_g rfl rfl (Zf rfl (Zx p)) (Exec.load_run rfl rfl (eE c7 bA) ⟨rfl, rfl⟩)) ag_nil))))))), ?_⟩
     obtain ⟨kz, jv, av⟩ := Zg av
     refine DL_eg rfl rfl (Zf rfl (Zx p)) (Tc rfl rfl rfl (Zi rfl (Zi rfl args_nil)) (ref57_common_sim jv bA jK (jJ.mono c7)).r ?_)
     rintro _ nS ⟨jY, gH, fT, rfl⟩
     refine ⟨ag_nil, ?_⟩
     refine DL_qg rfl rfl (Zf rfl (Zx p)) (Exec.not rfl rfl ⟨rfl, ?_⟩)
     refine DL_q rfl rfl (Exec.pick_f (v := Value.bool (!kz)) rfl (Zx p) rfl ⟨rfl, ?_⟩)
     refine DL_done (Zb (Ze ?_))
     have kZ := Zu av
     subst b3
     exact ⟨jY, (Zt c7 gH), (((((fT).f4).f4).f4).f4).f4, bx, dI, dJ, cH, bF, cI, cJ, rfl, dK, dL, dM, dN, dO, dP, cK, cL, cm, rfl⟩
    intro l1 nT fg
    obtain ⟨jZ, an, bf, aH, bG, bH, aT, aI, aU, aV, bI, bJ, bK, bL, bM, bN, bO, bP, bQ, bR, dQ⟩ := fg
    refine (Ze ?_)
    rcases ite_some ap with ⟨bj, ap⟩ | ⟨bj, ap⟩
    ·refine W_cond_t dQ bj (W_exit (at_exit (ib_here (Ze (Zd (Za rfl rfl (Exec.add rfl bR rfl (Za rfl rfl (Zm (v := Vi (IntKind.i64.wrap ((bq : Int) + 1))) rfl rfl (Zb (Ze ?_)))))))))))
     have la := Zu ap
     subst el
     exact ⟨jZ, az, (Zt ag an), (((((bf).f4).f4).f4).f4).f4, aH, bG, bH, aT, aI, aU, aV, bJ, bK, bL, bM, bN, bO, bP, bQ, (Eq.trans rfl (wrap_up dn (SliceRep.le cb)))⟩
    refine W_cond_f dQ bj ?_
    replace bj := Zk bj
    refine W_skip (Ze (Zc (W_dl (n0 := 7) (qs 0 3 (.q 4 (.q 5 (.e 3 [4, 5] (.q 6 .done))))) hmix (by kernel_rfl) (by kernel_rfl) (DL_q rfl rfl (Exec.load_box_agg (ds := [aa, ab, ac, ad]) (bf.drew) A26 rfl aH rfl ⟨rfl, ?_⟩)))))
    refine DL_q rfl rfl (Exec.load_box_agg (ds := [Vi (ah.At), Vi (ah.Job)]) ((bf.drew).f4) A56 rfl aV rfl ⟨rfl, ?_⟩)
    refine DL_q rfl rfl (Zm (v := Value.bool (m)) rfl bI ⟨rfl, ?_⟩)
    refine DL_q rfl rfl (Zp F56_0 rfl aI rfl ⟨rfl, ?_⟩)
    refine DL_q rfl rfl (Zn ((bf.drew).f3) A3 rfl rfl rfl ⟨rfl, ?_⟩)
    obtain ⟨o7, jw, ap⟩ := Zg ap
    refine DL_e rfl rfl (Tc rfl rfl rfl (Zi rfl (Zi rfl (Zi rfl args_nil))) (ref57_at_sim jw bf.drew (bc.mono (Zt (Zt (Zt (Zt (Zt (Zt (Zt u x) aj) ak) al) am) ag) an)) (bd.mono (Zt (Zt (Zt (Zt (Zt (Zt (Zt u x) aj) ak) al) am) ag) an)) (be.mono (Zt (Zt (Zt (Zt (Zt (Zt (Zt u x) aj) ak) al) am) ag) an)) (a2.mono (Zt (Zt (Zt (Zt (Zt (Zt (Zt u x) aj) ak) al) am) ag) an))).r ?_)
    rintro _ nU ⟨ka, aA, aM, rfl⟩
    refine ⟨(ag_cons (ag_r rfl rfl (Zp F56_0 rfl aI rfl ⟨rfl, rfl⟩)) (ag_cons (ag_r rfl rfl (Zn ((aM).f3) A3 rfl rfl rfl ⟨rfl, rfl⟩)) ag_nil)), ?_⟩
    refine DL_q rfl rfl (Exec.leq rfl rfl rfl ⟨rfl, ?_⟩)
    refine DL_done (Zb (Ze ?_))
    obtain ⟨bt, aq, ap⟩ := Zg ap
    refine W_mid (M := fun f' w' => (fun (bt : (List Bound)) => ∃ (eo : PHeap) (ce : Value), PHeap.le ka eo ∧ St w0 eo (Res.box y 26 [aa, ab, ac, ad] :: Res.arr encLaunch 56 d n :: Res.arr encBound 49 ce bt :: Res.box a3 56 [Vi (af.At), Vi (af.Job)] :: Res.box aC 56 [Vi (ah.At), Vi (ah.Job)] :: H) w' ∧ f' 2 = Value.pointer (some ⟨y, 0, none⟩) ∧ f' 6 = d ∧ f' 7 = ce ∧ f' 18 = Vi ((g : Int)) ∧ f' 19 = Value.pointer (some ⟨a3, 0, none⟩) ∧ f' 20 = Vi ((j : Int)) ∧ f' 21 = Value.pointer (some ⟨aC, 0, none⟩) ∧ f' 144 = d ∧ f' 145 = Vi ((n.length : Int)) ∧ f' 146 = Vi ((g : Int)) ∧ f' 151 = d ∧ f' 152 = Vi ((n.length : Int)) ∧ f' 153 = Vi ((j : Int)) ∧ f' 158 = Value.slice (some ⟨b4, 0, none⟩) 2 2 ∧ f' 159 = Vi (([false, true].length : Int)) ∧ f' 160 = Vi ((bq : Int))) bt) ?_ ?_
    ·rcases ite_some aq with ⟨bk, aq⟩ | ⟨bk, aq⟩
     ·refine W_cond_t rfl bk (Zd (Za rfl rfl (Zm (v := az) rfl bH (Za rfl rfl (Zm (v := Vi ((g : Int))) rfl aT (Za rfl rfl (Tc rfl rfl rfl (Zi rfl (Zi rfl args_nil)) (ref57_point_sim (ref57_point_tot (g : Int) false) aM ).r ?_)))))))
      rintro _ nV ⟨m3, gI, fU, rfl⟩
      refine Za rfl rfl (Zm (v := Vi ((j : Int))) rfl aU (Za rfl rfl (Zm (v := Value.bool (m)) rfl bI (Za rfl rfl (Tc rfl rfl rfl (Zi rfl (Zi rfl args_nil)) (ref57_point_sim (ref57_point_tot (j : Int) m) fU ).r ?_)))))
      rintro _ nW ⟨m4, gJ, fV, rfl⟩
      refine Za rfl rfl (Tc rfl rfl rfl (Zi rfl (Zi rfl (Zi rfl args_nil))) (ref57_after_sim (ref57_after_tot (ref57_point_t (g : Int) false) (ref57_point_t (j : Int) m) 0) fV ).r ?_)
      rintro _ nX ⟨kb, gK, fW, rfl⟩
      refine Za rfl rfl (Exec.buildSlice (Te := 49) (cs := [Vi ((ref57_after_t (ref57_point_t (g : Int) false) (ref57_point_t (j : Int) m) 0).A), Vi ((ref57_after_t (ref57_point_t (g : Int) false) (ref57_point_t (j : Int) m) 0).B), Vi ((ref57_after_t (ref57_point_t (g : Int) false) (ref57_point_t (j : Int) m) 0).Most)]) fW rfl (parts_cons (c := [Vi ((ref57_after_t (ref57_point_t (g : Int) false) (ref57_point_t (j : Int) m) 0).A), Vi ((ref57_after_t (ref57_point_t (g : Int) false) (ref57_point_t (j : Int) m) 0).B), Vi ((ref57_after_t (ref57_point_t (g : Int) false) (ref57_point_t (j : Int) m) 0).Most)]) (cells_of rfl rfl) parts_nil) (fun _ => by kernel_rfl) ?_)
      intro kC nY fX
      obtain ⟨lO, jx, aq⟩ := Zg aq
      refine Za rfl rfl (Exec.append_box (E := encBound) (ys := [(ref57_after_t (ref57_point_t (g : Int) false) (ref57_point_t (j : Int) m) 0)]) (fX).f3 S42 Z49 rfl (by decide) rfl rfl rfl rfl ⟨[Vi ((ref57_after_t (ref57_point_t (g : Int) false) (ref57_point_t (j : Int) m) 0).A), Vi ((ref57_after_t (ref57_point_t (g : Int) false) (ref57_point_t (j : Int) m) 0).B), Vi ((ref57_after_t (ref57_point_t (g : Int) false) (ref57_point_t (j : Int) m) 0).Most)], [], rfl, ⟨[Vi ((ref57_after_t (ref57_point_t (g : Int) false) (ref57_point_t (j : Int) m) 0).A)], [Vi ((ref57_after_t (ref57_point_t (g : Int) false) (ref57_point_t (j : Int) m) 0).B), Vi ((ref57_after_t (ref57_point_t (g : Int) false) (ref57_point_t (j : Int) m) 0).Most)], rfl, rfl, ⟨[Vi ((ref57_after_t (ref57_point_t (g : Int) false) (ref57_point_t (j : Int) m) 0).B)], [Vi ((ref57_after_t (ref57_point_t (g : Int) false) (ref57_point_t (j : Int) m) 0).Most)], rfl, rfl, rfl⟩⟩, rfl⟩ rfl jx ?_)
      intro e2 nZ fY
      refine Za rfl rfl (Zo (v := e2) rfl rfl (Zb (Ze ?_)))
      have lb := Zu aq
      subst bt
      exact ⟨kb, e2, (Zt (Zt gI gJ) gK), (((((fY).f4).f4).f2).f4).f4, aH, bG, rfl, aT, aI, aU, aV, bJ, bK, bL, bM, bN, bO, bP, bQ, bR⟩
     refine W_cond_f rfl bk ?_
     replace bk := Zk bk
     refine Zc (W_dl (n0 := 8) (qs 0 3 (.q 4 (.q 5 (.e 3 [4, 5] (.e 6 [] (.q 7 .done)))))) hmix (by kernel_rfl) (by kernel_rfl) (DL_q rfl rfl (Exec.load_box_agg (ds := [aa, ab, ac, ad]) (aM.drew) A26 rfl aH rfl ⟨rfl, ?_⟩)))
     refine DL_q rfl rfl (Exec.load_box_agg (ds := [Vi (ah.At), Vi (ah.Job)]) ((aM.drew).f4) A56 rfl aV rfl ⟨rfl, ?_⟩)
     refine DL_q rfl rfl (Zm (v := Value.bool (m)) rfl bI ⟨rfl, ?_⟩)
     refine DL_q rfl rfl (Exec.load_box_agg (ds := [aa, ab, ac, ad]) (aM.drew) A26 rfl aH rfl ⟨rfl, ?_⟩)
     refine DL_q rfl rfl (Exec.load_box_agg (ds := [Vi (af.At), Vi (af.Job)]) ((aM.drew).f3) A56 rfl aI rfl ⟨rfl, ?_⟩)
     obtain ⟨o8, jy, aq⟩ := Zg aq
     refine DL_e rfl rfl (Tc rfl rfl rfl (Zi rfl (Zi rfl (Zi rfl args_nil))) (ref57_at_sim jy aM.drew (bc.mono (Zt (Zt (Zt (Zt (Zt (Zt (Zt (Zt u x) aj) ak) al) am) ag) an) aA)) (bd.mono (Zt (Zt (Zt (Zt (Zt (Zt (Zt (Zt u x) aj) ak) al) am) ag) an) aA)) (be.mono (Zt (Zt (Zt (Zt (Zt (Zt (Zt (Zt u x) aj) ak) al) am) ag) an) aA)) (a2.mono (Zt (Zt (Zt (Zt (Zt (Zt (Zt (Zt u x) aj) ak) al) am) ag) an) aA))).r ?_)
     rintro _ oa ⟨m5, bu, cz, rfl⟩
     refine ⟨(ag_cons (ag_r rfl rfl (Exec.load_box_agg (ds := [aa, ab, ac, ad]) (cz) A26 rfl aH rfl ⟨rfl, rfl⟩)) (ag_cons (ag_r rfl rfl (Exec.load_box_agg (ds := [Vi (af.At), Vi (af.Job)]) ((cz).f3) A56 rfl aI rfl ⟨rfl, rfl⟩)) ag_nil)), ?_⟩
     obtain ⟨o9, jz, aq⟩ := Zg aq
     refine DL_e rfl rfl (Tc rfl rfl rfl (Zi rfl (Zi rfl args_nil)) (ref55_End_sim jz cz (bc.mono (Zt (Zt (Zt (Zt (Zt (Zt (Zt (Zt (Zt u x) aj) ak) al) am) ag) an) aA) bu)) (bd.mono (Zt (Zt (Zt (Zt (Zt (Zt (Zt (Zt (Zt u x) aj) ak) al) am) ag) an) aA) bu)) (be.mono (Zt (Zt (Zt (Zt (Zt (Zt (Zt (Zt (Zt u x) aj) ak) al) am) ag) an) aA) bu)) (a2.mono (Zt (Zt (Zt (Zt (Zt (Zt (Zt (Zt (Zt u x) aj) ak) al) am) ag) an) aA) bu))).r ?_)
     rintro _ ob ⟨ep, gL, di, rfl⟩
     refine ⟨ag_nil, ?_⟩
     refine DL_q rfl rfl (Exec.geq rfl rfl rfl ⟨rfl, ?_⟩)
     refine DL_done (Zb (Ze ?_))
     obtain ⟨bv, aR, aq⟩ := Zg aq
     refine W_mid (M := fun f' w' => (fun (bv : (List Bound)) => ∃ (er : PHeap) (cf : Value), PHeap.le ep er ∧ St w0 er (Res.box y 26 [aa, ab, ac, ad] :: Res.arr encLaunch 56 d n :: Res.arr encBound 49 cf bv :: Res.box a3 56 [Vi (af.At), Vi (af.Job)] :: Res.box aC 56 [Vi (ah.At), Vi (ah.Job)] :: H) w' ∧ f' 2 = Value.pointer (some ⟨y, 0, none⟩) ∧ f' 6 = d ∧ f' 7 = cf ∧ f' 18 = Vi ((g : Int)) ∧ f' 19 = Value.pointer (some ⟨a3, 0, none⟩) ∧ f' 20 = Vi ((j : Int)) ∧ f' 21 = Value.pointer (some ⟨aC, 0, none⟩) ∧ f' 144 = d ∧ f' 145 = Vi ((n.length : Int)) ∧ f' 146 = Vi ((g : Int)) ∧ f' 151 = d ∧ f' 152 = Vi ((n.length : Int)) ∧ f' 153 = Vi ((j : Int)) ∧ f' 158 = Value.slice (some ⟨b4, 0, none⟩) 2 2 ∧ f' 159 = Vi (([false, true].length : Int)) ∧ f' 160 = Vi ((bq : Int))) bv) ?_ ?_
     ·rcases ite_some aR with ⟨bl, aR⟩ | ⟨bl, aR⟩
      ·refine W_cond_t rfl bl (Zd (Za rfl rfl (Zm (v := az) rfl bH (Za rfl rfl (Zm (v := Vi ((j : Int))) rfl aU (Za rfl rfl (Zm (v := Value.bool (m)) rfl bI (Za rfl rfl (Tc rfl rfl rfl (Zi rfl (Zi rfl args_nil)) (ref57_point_sim (ref57_point_tot (j : Int) m) di ).r ?_)))))))))
       rintro _ oc ⟨m6, gM, fZ, rfl⟩
       refine Za rfl rfl (Zm (v := Vi ((g : Int))) rfl aT (Za rfl rfl (Tc rfl rfl rfl (Zi rfl (Zi rfl args_nil)) (ref57_point_sim (ref57_point_tot (g : Int) true) fZ ).r ?_)))
       rintro _ od ⟨m7, gN, ga, rfl⟩
       refine Za rfl rfl (Tc rfl rfl rfl (Zi rfl (Zi rfl (Zi rfl args_nil))) (ref57_after_sim (ref57_after_tot (ref57_point_t (j : Int) m) (ref57_point_t (g : Int) true) 0) ga ).r ?_)
       rintro _ oe ⟨kc, gO, gb, rfl⟩
       refine Za rfl rfl (Exec.buildSlice (Te := 49) (cs := [Vi ((ref57_after_t (ref57_point_t (j : Int) m) (ref57_point_t (g : Int) true) 0).A), Vi ((ref57_after_t (ref57_point_t (j : Int) m) (ref57_point_t (g : Int) true) 0).B), Vi ((ref57_after_t (ref57_point_t (j : Int) m) (ref57_point_t (g : Int) true) 0).Most)]) gb rfl (parts_cons (c := [Vi ((ref57_after_t (ref57_point_t (j : Int) m) (ref57_point_t (g : Int) true) 0).A), Vi ((ref57_after_t (ref57_point_t (j : Int) m) (ref57_point_t (g : Int) true) 0).B), Vi ((ref57_after_t (ref57_point_t (j : Int) m) (ref57_point_t (g : Int) true) 0).Most)]) (cells_of rfl rfl) parts_nil) (fun _ => by kernel_rfl) ?_)
       intro kD og gc
       obtain ⟨lP, j0, aR⟩ := Zg aR
       refine Za rfl rfl (Exec.append_box (E := encBound) (ys := [(ref57_after_t (ref57_point_t (j : Int) m) (ref57_point_t (g : Int) true) 0)]) (gc).f3 S42 Z49 rfl (by decide) rfl rfl rfl rfl ⟨[Vi ((ref57_after_t (ref57_point_t (j : Int) m) (ref57_point_t (g : Int) true) 0).A), Vi ((ref57_after_t (ref57_point_t (j : Int) m) (ref57_point_t (g : Int) true) 0).B), Vi ((ref57_after_t (ref57_point_t (j : Int) m) (ref57_point_t (g : Int) true) 0).Most)], [], rfl, ⟨[Vi ((ref57_after_t (ref57_point_t (j : Int) m) (ref57_point_t (g : Int) true) 0).A)], [Vi ((ref57_after_t (ref57_point_t (j : Int) m) (ref57_point_t (g : Int) true) 0).B), Vi ((ref57_after_t (ref57_point_t (j : Int) m) (ref57_point_t (g : Int) true) 0).Most)], rfl, rfl, ⟨[Vi ((ref57_after_t (ref57_point_t (j : Int) m) (ref57_point_t (g : Int) true) 0).B)], [Vi ((ref57_after_t (ref57_point_t (j : Int) m) (ref57_point_t (g : Int) true) 0).Most)], rfl, rfl, rfl⟩⟩, rfl⟩ rfl j0 ?_)
       intro e3 oh gd
       refine Za rfl rfl (Zo (v := e3) rfl rfl (Zb (Ze ?_)))
       have lc := Zu aR
       subst bv
       exact ⟨kc, e3, (Zt (Zt gM gN) gO), (((((gd).f4).f4).f2).f4).f4, aH, bG, rfl, aT, aI, aU, aV, bJ, bK, bL, bM, bN, bO, bP, bQ, bR⟩
      refine W_cond_f rfl bl ?_
      replace bl := Zk bl
      refine W_skip (Ze ?_)
      have ld := Zu aR
      subst bv
      exact ⟨ep, az, (Zv _), (((((di).f4).f4).f4).f4).f4, aH, bG, bH, aT, aI, aU, aV, bJ, bK, bL, bM, bN, bO, bP, bQ, bR⟩
     intro l2 oi fh
     obtain ⟨kd, cf, gP, gf, hO, hP, hQ, hR, hT, hU, hV, hW, hX, hY, hZ, ia, ib, ic, ie, ig⟩ := fh
     refine (Ze ?_)
     have lf := Zu aq
     subst bt
     exact ⟨kd, cf, (Zt (Zt bu gL) gP), (((((gf).f4).f4).f4).f4).f4, hO, hP, hQ, hR, hT, hU, hV, hW, hX, hY, hZ, ia, ib, ic, ie, ig⟩
    intro l3 oj fi
    obtain ⟨ke, ce, gQ, gg, ih, ii, ij, ik, il, im, io, ip, iq, ir, it, iu, iv, iw, ix, iy⟩ := fi
    refine (ib_normal (Ze (Zd (Za rfl rfl (Exec.add rfl iy rfl (Za rfl rfl (Zm (v := Vi (IntKind.i64.wrap ((bq : Int) + 1))) rfl rfl (Zb (Ze ?_)))))))))
    have lg := Zu ap
    subst el
    exact ⟨ke, ce, (Zt (Zt (Zt ag an) aA) gQ), (((((gg).f4).f4).f4).f4).f4, ih, ii, ij, ik, il, im, io, ip, iq, ir, it, iu, iv, iw, ix, (Eq.trans rfl (wrap_up dn (SliceRep.le cb)))⟩
   intro l4 ok eY
   obtain ⟨kf, az, gR, gh, iz, i0, i1, i2, i3, me, mf, i4, i5, i6, i7, i8, i9, mg, iA, kt⟩ := eY
   refine Zc (Zd (Za rfl rfl (Zq rfl kt iA (Zb (Ze (Zc (W_false (Zx (decide_eq_false (by omega))) (W_exit (at_exit (at_exit (ib_here (ib_normal (Ze (Zd (Za rfl rfl (Exec.add rfl i9 rfl (Za rfl rfl (Zm (v := Vi (IntKind.i64.wrap ((j : Int) + 1))) rfl rfl (Zb (Ze ?_))))))))))))))))))))
   have lh := Zu bp
   subst jX
   exact ⟨kf, az, (Zt (Zt al am) gR), ((((((gh).f4).drop).f3).f3).f3).f3, iz, i0, i1, i2, i3, i4, i5, i6, i7, i8, (Eq.trans rfl (wrap_up gz ((cx).f2).arr_le))⟩
  intro l5 ol eZ
  obtain ⟨kg, ba, gS, gi, iB, iC, iD, mh, mi, iE, iF, iG, mj, iH, ku⟩ := eZ
  refine Zc (Zd (Za rfl rfl (Zq rfl ku iH (Zb (Ze (Zc (W_false (Zx (decide_eq_false (by omega))) (W_exit (at_exit (at_exit (ib_here (ib_normal (Ze (Zd (Za rfl rfl (Exec.add rfl iG rfl (Za rfl rfl (Zm (v := Vi (IntKind.i64.wrap ((g : Int) + 1))) rfl rfl (Zb (Ze ?_))))))))))))))))))))
  have li := Zu bo
  subst jW
  exact ⟨kg, ba, (Zt ak gS), (((((gi).f3).drop).f2).f2).f2, iB, iC, iD, iE, iF, (Eq.trans rfl (wrap_up gy ((cv).f1).arr_le))⟩
 intro l6 om fa
 obtain ⟨et, aZ, gT, c0, mk, dR, iI, ml, iJ, kv⟩ := fa
 refine Zc (Zd (Za rfl rfl (Zq rfl kv iJ (Zb (Ze (Zc (W_false (Zx (decide_eq_false (by omega))) (W_exit (at_exit (at_exit (ib_here (Ze (Zc (Zc (Zd (Za rfl rfl (Zm (v := d) rfl dR (Za rfl rfl (Exec.len_arr ((c0).f1) S27 rfl rfl (Za rfl rfl (Zm (v := Vi (0)) rfl rfl (Zb (Ze ?_)))))))))))))))))))))))
 obtain ⟨c8, eM, hm⟩ := Zg hm
 refine W_block (W_forS (fun k' s' f' w' => (fun (c8 : (List Bound)) => ∃ (eu : PHeap) (aK : Value), PHeap.le et eu ∧ St w0 eu (Res.arr encLaunch 56 d n :: Res.arr encBound 49 aK c8 :: H) w' ∧ f' 6 = d ∧ f' 7 = aK ∧ f' 222 = d ∧ f' 223 = Vi ((n.length : Int)) ∧ f' 224 = Vi (k' : Int)) s') eM ?_ ?_ ?_)
 ·have gj := (c0).drop
  exact ⟨et, aZ, (Zv _), ((gj).f1).f1, dR, iI, rfl, rfl, rfl⟩
 ·intro t c8 kh l7 on g0 fb aQ
  obtain ⟨cR, aK, gU, c1, iK, iL, dS, dT, cn⟩ := fb
  refine Zc (Zd (Za rfl rfl (Zq rfl cn dT (Zb (Ze (Zc (W_true (Zx (decide_eq_true (by omega))) (W_skip (Ze (Zc (W_block (Zc (Zd (Za rfl rfl (Zm (v := Vi ((t : Int))) rfl cn ?_)))))))))))))))
  obtain ⟨aL, bY, aQ⟩ := Zg aQ
  obtain ⟨lH, kL, dc⟩ := (c1).arr_at bY
  refine Za rfl rfl (Exec.index_slice S27 rfl (Eq.trans dS dc) cn (idx_some bY).1 (idx_some bY).2.1 (Za rfl rfl (Exec.load_arr (F := encLaunch) (c1) dc A56 rfl rfl rfl bY (Sub.refl _) ?_)))
  intro nd j1
  obtain rfl := encLaunch_val.1 j1
  refine Za rfl rfl (Exec.alloc (cs := [Vi (0), Vi (0)]) c1 Z56 rfl rfl ?_)
  intro b5 oo gk
  refine Za rfl rfl (Zo (v := Vi ((t : Int))) rfl rfl (Za rfl rfl (Exec.store_box (ds := [Vi (aL.At), Vi (aL.Job)]) (es := [Vi (aL.At), Vi (aL.Job)]) gk A56 rfl rfl rfl rfl (Zj rfl (Zj rfl one_nil)) (Nat.le_of_ble_eq_true rfl) rfl ?_)))
  intro op gl
  refine Zb (Ze (Zc (Zd (Za rfl rfl (Zm (v := Vi ((t : Int))) rfl rfl (Za rfl rfl (Exec.add rfl rfl rfl (Za rfl rfl (Zo (v := Vi (IntKind.i64.wrap ((t : Int) + 1))) rfl rfl (Zb (Ze ?_)))))))))))
  obtain ⟨cW, eN, lK, g2, gv⟩ := ctl_some aQ
  refine W_mid (M := fun f' w' => ∃ s', (cW = .next s' ∨ cW = .brk s') ∧ (un2 fun (dr : Int) (dw : (List Bound)) => ∃ (ev : PHeap) (cg : Value), PHeap.le cR ev ∧ St w0 ev (Res.arr encLaunch 56 d n :: Res.arr encBound 49 cg dw :: Res.box b5 56 [Vi (aL.At), Vi (aL.Job)] :: H) w' ∧ f' 6 = d ∧ f' 7 = cg ∧ f' 24 = Vi ((t : Int)) ∧ f' 25 = Value.pointer (some ⟨b5, 0, none⟩) ∧ f' 26 = Vi (dr) ∧ f' 222 = d ∧ f' 223 = Vi ((n.length : Int)) ∧ f' 224 = Vi ((t : Int))) s') ?_ ?_
  ·refine W_block (W_while (fun s' f' w' => (un2 fun (z : Int) (dx : (List Bound)) => ∃ (ew : PHeap) (bb : Value), PHeap.le cR ew ∧ St w0 ew (Res.arr encLaunch 56 d n :: Res.arr encBound 49 bb dx :: Res.box b5 56 [Vi (aL.At), Vi (aL.Job)] :: H) w' ∧ f' 6 = d ∧ f' 7 = bb ∧ f' 24 = Vi ((t : Int)) ∧ f' 25 = Value.pointer (some ⟨b5, 0, none⟩) ∧ f' 26 = Vi (z) ∧ f' 222 = d ∧ f' 223 = Vi ((n.length : Int)) ∧ f' 224 = Vi ((t : Int))) s') eN ?_ ?_)
   ·have gm := (gl).f2
    exact ⟨cR, aK, (Zv _), (gm).f2, iK, iL, rfl, rfl, rfl, dS, dT, cn⟩
   intro kn co l8 oq fc ai dp
   obtain ⟨z, dx⟩ := kn
   replace ai := un2_eq ai
   obtain ⟨ex, bb, c9, aN, bz, cM, bS, bT, aW, cN, cO, cP⟩ := fc
   refine Zc (Zc (Zd (Za rfl rfl (Zm (v := Vi (z)) rfl aW (Za rfl rfl (Zm (v := d) rfl bz (Za rfl rfl (Exec.len_arr (aN) S27 rfl rfl (Za rfl rfl (Zq rfl rfl rfl (Zb (Ze ?_))))))))))))
   rcases ite_some ai with ⟨bm, ai⟩ | ⟨bm, ai⟩
   ·refine W_cond_t rfl bm (W_skip (Ze (Zc (W_block (Zc (W_dl (n0 := 8) (qs 0 8 .done) hmix (by kernel_rfl) (by kernel_rfl) (DL_q rfl rfl (Zm (v := d) rfl bz ⟨rfl, ?_⟩))))))))
    refine DL_q rfl rfl (Zm (v := Vi (z)) rfl aW ⟨rfl, ?_⟩)
    obtain ⟨o3, bZ, ai⟩ := Zg ai
    obtain ⟨lI, kM, dd⟩ := (aN.drew).arr_at bZ
    refine DL_q rfl rfl (Exec.index_slice S27 rfl dd rfl (idx_some bZ).1 (idx_some bZ).2.1 ⟨rfl, ?_⟩)
    refine DL_q rfl rfl (Zp F56_1 rfl rfl rfl ⟨rfl, ?_⟩)
    refine DL_q rfl rfl (Exec.load_arr (F := (encInt .i64)) (aN.drew) dd A3 rfl rfl rfl bZ (Sub.iso (Sub.snd (Sub.refl _) rfl)) ?_)
    intro nf j2
    obtain rfl := encInt_val.1 j2
    refine ⟨rfl, ?_⟩
    refine DL_q rfl rfl (Zp F56_1 rfl bT rfl ⟨rfl, ?_⟩)
    refine DL_q rfl rfl (Zn ((aN.drew).f2) A3 rfl rfl rfl ⟨rfl, ?_⟩)
    refine DL_q rfl rfl (Exec.eql rfl rfl rfl ⟨rfl, ?_⟩)
    refine DL_done (Zb (Ze ?_))
    rcases ite_some ai with ⟨bn, ai⟩ | ⟨bn, ai⟩
    ·refine W_cond_t rfl bn (Zc (Zd (Za rfl rfl (Zm (v := bb) rfl cM (Za rfl rfl (Zm (v := Vi (z)) rfl aW (Za rfl rfl (Tc rfl rfl rfl (Zi rfl (Zi rfl args_nil)) (ref57_point_sim (ref57_point_tot z false) aN.drew ).r ?_))))))))
     rintro _ os ⟨m8, gV, gn, rfl⟩
     refine Za rfl rfl (Zm (v := Vi ((t : Int))) rfl bS (Za rfl rfl (Tc rfl rfl rfl (Zi rfl (Zi rfl args_nil)) (ref57_point_sim (ref57_point_tot (t : Int) true) gn ).r ?_)))
     rintro _ ot ⟨m9, gW, go, rfl⟩
     refine Za rfl rfl (Tc rfl rfl rfl (Zi rfl (Zi rfl (Zi rfl args_nil))) (ref57_after_sim (ref57_after_tot (ref57_point_t z false) (ref57_point_t (t : Int) true) 1) go ).r ?_)
     rintro _ ou ⟨ki, gX, gp, rfl⟩
     refine Za rfl rfl (Exec.buildSlice (Te := 49) (cs := [Vi ((ref57_after_t (ref57_point_t z false) (ref57_point_t (t : Int) true) 1).A), Vi ((ref57_after_t (ref57_point_t z false) (ref57_point_t (t : Int) true) 1).B), Vi ((ref57_after_t (ref57_point_t z false) (ref57_point_t (t : Int) true) 1).Most)]) gp rfl (parts_cons (c := [Vi ((ref57_after_t (ref57_point_t z false) (ref57_point_t (t : Int) true) 1).A), Vi ((ref57_after_t (ref57_point_t z false) (ref57_point_t (t : Int) true) 1).B), Vi ((ref57_after_t (ref57_point_t z false) (ref57_point_t (t : Int) true) 1).Most)]) (cells_of rfl rfl) parts_nil) (fun _ => by kernel_rfl) ?_)
     intro kE ov gq
     obtain ⟨lQ, j3, ai⟩ := Zg ai
     refine Za rfl rfl (Exec.append_box (E := encBound) (ys := [(ref57_after_t (ref57_point_t z false) (ref57_point_t (t : Int) true) 1)]) (gq).f2 S42 Z49 rfl (by decide) rfl rfl rfl rfl ⟨[Vi ((ref57_after_t (ref57_point_t z false) (ref57_point_t (t : Int) true) 1).A), Vi ((ref57_after_t (ref57_point_t z false) (ref57_point_t (t : Int) true) 1).B), Vi ((ref57_after_t (ref57_point_t z false) (ref57_point_t (t : Int) true) 1).Most)], [], rfl, ⟨[Vi ((ref57_after_t (ref57_point_t z false) (ref57_point_t (t : Int) true) 1).A)], [Vi ((ref57_after_t (ref57_point_t z false) (ref57_point_t (t : Int) true) 1).B), Vi ((ref57_after_t (ref57_point_t z false) (ref57_point_t (t : Int) true) 1).Most)], rfl, rfl, ⟨[Vi ((ref57_after_t (ref57_point_t z false) (ref57_point_t (t : Int) true) 1).B)], [Vi ((ref57_after_t (ref57_point_t z false) (ref57_point_t (t : Int) true) 1).Most)], rfl, rfl, rfl⟩⟩, rfl⟩ rfl j3 ?_)
     intro e4 ow gr
     refine Za rfl rfl (Zo (v := e4) rfl rfl (Zb (Ze (W_exit (ib_exit rfl (at_exit (at_exit (ib_here (Ze ?_)))))))))
     have lj := Zu ai
     subst co
     refine ⟨_, .inr (dp (by intro _ h; cases h)), ?_⟩; exact ⟨ki, e4, (Zt (Zt (Zt c9 gV) gW) gX), (((gr).f2).f1).f2, bz, rfl, bS, bT, aW, cN, cO, cP⟩
    refine W_cond_f rfl bn ?_
    replace bn := Zk bn
    refine W_skip (ib_normal (Ze (Zd (Za rfl rfl (Zm (v := Vi (z)) rfl aW (Za rfl rfl (Exec.add rfl rfl rfl (Za rfl rfl (Zo (v := Vi (IntKind.i64.wrap (z + 1))) rfl rfl (Zb (Ze ?_)))))))))))
    have lk := Zu ai
    subst co
    refine ⟨_, rfl, ?_⟩; exact ⟨ex, bb, c9, (((aN.drew).f2).f2).f2, bz, cM, bS, bT, rfl, cN, cO, cP⟩
   refine W_cond_f rfl bm ?_
   replace bm := Zk bm
   refine W_exit (at_exit (at_exit (ib_here (Ze ?_))))
   have ll := Zu ai
   subst co
   refine ⟨_, .inr (dp (by intro _ h; cases h)), ?_⟩; exact ⟨ex, bb, c9, (((aN).f2).f2).f2, bz, cM, bS, bT, aW, cN, cO, cP⟩
  rintro l9 ox ⟨ko, dl, fj⟩
  have aQ := dl.elim (g2 _) (gv _)
  clear dl
  obtain ⟨dr, dw⟩ := ko
  replace aQ := un2_eq aQ
  obtain ⟨kj, cg, gY, gs, iM, iN, mm, mn, mo, iO, iP, iQ⟩ := fj
  refine (ib_normal (Ze (Zd (Za rfl rfl (Exec.add rfl iQ rfl (Za rfl rfl (Zm (v := Vi (IntKind.i64.wrap ((t : Int) + 1))) rfl rfl (Zb (Ze ?_)))))))))
  have lm := Zu aQ
  subst kh
  exact ⟨kj, cg, (Zt gU gY), ((((gs).f2).drop).f1).f1, iM, iN, iO, iP, (Eq.trans rfl (wrap_up g0 ((c0).f1).arr_le))⟩
 intro lA oy fd
 obtain ⟨kk, aK, gZ, dj, iR, iS, mp, iT, kw⟩ := fd
 refine Zc (Zd (Za rfl rfl (Zq rfl kw iT (Zb (Ze (Zc (W_false (Zx (decide_eq_false (by omega))) (W_exit (at_exit (at_exit (ib_here (Ze (Zc (Zd (Za rfl rfl (Zm (v := aK) rfl iS (Za rfl rfl (Zm (v := d) rfl iR (Za rfl rfl (Exec.len_arr (dj) S27 rfl rfl (Za rfl rfl (Exec.mul rfl rfl rfl (Za rfl rfl (Exec.add rfl rfl rfl (Za rfl rfl (Zo (v := aK) rfl rfl (Za rfl rfl (Zo (v := Vi (IntKind.i64.wrap ((IntKind.i64.wrap (2 * (n.length : Int))) + 1))) rfl rfl (Zb (Ze (W_ret ?_)))))))))))))))))))))))))))))))
 have ln := Zu hm
 subst r
 refine ⟨_, ret2 rfl, ?_⟩
 exact ⟨kk, aK, (Zt (Zt (Zt (Zt u x) aj) gT) gZ), (dj).drop, (tup2 rfl rfl)⟩
theorem ref54_Distances_sim {w0 w : World} {s : PHeap} {H : List Res} {a : Int} {aN : (List Bound)} {ak : Value} {r : (List (List Int)) × Bool} (hm : ref54_Distances_p a aN = some r) (hS : St w0 s (H) w) (aM : SliceRep encBound s ak aN) :
  Calls Tryz.prog 36 #[Vi (a), ak] w fun e w' => ∃ v, e = .returned v ∧ ((un2 fun (gu : (List (List Int))) (gv : Bool) => ∃ (bi : PHeap) (db : Value), PHeap.le s bi ∧ St w0 bi (H) w' ∧ v = Value.tuple #[db, Value.bool (gv)] ∧ SliceRep (encSlice (encInt .i64)) bi db gu) r) := by
 unfold ref54_Distances_p at hm
 refine calls_of_W Tryz.func36 rfl rfl (Zc (Zd (Za rfl rfl (Zo (v := Value.slice none 0 0) rfl rfl (Za rfl rfl (Zo (v := Value.bool (false)) rfl rfl (Zb (Ze (Zc (Zd (Za rfl rfl (Zo (v := Value.slice none 0 0) rfl rfl (Zb (Ze (Zc (Zc (Zd (Za rfl rfl (Zm (v := Vi (a)) rfl rfl (Za rfl rfl (Zm (v := Vi (0)) rfl rfl (Zb (Ze ?_)))))))))))))))))))))))
 obtain ⟨io, fw, hm⟩ := Zg hm
 obtain ⟨aU, dd, hm⟩ := Zg hm
 refine W_block (W_forS (fun k' s' f' w' => (fun (aU : (List (List Int))) => ∃ (cL : PHeap) (b : Value) (d : List Value), PHeap.le s cL ∧ St w0 cL (Res.arr encRaw 22 b d :: Res.rows (encInt .i64) 3 d aU :: H) w' ∧ f' 0 = Vi (a) ∧ f' 1 = ak ∧ f' 6 = b ∧ f' 15 = Vi (a) ∧ f' 16 = Vi (k' : Int)) s') dd ?_ ?_ ?_)
 ·have d4 := (hS.rows_nil (encInt .i64) 3).nilArr encRaw 22
  exact ⟨s, (Value.slice none 0 0), [], (Zv _), d4, rfl, rfl, rfl, rfl, rfl⟩
 ·intro ab aU fK gX i3 dS dk i
  obtain ⟨cM, b, d, ek, d5, aV, ez, e0, bZ, bn⟩ := dk
  refine Zc (Zd (Za rfl rfl (Zq rfl bn bZ (Zb (Ze (Zc (W_true (Zx (decide_eq_true (by omega))) (W_skip (Ze (Zc (W_block (Zc (Zd (Za rfl rfl (Zm (v := Vi ((ab : Int))) rfl bn (Za rfl rfl (Zo (v := Vi ((ab : Int))) rfl rfl (Zb (Ze (Zc (Zd (Za rfl rfl (Zm (v := b) rfl e0 (Za rfl rfl (Zm (v := Vi (a)) rfl aV ?_)))))))))))))))))))))))))
  obtain ⟨hH, fx, i⟩ := Zg i
  refine Za rfl rfl (Exec.make (E := (encInt .i64)) d5 S22 Z3 rfl rfl rfl rfl fx ?_)
  intro al i4 bJ
  refine Za rfl rfl (Exec.buildSlice (Te := 22) (cs := [al]) bJ rfl (parts_cons (c := [al]) (cells_of rfl (cells_one (bJ).arr_one)) parts_nil) (fun _ => by kernel_rfl) ?_)
  intro gw i5 d6
  obtain ⟨hI, c5, i⟩ := Zg i
  have aQ := ((((((d6).f1).f1).f3).f3).f2).f1
  refine Za rfl rfl (Exec.append_grid (E := encRaw) (ys := [al]) aQ S79 Z22 rfl (by decide) rfl rfl rfl rfl (reps_one ⟨rfl, ((aQ).f3).arr_one⟩) rfl rfl ((aQ).f2).rows_len c5 ?_)
  intro am i6 d7
  have bK := ((d7).f1.f2.rows_push).f1
  rw [← (app_some c5).2] at bK
  refine Za rfl rfl (Zo (v := am) rfl rfl (Zb (Ze (Zc (Zc (Zd (Za rfl rfl (Zm (v := Vi (a)) rfl aV (Za rfl rfl (Zm (v := Vi (0)) rfl rfl (Zb (Ze ?_))))))))))))
  obtain ⟨ip, fy, i⟩ := Zg i
  obtain ⟨aR, de, i⟩ := Zg i
  refine W_block (W_forS (fun k' s' f' w' => (fun (aR : (List (List Int))) => ∃ (cN : PHeap) , PHeap.le cM cN ∧ St w0 cN (Res.arr encRaw 22 am (d ++ [al]) :: Res.rows (encInt .i64) 3 (d ++ [al]) aR :: H) w' ∧ f' 0 = Vi (a) ∧ f' 1 = ak ∧ f' 6 = am ∧ f' 7 = Vi ((ab : Int)) ∧ f' 15 = Vi (a) ∧ f' 16 = Vi ((ab : Int)) ∧ f' 24 = Vi (a) ∧ f' 25 = Vi (k' : Int)) s') de ?_ ?_ ?_)
  ·exact ⟨cM, (Zv _), bK, aV, ez, rfl, rfl, bZ, bn, rfl, rfl⟩
  ·intro aB aR fL gY i7 dT dl y
   obtain ⟨fM, el, ap, e1, e2, ca, cb, e3, e4, cc, bo⟩ := dl
   refine Zc (Zd (Za rfl rfl (Zq rfl bo cc (Zb (Ze (Zc (W_true (Zx (decide_eq_true (by omega))) (W_skip (Ze (Zc (W_block (Zc (Zd (Za rfl rfl (Zm (v := Vi ((aB : Int))) rfl bo (Za rfl rfl (Zo (v := Vi ((aB : Int))) rfl rfl (Zb (Ze (Zd (Za rfl rfl (Zm (v := am) rfl ca (Za rfl rfl (Zm (v := Vi ((ab : Int))) rfl cb ?_))))))))))))))))))))))))
   obtain ⟨hZ, ba, y⟩ := Zg y
   obtain ⟨h9, a4, aO, _⟩ := ((ap).f1).rows_at ba
   obtain ⟨hq, gz, bx⟩ := (ap).arr_at a4
   refine Za rfl rfl (Exec.index_slice S79 rfl bx rfl (idx_some a4).1 (idx_some a4).2.1 (Za rfl rfl (Exec.load_arr (F := encRaw) (ap) bx A22 rfl rfl rfl a4 (Sub.refl _) ?_)))
   intro fY c6
   replace c6 := (encRaw_val.1 c6).1
   subst fY
   refine Za rfl rfl (Zm (v := Vi ((aB : Int))) rfl rfl ?_)
   obtain ⟨iU, bb, y⟩ := Zg y
   obtain ⟨hr, g0, bz⟩ := (((ap).f1).rows_split aO (idx_some ba).2.2).arr_at bb
   refine Za rfl rfl (Exec.index_slice S22 rfl bz rfl (idx_some bb).1 (idx_some bb).2.1 ?_)
   obtain ⟨hJ, fz, y⟩ := Zg y
   obtain ⟨hK, c7, y⟩ := Zg y
   refine Za rfl rfl (Exec.store_arr (((ap).f1).rows_split aO (idx_some ba).2.2) bz A3 rfl rfl rfl rfl (encInt_val.2 rfl) fz ?_)
   intro i8 d8
   have bL := (d8).rows_back aO (setI_some c7).2.1
   rw [← (setI_some c7).2.2] at bL
   refine Zb (ib_normal (Ze (Zd (Za rfl rfl (Exec.add rfl bo rfl (Za rfl rfl (Zm (v := Vi (IntKind.i64.wrap ((aB : Int) + 1))) rfl rfl (Zb (Ze ?_)))))))))
   have gI := Zu y
   subst fL
   exact ⟨fM, el, (bL).f1, e1, e2, ca, cb, e3, e4, cc, (Eq.trans rfl (wrap_up dT (by have h := must_some fy; simp at h; simp only [maxLen]; omega)))⟩
  intro gZ i9 dm
  obtain ⟨fN, em, aq, e5, e6, cd, ce, e7, e8, e9, gk⟩ := dm
  refine Zc (Zd (Za rfl rfl (Zq rfl gk e9 (Zb (Ze (Zc (W_false (Zx (decide_eq_false (by omega))) (W_exit (at_exit (at_exit (ib_here (Ze (Zd (Za rfl rfl (Zm (v := am) rfl cd (Za rfl rfl (Zm (v := Vi ((ab : Int))) rfl ce ?_)))))))))))))))))
  obtain ⟨ia, bc, i⟩ := Zg i
  obtain ⟨hA, a5, aP, _⟩ := ((aq).f1).rows_at bc
  obtain ⟨hs, g1, b0⟩ := (aq).arr_at a5
  refine Za rfl rfl (Exec.index_slice S79 rfl b0 rfl (idx_some a5).1 (idx_some a5).2.1 (Za rfl rfl (Exec.load_arr (F := encRaw) (aq) b0 A22 rfl rfl rfl a5 (Sub.refl _) ?_)))
  intro fZ c8
  replace c8 := (encRaw_val.1 c8).1
  subst fZ
  refine Za rfl rfl (Zm (v := Vi ((ab : Int))) rfl ce ?_)
  obtain ⟨iV, bd, i⟩ := Zg i
  obtain ⟨ht, g2, b1⟩ := (((aq).f1).rows_split aP (idx_some bc).2.2).arr_at bd
  refine Za rfl rfl (Exec.index_slice S22 rfl b1 rfl (idx_some bd).1 (idx_some bd).2.1 ?_)
  obtain ⟨hL, f0, i⟩ := Zg i
  obtain ⟨hM, c9, i⟩ := Zg i
  refine Za rfl rfl (Exec.store_arr (((aq).f1).rows_split aP (idx_some bc).2.2) b1 A3 rfl rfl rfl rfl (encInt_val.2 rfl) f0 ?_)
  intro iA d9
  have bM := (d9).rows_back aP (setI_some c9).2.1
  rw [← (setI_some c9).2.2] at bM
  refine Zb (ib_normal (Ze (Zd (Za rfl rfl (Exec.add rfl e8 rfl (Za rfl rfl (Zm (v := Vi (IntKind.i64.wrap ((ab : Int) + 1))) rfl rfl (Zb (Ze ?_)))))))))
  have gJ := Zu i
  subst fK
  exact ⟨fN, am, (d ++ [al]), (Zt ek em), (bM).f1, e5, e6, cd, e7, (Eq.trans rfl (wrap_up dS (by have h := must_some fw; simp at h; simp only [maxLen]; omega)))⟩
 intro ha iB dn
 obtain ⟨cO, b, d, ay, dA, eA, eB, eC, eD, gl⟩ := dn
 refine Zc (Zd (Za rfl rfl (Zq rfl gl eD (Zb (Ze (Zc (W_false (Zx (decide_eq_false (by omega))) (W_exit (at_exit (at_exit (ib_here (Ze (Zc (Zc (Zd (Za rfl rfl (Zm (v := ak) rfl eB (Za rfl rfl (Zr S42 rfl rfl (aM.mono ay) (Za rfl rfl (Zm (v := Vi (0)) rfl rfl (Zb (Ze ?_)))))))))))))))))))))))
 obtain ⟨aS, df, hm⟩ := Zg hm
 refine W_block (W_forS (fun k' s' f' w' => (fun (aS : (List (List Int))) => ∃ (cP : PHeap) , PHeap.le cO cP ∧ St w0 cP (Res.arr encRaw 22 b d :: Res.rows (encInt .i64) 3 d aS :: H) w' ∧ f' 0 = Vi (a) ∧ f' 6 = b ∧ f' 42 = ak ∧ f' 43 = Vi ((aN.length : Int)) ∧ f' 44 = Vi (k' : Int)) s') df ?_ ?_ ?_)
 ·exact ⟨cO, (Zv _), dA, eA, eC, rfl, rfl, rfl⟩
 ·intro ej aS fO hb iC dU dp t
  obtain ⟨fP, bT, bN, eE, aW, cf, cg, bp⟩ := dp
  refine Zc (Zd (Za rfl rfl (Zq rfl bp cg (Zb (Ze (Zc (W_true (Zx (decide_eq_true (by omega))) (W_skip (Ze (Zc (W_block (Zc (Zd ?_)))))))))))))
  obtain ⟨an, f4, t⟩ := Zg t
  refine Za rfl rfl (Exec.index_rep S42 rfl cf bp (aM.mono (Zt ay bT)) f4 ?_)
  intro gx hR dc
  refine Za rfl rfl (Zw (E := encBound) bN A49 rfl rfl rfl dc ?_)
  intro iv f5
  obtain rfl := encBound_val.1 f5
  refine Za rfl rfl (Exec.alloc (cs := [Vi (0), Vi (0), Vi (0)]) bN Z49 rfl rfl ?_)
  intro gy iD dB
  refine Za rfl rfl (Exec.store_box (ds := [Vi (an.A), Vi (an.B), Vi (an.Most)]) (es := [Vi (an.A), Vi (an.B), Vi (an.Most)]) dB A49 rfl rfl rfl rfl (Zj rfl (Zj rfl (Zj rfl one_nil))) (Nat.le_of_ble_eq_true rfl) rfl ?_)
  intro iE dC
  refine Zb (Ze (W_dl (n0 := 19) (qs 0 19 .done) hmix (by kernel_rfl) (by kernel_rfl) ?_))
  have m := dC.drew
  refine DL_q rfl rfl (Zm (v := b) rfl aW ⟨rfl, ?_⟩)
  refine DL_q rfl rfl (Zp F49_0 rfl rfl rfl ⟨rfl, ?_⟩)
  refine DL_q rfl rfl (Zn (m) A3 rfl rfl rfl ⟨rfl, ?_⟩)
  obtain ⟨ib, a2, t⟩ := Zg t
  obtain ⟨hB, ac, ao, _⟩ := ((((m).f2).f2).f1).rows_at a2
  obtain ⟨hu, g3, a6⟩ := (((m).f2).f2).arr_at ac
  refine DL_q rfl rfl (Exec.index_slice S79 rfl a6 rfl (idx_some ac).1 (idx_some ac).2.1 ⟨rfl, ?_⟩)
  refine DL_q rfl rfl (Exec.load_arr (F := encRaw) (((m).f2).f2) a6 A22 rfl rfl rfl ac (Sub.refl _) ?_)
  intro ga cA
  replace cA := (encRaw_val.1 cA).1
  subst ga
  refine ⟨rfl, ?_⟩
  refine DL_q rfl rfl (Zp F49_1 rfl rfl rfl ⟨rfl, ?_⟩)
  refine DL_q rfl rfl (Zn (m) A3 rfl rfl rfl ⟨rfl, ?_⟩)
  refine DL_q rfl rfl (Zm (v := b) rfl aW ⟨rfl, ?_⟩)
  refine DL_q rfl rfl (Zp F49_0 rfl rfl rfl ⟨rfl, ?_⟩)
  refine DL_q rfl rfl (Zn (m) A3 rfl rfl rfl ⟨rfl, ?_⟩)
  refine DL_q rfl rfl (Exec.index_slice S79 rfl a6 rfl (idx_some ac).1 (idx_some ac).2.1 ⟨rfl, ?_⟩)
  refine DL_q rfl rfl (Exec.load_arr (F := encRaw) (((m).f2).f2) a6 A22 rfl rfl rfl ac (Sub.refl _) ?_)
  intro gb cB
  replace cB := (encRaw_val.1 cB).1
  subst gb
  refine ⟨rfl, ?_⟩
  refine DL_q rfl rfl (Zp F49_1 rfl rfl rfl ⟨rfl, ?_⟩)
  refine DL_q rfl rfl (Zn (m) A3 rfl rfl rfl ⟨rfl, ?_⟩)
  obtain ⟨iW, af, t⟩ := Zg t
  obtain ⟨hv, g4, b2⟩ := (((((m).f2).f2).f1).rows_split ao (idx_some a2).2.2).arr_at af
  refine DL_q rfl rfl (Exec.index_slice S22 rfl b2 rfl (idx_some af).1 (idx_some af).2.1 ⟨rfl, ?_⟩)
  refine DL_q rfl rfl (Exec.load_arr (F := (encInt .i64)) (((((m).f2).f2).f1).rows_split ao (idx_some a2).2.2) b2 A3 rfl rfl rfl af (Sub.refl _) ?_)
  intro iw f6
  obtain rfl := encInt_val.1 f6
  refine ⟨rfl, ?_⟩
  refine DL_q rfl rfl (Zp F49_2 rfl rfl rfl ⟨rfl, ?_⟩)
  refine DL_q rfl rfl (Zn (m) A3 rfl rfl rfl ⟨rfl, ?_⟩)
  refine DL_q rfl rfl (Exec.min2 rfl rfl rfl ⟨rfl, ?_⟩)
  refine DL_done ?_
  obtain ⟨hw, g5, b3⟩ := (((((m).f2).f2).f1).rows_split ao (idx_some a2).2.2).arr_at af
  refine Za rfl rfl (Exec.index_slice S22 rfl b3 rfl (idx_some af).1 (idx_some af).2.1 ?_)
  obtain ⟨hN, f7, t⟩ := Zg t
  obtain ⟨hO, cC, t⟩ := Zg t
  refine Za rfl rfl (Exec.store_arr (((((m).f2).f2).f1).rows_split ao (idx_some a2).2.2) b3 A3 rfl rfl rfl rfl (encInt_val.2 rfl) f7 ?_)
  intro iF dD
  have bO := (dD).rows_back ao (setI_some cC).2.1
  rw [← (setI_some cC).2.2] at bO
  refine Zb (ib_normal (Ze (Zd (Za rfl rfl (Exec.add rfl bp rfl (Za rfl rfl (Zm (v := Vi (IntKind.i64.wrap ((ej : Int) + 1))) rfl rfl (Zb (Ze ?_)))))))))
  have gK := Zu t
  subst fO
  exact ⟨fP, bT, (((bO).f1).f2).drop, eE, aW, cf, cg, (Eq.trans rfl (wrap_up dU (SliceRep.le (aM.mono ay))))⟩
 intro hc iG dq
 obtain ⟨bj, bU, dE, ch, eF, hT, eG, gm⟩ := dq
 refine Zc (Zd (Za rfl rfl (Zq rfl gm eG (Zb (Ze (Zc (W_false (Zx (decide_eq_false (by omega))) (W_exit (at_exit (at_exit (ib_here (Ze (Zc (Zc (Zd (Za rfl rfl (Zm (v := Vi (a)) rfl ch (Za rfl rfl (Zm (v := Vi (0)) rfl rfl (Zb (Ze ?_)))))))))))))))))))))
 obtain ⟨iq, f8, hm⟩ := Zg hm
 obtain ⟨bt, dg, ed, dZ, dQ⟩ := ctl_some hm
 refine W_mid (M := fun f' w' => ∃ s', (bt = .next s' ∨ bt = .brk s') ∧ (fun (bV : (List (List Int))) => ∃ (cQ : PHeap) , PHeap.le bj cQ ∧ St w0 cQ (Res.arr encRaw 22 b d :: Res.rows (encInt .i64) 3 d bV :: H) w' ∧ f' 0 = Vi (a) ∧ f' 6 = b ∧ f' 69 = Vi (a)) s') ?_ ?_
 ·refine W_block (W_forC (fun k' s' f' w' => (fun (aT : (List (List Int))) => ∃ (cR : PHeap) , PHeap.le bj cR ∧ St w0 cR (Res.arr encRaw 22 b d :: Res.rows (encInt .i64) 3 d aT :: H) w' ∧ f' 0 = Vi (a) ∧ f' 6 = b ∧ f' 69 = Vi (a) ∧ f' 70 = Vi (k' : Int)) s') dg ?_ ?_ ?_)
  ·exact ⟨bj, (Zv _), dE, ch, eF, rfl, rfl⟩
  ·intro j aT bu hd iH dV dr z ef
   obtain ⟨cS, bW, dF, ci, eH, cj, bq⟩ := dr
   refine Zc (Zd (Za rfl rfl (Zq rfl bq cj (Zb (Ze (Zc (W_true (Zx (decide_eq_true (by omega))) (W_skip (Ze (Zc (W_block (Zc (Zd (Za rfl rfl (Zm (v := Vi ((j : Int))) rfl bq (Za rfl rfl (Zo (v := Vi ((j : Int))) rfl rfl (Zb (Ze (Zc (Zc (Zd (Za rfl rfl (Zm (v := Vi (a)) rfl ci (Za rfl rfl (Zm (v := Vi (0)) rfl rfl (Zb (Ze ?_))))))))))))))))))))))))))))
   obtain ⟨ir, f9, z⟩ := Zg z
   obtain ⟨az, dh, z⟩ := Zg z
   refine W_block (W_forS (fun k' s' f' w' => (fun (az : (List (List Int))) => ∃ (cT : PHeap) , PHeap.le cS cT ∧ St w0 cT (Res.arr encRaw 22 b d :: Res.rows (encInt .i64) 3 d az :: H) w' ∧ f' 0 = Vi (a) ∧ f' 6 = b ∧ f' 11 = Vi ((j : Int)) ∧ f' 69 = Vi (a) ∧ f' 70 = Vi ((j : Int)) ∧ f' 73 = Vi (a) ∧ f' 74 = Vi (k' : Int)) s') dh ?_ ?_ ?_)
   ·exact ⟨cS, (Zv _), dF, ci, eH, rfl, cj, bq, rfl, rfl⟩
   ·intro p az fQ he iI dW dt av
    obtain ⟨cU, en, dG, ck, eI, eJ, eK, eL, cl, br⟩ := dt
    refine Zc (Zd (Za rfl rfl (Zq rfl br cl (Zb (Ze (Zc (W_true (Zx (decide_eq_true (by omega))) (W_skip (Ze (Zc (W_block (Zc (Zd (Za rfl rfl (Zm (v := Vi ((p : Int))) rfl br (Za rfl rfl (Zo (v := Vi ((p : Int))) rfl rfl (Zb (Ze (Zc (Zd (Za rfl rfl (Zm (v := Vi (a)) rfl ck (Za rfl rfl (Zm (v := Vi (0)) rfl rfl (Zb (Ze ?_)))))))))))))))))))))))))))
    obtain ⟨it, fA, av⟩ := Zg av
    obtain ⟨aC, di, av⟩ := Zg av
    refine W_block (W_forS (fun k' s' f' w' => (fun (aC : (List (List Int))) => ∃ (cV : PHeap) , PHeap.le cU cV ∧ St w0 cV (Res.arr encRaw 22 b d :: Res.rows (encInt .i64) 3 d aC :: H) w' ∧ f' 0 = Vi (a) ∧ f' 6 = b ∧ f' 11 = Vi ((j : Int)) ∧ f' 12 = Vi ((p : Int)) ∧ f' 69 = Vi (a) ∧ f' 70 = Vi ((j : Int)) ∧ f' 73 = Vi (a) ∧ f' 74 = Vi ((p : Int)) ∧ f' 77 = Vi (a) ∧ f' 78 = Vi (k' : Int)) s') di ?_ ?_ ?_)
    ·exact ⟨cU, (Zv _), dG, ck, eI, eJ, rfl, eK, eL, cl, br, rfl, rfl⟩
    ·intro x aC fR hf iJ dX du aw
     obtain ⟨bk, eo, q, cm, aD, aE, aX, cn, co, cp, cq, aY, aL⟩ := du
     refine Zc (Zd (Za rfl rfl (Zq rfl aL aY (Zb (Ze (Zc (W_true (Zx (decide_eq_true (by omega))) (W_skip (Ze (Zc (W_block (Zc (Zd (Za rfl rfl (Zm (v := Vi ((x : Int))) rfl aL (Za rfl rfl (Zo (v := Vi ((x : Int))) rfl rfl (Zb (Ze (Zc ?_))))))))))))))))))))
     obtain ⟨a3, o, aw⟩ := Zg aw
     refine W_mid (M := fun f' w' => (fun (a3 : Bool) => ∃ (cW : PHeap) , PHeap.le bk cW ∧ St w0 cW (Res.arr encRaw 22 b d :: Res.rows (encInt .i64) 3 d aC :: H) w' ∧ f' 0 = Vi (a) ∧ f' 6 = b ∧ f' 11 = Vi ((j : Int)) ∧ f' 12 = Vi ((p : Int)) ∧ f' 13 = Vi ((x : Int)) ∧ f' 69 = Vi (a) ∧ f' 70 = Vi ((j : Int)) ∧ f' 73 = Vi (a) ∧ f' 74 = Vi ((p : Int)) ∧ f' 77 = Vi (a) ∧ f' 78 = Vi ((x : Int)) ∧ f' 98 = Value.bool (a3)) a3) ?_ ?_
     ·refine Zd (Za rfl rfl (Zm (v := b) rfl aD (Za rfl rfl (Zm (v := Vi ((p : Int))) rfl aX ?_))))
      obtain ⟨ic, be, o⟩ := Zg o
      obtain ⟨hC, a7, b4, _⟩ := ((q).f1).rows_at be
      obtain ⟨hx, g6, b5⟩ := (q).arr_at a7
      refine Za rfl rfl (Exec.index_slice S79 rfl b5 rfl (idx_some a7).1 (idx_some a7).2.1 (Za rfl rfl (Exec.load_arr (F := encRaw) (q) b5 A22 rfl rfl rfl a7 (Sub.refl _) ?_)))
      intro gc cD
      replace cD := (encRaw_val.1 cD).1
      subst gc
      refine Za rfl rfl (Zm (v := Vi ((j : Int))) rfl aE ?_)
      obtain ⟨gn, aG, o⟩ := Zg o
      obtain ⟨hy, g7, b6⟩ := (((q).f1).rows_split b4 (idx_some be).2.2).arr_at aG
      refine Za rfl rfl (Exec.index_slice S22 rfl b6 rfl (idx_some aG).1 (idx_some aG).2.1 (Za rfl rfl (Exec.load_arr (F := (encInt .i64)) (((q).f1).rows_split b4 (idx_some be).2.2) b6 A3 rfl rfl rfl aG (Sub.refl _) ?_)))
      intro ix fB
      obtain rfl := encInt_val.1 fB
      refine Za rfl rfl (Zq rfl rfl rfl (Za rfl rfl (Zm (v := Value.bool (decide (gn < 1125899906842624))) rfl rfl ?_)))
      rcases ite_some o with ⟨n, o⟩ | ⟨n, o⟩
      ·refine WL_run rfl (Zf rfl (Zx n)) rfl (Zm (v := b) rfl aD (WL_run rfl (Zf rfl (Zx n)) rfl (Zm (v := Vi ((j : Int))) rfl aE ?_)))
       obtain ⟨ie, bf, o⟩ := Zg o
       obtain ⟨hD, a8, b7, _⟩ := ((q).f1).rows_at bf
       obtain ⟨hz, g8, b8⟩ := (q).arr_at a8
       refine WL_run rfl (Zf rfl (Zx n)) rfl (Exec.index_slice S79 rfl b8 rfl (idx_some a8).1 (idx_some a8).2.1 (WL_run rfl (Zf rfl (Zx n)) rfl (Exec.load_arr (F := encRaw) (q) b8 A22 rfl rfl rfl a8 (Sub.refl _) ?_)))
       intro gd cE
       replace cE := (encRaw_val.1 cE).1
       subst gd
       refine WL_run rfl (Zf rfl (Zx n)) rfl (Zm (v := Vi ((x : Int))) rfl rfl ?_)
       obtain ⟨go, aH, o⟩ := Zg o
       obtain ⟨h0, g9, b9⟩ := (((q).f1).rows_split b7 (idx_some bf).2.2).arr_at aH
       refine WL_run rfl (Zf rfl (Zx n)) rfl (Exec.index_slice S22 rfl b9 rfl (idx_some aH).1 (idx_some aH).2.1 (WL_run rfl (Zf rfl (Zx n)) rfl (Exec.load_arr (F := (encInt .i64)) (((q).f1).rows_split b7 (idx_some bf).2.2) b9 A3 rfl rfl rfl aH (Sub.refl _) ?_)))
       intro iy fC
       obtain rfl := encInt_val.1 fC
       refine WL_run rfl (Zf rfl (Zx n)) rfl (Zq rfl rfl rfl (Za rfl rfl (Zs (v := Value.bool (decide (go < 1125899906842624))) rfl (Zx n) rfl (Zb (Ze ?_)))))
       have gL := Zu o
       subst a3
       exact ⟨bk, (Zv _), q, cm, aD, aE, aX, rfl, cn, co, cp, cq, aY, aL, rfl⟩
      replace n := Zk n
      refine WL_passes 9 (by rw [n]; rfl) ?_
      refine Zb (Ze ?_)
      have gM := Zu o
      subst a3
      exact ⟨bk, (Zv _), q, cm, aD, aE, aX, rfl, cn, co, cp, cq, aY, aL, rfl⟩
     intro hg iK d0
     obtain ⟨bl, ep, bP, cr, aj, aF, a1, aZ, ct, cu, cv, cw, cx, cy, cz⟩ := d0
     refine (Ze ?_)
     obtain ⟨a0, g, aw⟩ := Zg aw
     refine W_mid (M := fun f' w' => (fun (a0 : (List (List Int))) => ∃ (cX : PHeap) , PHeap.le bl cX ∧ St w0 cX (Res.arr encRaw 22 b d :: Res.rows (encInt .i64) 3 d a0 :: H) w' ∧ f' 0 = Vi (a) ∧ f' 6 = b ∧ f' 11 = Vi ((j : Int)) ∧ f' 12 = Vi ((p : Int)) ∧ f' 69 = Vi (a) ∧ f' 70 = Vi ((j : Int)) ∧ f' 73 = Vi (a) ∧ f' 74 = Vi ((p : Int)) ∧ f' 77 = Vi (a) ∧ f' 78 = Vi ((x : Int))) a0) ?_ ?_
     ·rcases ite_some g with ⟨ar, g⟩ | ⟨ar, g⟩
      ·refine W_cond_t cz ar (W_dl (n0 := 28) (qs 0 28 .done) hmix (by kernel_rfl) (by kernel_rfl) ?_)
       have l := bP.drew
       refine DL_q rfl rfl (Zm (v := b) rfl aj ⟨rfl, ?_⟩)
       refine DL_q rfl rfl (Zm (v := Vi ((p : Int))) rfl a1 ⟨rfl, ?_⟩)
       obtain ⟨ig, ag, g⟩ := Zg g
       obtain ⟨hE, u, ad, _⟩ := ((l).f1).rows_at ag
       obtain ⟨h1, gA, ai⟩ := (l).arr_at u
       refine DL_q rfl rfl (Exec.index_slice S79 rfl ai rfl (idx_some u).1 (idx_some u).2.1 ⟨rfl, ?_⟩)
       refine DL_q rfl rfl (Exec.load_arr (F := encRaw) (l) ai A22 rfl rfl rfl u (Sub.refl _) ?_)
       intro gf cF
       replace cF := (encRaw_val.1 cF).1
       subst gf
       refine ⟨rfl, ?_⟩
       refine DL_q rfl rfl (Zm (v := Vi ((x : Int))) rfl aZ ⟨rfl, ?_⟩)
       refine DL_q rfl rfl (Zm (v := b) rfl aj ⟨rfl, ?_⟩)
       refine DL_q rfl rfl (Zm (v := Vi ((p : Int))) rfl a1 ⟨rfl, ?_⟩)
       refine DL_q rfl rfl (Exec.index_slice S79 rfl ai rfl (idx_some u).1 (idx_some u).2.1 ⟨rfl, ?_⟩)
       refine DL_q rfl rfl (Exec.load_arr (F := encRaw) (l) ai A22 rfl rfl rfl u (Sub.refl _) ?_)
       intro gg cG
       replace cG := (encRaw_val.1 cG).1
       subst gg
       refine ⟨rfl, ?_⟩
       refine DL_q rfl rfl (Zm (v := Vi ((x : Int))) rfl aZ ⟨rfl, ?_⟩)
       obtain ⟨iX, ah, g⟩ := Zg g
       obtain ⟨h2, gB, bA⟩ := (((l).f1).rows_split ad (idx_some ag).2.2).arr_at ah
       refine DL_q rfl rfl (Exec.index_slice S22 rfl bA rfl (idx_some ah).1 (idx_some ah).2.1 ⟨rfl, ?_⟩)
       refine DL_q rfl rfl (Exec.load_arr (F := (encInt .i64)) (((l).f1).rows_split ad (idx_some ag).2.2) bA A3 rfl rfl rfl ah (Sub.refl _) ?_)
       intro iz fD
       obtain rfl := encInt_val.1 fD
       refine ⟨rfl, ?_⟩
       refine DL_q rfl rfl (Zm (v := b) rfl aj ⟨rfl, ?_⟩)
       refine DL_q rfl rfl (Zm (v := Vi ((p : Int))) rfl a1 ⟨rfl, ?_⟩)
       refine DL_q rfl rfl (Exec.index_slice S79 rfl ai rfl (idx_some u).1 (idx_some u).2.1 ⟨rfl, ?_⟩)
       refine DL_q rfl rfl (Exec.load_arr (F := encRaw) (l) ai A22 rfl rfl rfl u (Sub.refl _) ?_)
       intro gh cH
       replace cH := (encRaw_val.1 cH).1
       subst gh
       refine ⟨rfl, ?_⟩
       refine DL_q rfl rfl (Zm (v := Vi ((j : Int))) rfl aF ⟨rfl, ?_⟩)
       obtain ⟨iY, aI, g⟩ := Zg g
       obtain ⟨h3, gC, bB⟩ := (((l).f1).rows_split ad (idx_some ag).2.2).arr_at aI
       refine DL_q rfl rfl (Exec.index_slice S22 rfl bB rfl (idx_some aI).1 (idx_some aI).2.1 ⟨rfl, ?_⟩)
       refine DL_q rfl rfl (Exec.load_arr (F := (encInt .i64)) (((l).f1).rows_split ad (idx_some ag).2.2) bB A3 rfl rfl rfl aI (Sub.refl _) ?_)
       intro i0 fE
       obtain rfl := encInt_val.1 fE
       refine ⟨rfl, ?_⟩
       refine DL_q rfl rfl (Zm (v := b) rfl aj ⟨rfl, ?_⟩)
       refine DL_q rfl rfl (Zm (v := Vi ((j : Int))) rfl aF ⟨rfl, ?_⟩)
       obtain ⟨ih, bg, g⟩ := Zg g
       obtain ⟨hF, a9, bC, _⟩ := ((l).f1).rows_at bg
       obtain ⟨h4, gD, bD⟩ := (l).arr_at a9
       refine DL_q rfl rfl (Exec.index_slice S79 rfl bD rfl (idx_some a9).1 (idx_some a9).2.1 ⟨rfl, ?_⟩)
       refine DL_q rfl rfl (Exec.load_arr (F := encRaw) (l) bD A22 rfl rfl rfl a9 (Sub.refl _) ?_)
       intro gi cI
       replace cI := (encRaw_val.1 cI).1
       subst gi
       refine ⟨rfl, ?_⟩
       refine DL_q rfl rfl (Zm (v := Vi ((x : Int))) rfl aZ ⟨rfl, ?_⟩)
       obtain ⟨iZ, aJ, g⟩ := Zg g
       obtain ⟨h5, gE, bE⟩ := (((l).f1).rows_split bC (idx_some bg).2.2).arr_at aJ
       refine DL_q rfl rfl (Exec.index_slice S22 rfl bE rfl (idx_some aJ).1 (idx_some aJ).2.1 ⟨rfl, ?_⟩)
       refine DL_q rfl rfl (Exec.load_arr (F := (encInt .i64)) (((l).f1).rows_split bC (idx_some bg).2.2) bE A3 rfl rfl rfl aJ (Sub.refl _) ?_)
       intro i1 fF
       obtain rfl := encInt_val.1 fF
       refine ⟨rfl, ?_⟩
       refine DL_q rfl rfl (Exec.add rfl rfl rfl ⟨rfl, ?_⟩)
       refine DL_q rfl rfl (Exec.min2 rfl rfl rfl ⟨rfl, ?_⟩)
       refine DL_done ?_
       obtain ⟨h6, gF, bF⟩ := (((l).f1).rows_split ad (idx_some ag).2.2).arr_at ah
       refine Za rfl rfl (Exec.index_slice S22 rfl bF rfl (idx_some ah).1 (idx_some ah).2.1 ?_)
       obtain ⟨hP, fG, g⟩ := Zg g
       obtain ⟨hQ, cJ, g⟩ := Zg g
       refine Za rfl rfl (Exec.store_arr (((l).f1).rows_split ad (idx_some ag).2.2) bF A3 rfl rfl rfl rfl (encInt_val.2 rfl) fG ?_)
       intro iL dH
       have bQ := (dH).rows_back ad (setI_some cJ).2.1
       rw [← (setI_some cJ).2.2] at bQ
       refine Zb (Ze ?_)
       have gN := Zu g
       subst a0
       exact ⟨bl, (Zv _), (bQ).f1, cr, aj, aF, a1, ct, cu, cv, cw, cx, cy⟩
      refine W_cond_f cz ar ?_
      replace ar := Zk ar
      refine W_skip (Ze ?_)
      have gO := Zu g
      subst a0
      exact ⟨bl, (Zv _), bP, cr, aj, aF, a1, ct, cu, cv, cw, cx, cy⟩
     intro hh iM d1
     obtain ⟨fS, er, dI, eM, eN, eO, eP, eQ, eR, eS, eT, eU, eV⟩ := d1
     refine (ib_normal (Ze (Zd (Za rfl rfl (Exec.add rfl eV rfl (Za rfl rfl (Zm (v := Vi (IntKind.i64.wrap ((x : Int) + 1))) rfl rfl (Zb (Ze ?_)))))))))
     have gP := Zu aw
     subst fR
     exact ⟨fS, (Zt (Zt eo ep) er), dI, eM, eN, eO, eP, eQ, eR, eS, eT, eU, (Eq.trans rfl (wrap_up dX (by have h := must_some fA; simp at h; simp only [maxLen]; omega)))⟩
    intro hi iN dv
    obtain ⟨fT, et, dJ, eW, eX, eY, hU, eZ, fa, fb, fc, fd, gp⟩ := dv
    refine Zc (Zd (Za rfl rfl (Zq rfl gp fd (Zb (Ze (Zc (W_false (Zx (decide_eq_false (by omega))) (W_exit (at_exit (at_exit (ib_here (ib_normal (Ze (Zd (Za rfl rfl (Exec.add rfl fc rfl (Za rfl rfl (Zm (v := Vi (IntKind.i64.wrap ((p : Int) + 1))) rfl rfl (Zb (Ze ?_))))))))))))))))))))
    have gQ := Zu av
    subst fQ
    exact ⟨fT, (Zt en et), dJ, eW, eX, eY, eZ, fa, fb, (Eq.trans rfl (wrap_up dW (by have h := must_some f9; simp at h; simp only [maxLen]; omega)))⟩
   intro hj iO dw
   obtain ⟨bm, bX, dK, c0, fe, hV, ff, fg, fh, gq⟩ := dw
   refine Zc (Zd (Za rfl rfl (Zq rfl gq fh (Zb (Ze (Zc (W_false (Zx (decide_eq_false (by omega))) (W_exit (at_exit (at_exit (ib_here (Ze (Zc (Zd (Za rfl rfl (Zm (v := Vi (a)) rfl c0 (Za rfl rfl (Zm (v := Vi (0)) rfl rfl (Zb (Ze ?_))))))))))))))))))))
   obtain ⟨iu, fH, z⟩ := Zg z
   obtain ⟨bv, dj, ee, ea, dR⟩ := ctl_some z
   refine W_mid (M := fun f' w' => ∃ s', (bv = .next s' ∨ bv = .brk s') ∧ (fun (_ : Unit) => ∃ (cY : PHeap) , PHeap.le bm cY ∧ St w0 cY (Res.arr encRaw 22 b d :: Res.rows (encInt .i64) 3 d az :: H) w' ∧ f' 0 = Vi (a) ∧ f' 6 = b ∧ f' 69 = Vi (a) ∧ f' 70 = Vi ((j : Int)) ∧ f' 130 = Vi (a)) s') ?_ ?_
   ·refine W_block (W_forC (fun k' s' f' w' => (fun (_ : Unit) => ∃ (cZ : PHeap) , PHeap.le bm cZ ∧ St w0 cZ (Res.arr encRaw 22 b d :: Res.rows (encInt .i64) 3 d az :: H) w' ∧ f' 0 = Vi (a) ∧ f' 6 = b ∧ f' 69 = Vi (a) ∧ f' 70 = Vi ((j : Int)) ∧ f' 130 = Vi (a) ∧ f' 131 = Vi (k' : Int)) s') dj ?_ ?_ ?_)
    ·exact ⟨bm, (Zv _), dK, c0, fe, ff, fg, rfl, rfl⟩
    ·intro ax ik bw hk iP dY dx aa eg
     obtain ⟨da, bY, ae, fi, c1, fj, fk, c2, bs⟩ := dx
     refine Zc (Zd (Za rfl rfl (Zq rfl bs c2 (Zb (Ze (Zc (W_true (Zx (decide_eq_true (by omega))) (W_skip (Ze (Zc (W_block (Zc (Zd (Za rfl rfl (Zm (v := Vi ((ax : Int))) rfl bs (Za rfl rfl (Zo (v := Vi ((ax : Int))) rfl rfl (Zb (Ze (Zc (Zd (Za rfl rfl (Zm (v := b) rfl c1 (Za rfl rfl (Zm (v := Vi ((ax : Int))) rfl rfl ?_)))))))))))))))))))))))))
     obtain ⟨ii, bh, aa⟩ := Zg aa
     obtain ⟨hG, aA, bG, _⟩ := ((ae).f1).rows_at bh
     obtain ⟨h7, gG, bH⟩ := (ae).arr_at aA
     refine Za rfl rfl (Exec.index_slice S79 rfl bH rfl (idx_some aA).1 (idx_some aA).2.1 (Za rfl rfl (Exec.load_arr (F := encRaw) (ae) bH A22 rfl rfl rfl aA (Sub.refl _) ?_)))
     intro gj cK
     replace cK := (encRaw_val.1 cK).1
     subst gj
     refine Za rfl rfl (Zm (v := Vi ((ax : Int))) rfl rfl ?_)
     obtain ⟨ja, aK, aa⟩ := Zg aa
     obtain ⟨h8, gH, bI⟩ := (((ae).f1).rows_split bG (idx_some bh).2.2).arr_at aK
     refine Za rfl rfl (Exec.index_slice S22 rfl bI rfl (idx_some aK).1 (idx_some aK).2.1 (Za rfl rfl (Exec.load_arr (F := (encInt .i64)) (((ae).f1).rows_split bG (idx_some bh).2.2) bI A3 rfl rfl rfl aK (Sub.refl _) ?_)))
     intro i2 fI
     obtain rfl := encInt_val.1 fI
     refine Za rfl rfl (Zq rfl rfl rfl (Zb (Ze ?_)))
     rcases ite_some aa with ⟨au, aa⟩ | ⟨au, aa⟩
     ·refine W_cond_t rfl au (Zc (Zd (Za rfl rfl (Zo (v := Value.slice none 0 0) rfl rfl (Za rfl rfl (Zo (v := Value.bool (false)) rfl rfl (Zb (Ze (W_ret (ib_ret (at_ret (at_ret (ib_ret (at_ret (ib_ret (at_ret (at_ret (ib_ret (at_ret (at_ret ?_))))))))))))))))))))
      have gR := Zu aa
      subst bw
      have eb := ee _ (eg (by intro _ h; cases h))
      have gS := Zu eb
      subst bu
      have ec := ed _ (ef (by intro _ h; cases h))
      have gT := Zu ec
      subst r
      refine ⟨_, ret2 rfl, ?_⟩
      exact ⟨da, (Value.slice none 0 0), (Zt (Zt (Zt (Zt ay bU) bW) bX) bY), ((ae).drop).drop, (tup2 rfl rfl), (SliceRep.nil _ _)⟩
     refine W_cond_f rfl au ?_
     replace au := Zk au
     refine W_skip (ib_normal (Ze (Zd (Za rfl rfl (Exec.add rfl bs rfl (Za rfl rfl (Zm (v := Vi (IntKind.i64.wrap ((ax : Int) + 1))) rfl rfl (Zb (Ze ?_)))))))))
     have gU := Zu aa
     subst bw
     refine ⟨_, rfl, ?_⟩; exact ⟨da, bY, ae, fi, c1, fj, fk, c2, (Eq.trans rfl (wrap_up dY (by have h := must_some fH; simp at h; simp only [maxLen]; omega)))⟩
    intro il hl iQ dy eh
    obtain ⟨fU, eu, dL, fl, fm, fn, fo, c3, gr⟩ := dy
    refine Zc (Zd (Za rfl rfl (Zq rfl gr c3 (Zb (Ze (Zc (W_false (Zx (decide_eq_false (by omega))) (W_exit (at_exit (at_exit (ib_here (Ze ?_))))))))))))
    refine ⟨_, .inl eh, ?_⟩; exact ⟨fU, eu, dL, fl, fm, fn, fo, c3⟩
   rintro hn iR ⟨im, bR, d2⟩
   have z := bR.elim (ea _) (dR _)
   clear bR
   obtain ⟨fV, ev, dM, fp, fq, fr, fs, hW⟩ := d2
   refine (ib_normal (Ze (Zd (Za rfl rfl (Exec.add rfl fs rfl (Za rfl rfl (Zm (v := Vi (IntKind.i64.wrap ((j : Int) + 1))) rfl rfl (Zb (Ze ?_)))))))))
   have gV := Zu z
   subst bu
   refine ⟨_, rfl, ?_⟩; exact ⟨fV, (Zt (Zt bW bX) ev), dM, fp, fq, fr, (Eq.trans rfl (wrap_up dV (by have h := must_some f8; simp at h; simp only [maxLen]; omega)))⟩
  intro aT ho iS dz ei
  obtain ⟨fW, ew, dN, ft, fu, c4, gs⟩ := dz
  refine Zc (Zd (Za rfl rfl (Zq rfl gs c4 (Zb (Ze (Zc (W_false (Zx (decide_eq_false (by omega))) (W_exit (at_exit (at_exit (ib_here (Ze ?_))))))))))))
  refine ⟨_, .inl ei, ?_⟩; exact ⟨fW, ew, dN, ft, fu, c4⟩
 rintro hp iT ⟨bV, bS, d3⟩
 have hm := bS.elim (dZ _) (dQ _)
 clear bS
 obtain ⟨ij, ex, dO, hX, fv, hY⟩ := d3
 refine (Ze (Zc (Zd (Za rfl rfl (Zm (v := b) rfl fv (Za rfl rfl (Zo (v := b) rfl rfl (Za rfl rfl (Zo (v := Value.bool (true)) rfl rfl (Zb (Ze (W_ret ?_))))))))))))
 have gW := Zu hm
 subst r
 refine ⟨_, ret2 rfl, ?_⟩
 obtain ⟨fX, ey, dP, fJ⟩ := dO.freezeGrid
 exact ⟨fX, b, (Zt (Zt (Zt ay bU) ex) ey), dP, (tup2 rfl rfl), fJ⟩
theorem ref57_Shift_sim {w0 w : World} {s : PHeap} {H : List Res} {j : Temporal} {ar : (List Launch)} {n : Value} {o : Value} {p : Value} {t : Value} {u : Value} {r : (List Launch)} (hm : ref57_Shift_p j ar = some r) (hS : St w0 s (H) w) (a2 : SliceRep (encInt .i64) s n j.Vars) (a3 : SliceRep (encInt .i64) s o j.Init) (a4 : SliceRep encFact s p j.Goal) (a5 : SliceRep encJob s t j.Jobs) (ah : SliceRep encLaunch s u ar) :
  Calls Tryz.prog 12 #[Value.agg #[n, o, p, t], u] w fun e w' => ∃ v, e = .returned v ∧ ((fun (bi : (List Launch)) => ∃ (af : PHeap) (ay : Value), PHeap.le s af ∧ St w0 af (H) w' ∧ v = ay ∧ SliceRep encLaunch af ay bi) r) := by
 unfold ref57_Shift_p at hm
 refine calls_of_W Tryz.func12 rfl rfl (Zc (Zd (Za rfl rfl (Exec.box (cs := [n, o, p, t]) hS rfl rfl rfl ?_))))
 intro bj bA aj
 refine Za rfl rfl (Zo (v := Value.slice none 0 0) rfl rfl (Zb (Ze (Zc (Zd (Za rfl rfl (Exec.load_box_agg (ds := [n, o, p, t]) (aj) A26 rfl rfl rfl (Za rfl rfl (Zm (v := u) rfl rfl ?_)))))))))
 obtain ⟨bf, aP, hm⟩ := Zg hm
 obtain ⟨bM, z⟩ := bf
 replace hm := un2_eq hm
 refine Za rfl rfl (Tc rfl rfl rfl (Zi rfl (Zi rfl args_nil)) (ref57_Network_sim aP aj a2 a3 a4 a5 ah).r ?_)
 rintro _ bB ⟨b2, x, al, aB, rfl⟩
 refine Za rfl rfl (Zm (v := Value.tuple #[x, Vi (z)]) rfl rfl (Za rfl rfl (Exec.extract (v := x) rfl rfl rfl (Za rfl rfl (Exec.extract (v := Vi (z)) rfl rfl rfl (Za rfl rfl (Zo (v := x) rfl rfl (Za rfl rfl (Zo (v := Vi (z)) rfl rfl (Zb (Ze (Zc (Zd (Za rfl rfl (Zm (v := Vi (z)) rfl rfl (Za rfl rfl (Zm (v := x) rfl rfl ?_)))))))))))))))))
 obtain ⟨b3, am, aC, aY⟩ := aB.freezeArr
 obtain ⟨bg, aQ, hm⟩ := Zg hm
 obtain ⟨bN, ag⟩ := bg
 replace hm := un2_eq hm
 refine Za rfl rfl (Tc rfl rfl rfl (Zi rfl (Zi rfl args_nil)) (ref54_Distances_sim aQ aC aY).r ?_)
 rintro _ bC ⟨b4, h, an, aD, rfl, aZ⟩
 refine Za rfl rfl (Zm (v := Value.tuple #[h, Value.bool (ag)]) rfl rfl (Za rfl rfl (Exec.extract (v := h) rfl rfl rfl (Za rfl rfl (Exec.extract (v := Value.bool (ag)) rfl rfl rfl (Za rfl rfl (Zo (v := h) rfl rfl (Za rfl rfl (Zo (v := Value.bool (ag)) rfl rfl (Zb (Ze (Zc (Zd (Za rfl rfl (Zo (v := Value.slice none 0 0) rfl rfl (Zb (Ze (Zc (Zc (Zd (Za rfl rfl (Zm (v := u) rfl rfl ?_))))))))))))))))))))))
 obtain ⟨a1, aR, hm⟩ := Zg hm
 refine Za rfl rfl (Tc rfl rfl rfl (Zi rfl args_nil) (ref56_Sorted_sim aR aD (ah.mono (Zt (Zt al am) an))).r ?_)
 rintro az bD ⟨aw, _, ao, aa, rfl⟩
 refine Za rfl rfl (Exec.len_arr (aa) S27 rfl rfl (Za rfl rfl (Zm (v := Vi (0)) rfl rfl (Zb (Ze ?_)))))
 obtain ⟨ac, a8, hm⟩ := Zg hm
 refine W_block (W_forS (fun k' s' f' w' => (fun (ac : (List Launch)) => ∃ (ax : PHeap) (b : Value), PHeap.le aw ax ∧ St w0 ax (Res.arr encLaunch 56 b ac :: Res.arr encLaunch 56 az a1 :: H) w' ∧ f' 7 = h ∧ f' 9 = b ∧ f' 25 = az ∧ f' 26 = Vi ((a1.length : Int)) ∧ f' 27 = Vi (k' : Int)) s') a8 ?_ ?_ ?_)
 ·have aE := aa.nilArr encLaunch 56
  exact ⟨aw, (Value.slice none 0 0), (Zv _), ((((aE).f2).drop).f1).f1, rfl, rfl, rfl, rfl, rfl⟩
 ·intro i ac bc bt bE aK a9 d
  obtain ⟨b5, b, ap, ab, ad, ae, au, av, y⟩ := a9
  refine Zc (Zd (Za rfl rfl (Zq rfl y av (Zb (Ze (Zc (W_true (Zx (decide_eq_true (by omega))) (W_skip (Ze (Zc (W_block (Zc (Zd (Za rfl rfl (Zm (v := Vi ((i : Int))) rfl y ?_)))))))))))))))
  obtain ⟨a, m, d⟩ := Zg d
  obtain ⟨bv, bo, ai⟩ := ((ab).f1).arr_at m
  refine Za rfl rfl (Exec.index_slice S27 rfl (Eq.trans au ai) y (idx_some m).1 (idx_some m).2.1 (Za rfl rfl (Exec.load_arr (F := encLaunch) ((ab).f1) ai A56 rfl rfl rfl m (Sub.refl _) ?_)))
  intro b7 aS
  obtain rfl := encLaunch_val.1 aS
  refine Za rfl rfl (Exec.alloc (cs := [Vi (0), Vi (0)]) ab Z56 rfl rfl ?_)
  intro bk bF aF
  refine Za rfl rfl (Zo (v := Vi ((i : Int))) rfl rfl (Za rfl rfl (Exec.store_box (ds := [Vi (a.At), Vi (a.Job)]) (es := [Vi (a.At), Vi (a.Job)]) aF A56 rfl rfl rfl rfl (Zj rfl (Zj rfl one_nil)) (Nat.le_of_ble_eq_true rfl) rfl ?_)))
  intro bG ak
  refine Zb (Ze (W_dl (n0 := 14) (qs 0 3 (.q 9 (.q 10 (.e 3 [0, 1, 9, 10] (qs 4 5 (.q 11 (.e 12 [0] (.e 13 [] .done)))))))) hmix (by kernel_rfl) (by kernel_rfl) (DL_q rfl rfl (Zm (v := b) rfl ae ⟨rfl, ?_⟩))))
  refine DL_q rfl rfl (Zm (v := h) rfl ad ⟨rfl, ?_⟩)
  refine DL_q rfl rfl (Zm (v := Vi ((i : Int))) rfl rfl ⟨rfl, ?_⟩)
  refine DL_q rfl rfl (Zp F56_1 rfl rfl rfl ⟨rfl, ?_⟩)
  refine DL_q rfl rfl (Zn (ak.drew) A3 rfl rfl rfl ⟨rfl, ?_⟩)
  refine DL_e rfl rfl (Tc rfl rfl rfl (Zi rfl (Zi rfl args_nil)) (ref57_point_sim (ref57_point_tot (i : Int) false) ak.drew ).r ?_)
  rintro _ bH ⟨bd, aq, l, rfl⟩
  refine ⟨(ag_cons (ag_r rfl rfl (Zm (v := b) rfl ae ⟨rfl, rfl⟩)) (ag_cons (ag_r rfl rfl (Zm (v := h) rfl ad ⟨rfl, rfl⟩)) (ag_cons (ag_r rfl rfl (Zp F56_1 rfl rfl rfl ⟨rfl, rfl⟩)) (ag_cons (ag_r rfl rfl (Zn (l) A3 rfl rfl rfl ⟨rfl, rfl⟩)) ag_nil)))), ?_⟩
  obtain ⟨bL, aT, d⟩ := Zg d
  refine DL_q rfl rfl (Exec.index_repE S79 rfl rfl rfl (aZ.mono (Zt (Zt ao ap) aq)) aT ?_)
  intro bl bx a6 bp
  refine ⟨rfl, ?_⟩
  refine DL_q rfl rfl (Zw (E := (encSlice (encInt .i64))) l A22 rfl rfl rfl a6 ?_)
  intro b8 aU
  have ba := encSlice_val.1 aU
  refine ⟨rfl, ?_⟩
  obtain ⟨g, aV, d⟩ := Zg d
  refine DL_q rfl rfl (Exec.index_repE S22 rfl rfl rfl ba aV ?_)
  intro bm bz a7 bq
  refine ⟨rfl, ?_⟩
  refine DL_q rfl rfl (Zw (E := (encInt .i64)) l A3 rfl rfl rfl a7 ?_)
  intro b9 aW
  obtain rfl := encInt_val.1 aW
  refine ⟨rfl, ?_⟩
  refine DL_q rfl rfl (Exec.neg rfl rfl ⟨rfl, ?_⟩)
  refine DL_q rfl rfl (Exec.build rfl (parts_cons (c := [Vi (IntKind.i64.wrap (0 - g))]) (cells_of rfl rfl) (parts_cons (c := [Vi (a.Job)]) (cells_of rfl rfl) parts_nil)) (v := Value.agg #[Vi (IntKind.i64.wrap (0 - g)), Vi (a.Job)]) (fun _ => by kernel_rfl) ⟨rfl, ?_⟩)
  refine DL_e rfl rfl (Exec.buildSlice (Te := 56) (cs := [Vi (IntKind.i64.wrap (0 - g)), Vi (a.Job)]) l rfl (parts_cons (c := [Vi (IntKind.i64.wrap (0 - g)), Vi (a.Job)]) (cells_of rfl rfl) parts_nil) (fun _ => by kernel_rfl) ?_)
  intro bn bI aG
  refine ⟨(ag_cons (ag_r rfl rfl (Zm (v := b) rfl ae ⟨rfl, rfl⟩)) ag_nil), ?_⟩
  obtain ⟨bw, aX, d⟩ := Zg d
  refine DL_e rfl rfl (Exec.append_box (E := encLaunch) (ys := [(⟨IntKind.i64.wrap (0 - g), a.Job⟩ : Launch)]) (aG).f2 S27 Z56 rfl (by decide) rfl rfl rfl rfl ⟨[Vi (IntKind.i64.wrap (0 - g)), Vi (a.Job)], [], rfl, ⟨[Vi (IntKind.i64.wrap (0 - g))], [Vi (a.Job)], rfl, rfl, rfl⟩, rfl⟩ rfl aX ?_)
  intro a0 bJ aH
  refine ⟨ag_nil, ?_⟩
  refine DL_done (Za rfl rfl (Zo (v := a0) rfl rfl (Zb (ib_normal (Ze (Zd (Za rfl rfl (Exec.add rfl y rfl (Za rfl rfl (Zm (v := Vi (IntKind.i64.wrap ((i : Int) + 1))) rfl rfl (Zb (Ze ?_))))))))))))
  have br := Zu d
  subst bc
  exact ⟨bd, a0, (Zt ap aq), ((((aH).f1).drop).f1).f1, ad, rfl, au, av, (Eq.trans rfl (wrap_up aK (aa).arr_le))⟩
 intro bu bK aA
 obtain ⟨b6, b, aL, aI, b0, aN, b1, aO, bh⟩ := aA
 refine Zc (Zd (Za rfl rfl (Zq rfl bh aO (Zb (Ze (Zc (W_false (Zx (decide_eq_false (by omega))) (W_exit (at_exit (at_exit (ib_here (Ze (Zc (Zd (Za rfl rfl (Zm (v := b) rfl aN (Za rfl rfl (Zo (v := b) rfl rfl (Zb (Ze (W_ret ?_)))))))))))))))))))))
 have bs := Zu hm
 subst r
 refine ⟨_, ret1 rfl, ?_⟩
 obtain ⟨be, aM, aJ, bb⟩ := aI.freezeArr
 exact ⟨be, b, (Zt (Zt (Zt (Zt (Zt al am) an) ao) aL) aM), (aJ).drop, rfl, bb⟩
end Go.Pw
