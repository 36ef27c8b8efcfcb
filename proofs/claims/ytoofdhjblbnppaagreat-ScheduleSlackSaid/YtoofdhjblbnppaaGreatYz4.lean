/-
  The walks (printed by my generator).
-/
import Derived.Test.YtoofdhjblbnppaaGreatL29
import Derived.Test.YtoofdhjblbnppaaGreatL27
import Derived.Test.YtoofdhjblbnppaaGreatYz3
set_option maxRecDepth 100000
set_option maxHeartbeats 4000000
set_option linter.unusedVariables false
namespace Go.Pw
open Go.Proofs
theorem ref56_Sorted_sim {w0 w : World} {s : PHeap} {H : List Res} {ak : (List Launch)} {ap : Value} {r : (List Launch)} (hm : ref56_Sorted_p ak = some r) (hS : St w0 s (H) w) (aM : SliceRep encLaunch s ap ak) :
  Calls Tryz.prog 37 #[ap] w fun e w' => ∃ v, e = .returned v ∧ ((fun (b6 : (List Launch)) => ∃ (aF : PHeap) (aL : Value), PHeap.le s aF ∧ St w0 aF (Res.arr encLaunch 56 aL b6 :: H) w' ∧ v = aL) r) := by
 unfold ref56_Sorted_p at hm
 refine calls_of_W Tryz.func37 rfl rfl (Zc (Zd (Za rfl rfl (Zo (v := Value.slice none 0 0) rfl rfl (Zb (Ze (Zc (Zd (Za rfl rfl (Exec.buildSlice (Te := 56) (cs := []) hS rfl parts_nil (fun _ => by kernel_rfl) ?_))))))))))
 intro b7 cr aU
 refine Za rfl rfl (Zm (v := ap) rfl rfl ?_)
 have aV := St.boxArr (E := encLaunch) (xs := []) aU rfl (by simp [maxLen])
 obtain ⟨af, bo, hm⟩ := Zg hm
 refine Za rfl rfl (Exec.append_rep (E := encLaunch) (ys := ak) aV S27 Z56 rfl (by decide) rfl rfl rfl aM bo ?_)
 intro a ct aj
 refine Za rfl rfl (Zo (v := a) rfl rfl (Zb (Ze (Zc (Zc (Zd (Za rfl rfl (Zm (v := a) rfl rfl (Za rfl rfl (Exec.len_arr (aj) S27 rfl rfl (Za rfl rfl (Zm (v := Vi (0)) rfl rfl (Zb (Ze ?_))))))))))))))
 obtain ⟨al, aN, hm⟩ := Zg hm
 refine W_block (W_forS (fun k' s' f' w' => (fun (al : (List Launch)) => ∃ (aG : PHeap) , PHeap.le s aG ∧ St w0 aG (Res.arr encLaunch 56 a al :: H) w' ∧ f' 3 = a ∧ f' 10 = Vi ((af.length : Int)) ∧ f' 11 = Vi (k' : Int)) s') aN ?_ ?_ ?_)
 ·exact ⟨s, (Zv _), aj, rfl, rfl, rfl⟩
 ·intro q al b0 bQ cu bc aP ab
  obtain ⟨ao, bf, aW, bi, aB, aq⟩ := aP
  refine Zc (Zd (Za rfl rfl (Zq rfl aq aB (Zb (Ze (Zc (W_true (Zx (decide_eq_true (by omega))) (W_skip (Ze (Zc (W_block (Zc (Zd (Za rfl rfl (Zm (v := Vi ((q : Int))) rfl aq (Za rfl rfl (Zo (v := Vi ((q : Int))) rfl rfl (Zb (Ze (Zc (Zd (Za rfl rfl (Zm (v := Vi ((q : Int))) rfl rfl (Za rfl rfl (Zo (v := Vi ((q : Int))) rfl rfl (Zb (Ze ?_)))))))))))))))))))))))))))
  obtain ⟨ar, aO, cf, bd, bb⟩ := ctl_some ab
  refine W_mid (M := fun f' w' => ∃ s', (ar = .next s' ∨ ar = .brk s') ∧ (un2 fun (a7 : Int) (a8 : (List Launch)) => ∃ (aH : PHeap) , PHeap.le ao aH ∧ St w0 aH (Res.arr encLaunch 56 a a8 :: H) w' ∧ f' 3 = a ∧ f' 5 = Vi (a7) ∧ f' 10 = Vi ((af.length : Int)) ∧ f' 11 = Vi ((q : Int))) s') ?_ ?_
  ·refine W_block (W_while (fun s' f' w' => (un2 fun (g : Int) (am : (List Launch)) => ∃ (aI : PHeap) , PHeap.le ao aI ∧ St w0 aI (Res.arr encLaunch 56 a am :: H) w' ∧ f' 3 = a ∧ f' 5 = Vi (g) ∧ f' 10 = Vi ((af.length : Int)) ∧ f' 11 = Vi ((q : Int))) s') aO ?_ ?_)
   ·exact ⟨ao, (Zv _), aW, bi, rfl, aB, aq⟩
   intro b3 au bR cv aQ d be
   obtain ⟨g, am⟩ := b3
   replace d := un2_eq d
   obtain ⟨ac, a9, aX, p, o, ag, ah⟩ := aQ
   refine Zc (Zc ?_)
   obtain ⟨z, j, d⟩ := Zg d
   refine W_mid (M := fun f' w' => (fun (z : Bool) => ∃ (aJ : PHeap) , PHeap.le ac aJ ∧ St w0 aJ (Res.arr encLaunch 56 a am :: H) w' ∧ f' 3 = a ∧ f' 5 = Vi (g) ∧ f' 10 = Vi ((af.length : Int)) ∧ f' 11 = Vi ((q : Int)) ∧ f' 58 = Value.bool (z)) z) ?_ ?_
   ·refine W_dl (n0 := 44) (qs 0 44 .done) hmix (by kernel_rfl) (by kernel_rfl) ?_
    have l := aX.drew
    refine DL_q rfl rfl (Zm (v := Vi (g)) rfl o ⟨rfl, ?_⟩)
    refine DL_q rfl rfl (Exec.gtr rfl rfl rfl ⟨rfl, ?_⟩)
    refine DL_q rfl rfl (Zm (v := Value.bool (decide (0 < g))) rfl rfl ⟨rfl, ?_⟩)
    rcases ite_some j with ⟨b, j⟩ | ⟨b, j⟩
    ·refine DL_qg rfl rfl (Zf rfl (Zx b)) (Zm (v := a) rfl p ⟨rfl, ?_⟩)
     refine DL_qg rfl rfl (Zf rfl (Zx b)) (Zm (v := Vi (g)) rfl o ⟨rfl, ?_⟩)
     obtain ⟨ad, m, j⟩ := Zg j
     obtain ⟨bV, b8, av⟩ := (l).arr_at m
     refine DL_qg rfl rfl (Zf rfl (Zx b)) (Exec.index_slice S27 rfl av rfl (idx_some m).1 (idx_some m).2.1 ⟨rfl, ?_⟩)
     refine DL_qg rfl rfl (Zf rfl (Zx b)) (Zp F56_0 rfl rfl rfl ⟨rfl, ?_⟩)
     refine DL_qg rfl rfl (Zf rfl (Zx b)) (Exec.load_arr (F := (encInt .i64)) (l) av A3 rfl rfl rfl m (Sub.iso (Sub.fst (Sub.refl _))) ?_)
     intro cj bp
     obtain rfl := encInt_val.1 bp
     refine ⟨rfl, ?_⟩
     refine DL_qg rfl rfl (Zf rfl (Zx b)) (Zm (v := a) rfl p ⟨rfl, ?_⟩)
     refine DL_qg rfl rfl (Zf rfl (Zx b)) (Zm (v := Vi (g)) rfl o ⟨rfl, ?_⟩)
     refine DL_qg rfl rfl (Zf rfl (Zx b)) (Exec.sub rfl rfl rfl ⟨rfl, ?_⟩)
     obtain ⟨ae, n, j⟩ := Zg j
     obtain ⟨bW, b9, aw⟩ := (l).arr_at n
     refine DL_qg rfl rfl (Zf rfl (Zx b)) (Exec.index_slice S27 rfl aw rfl (idx_some n).1 (idx_some n).2.1 ⟨rfl, ?_⟩)
     refine DL_qg rfl rfl (Zf rfl (Zx b)) (Zp F56_0 rfl rfl rfl ⟨rfl, ?_⟩)
     refine DL_qg rfl rfl (Zf rfl (Zx b)) (Exec.load_arr (F := (encInt .i64)) (l) aw A3 rfl rfl rfl n (Sub.iso (Sub.fst (Sub.refl _))) ?_)
     intro ck bq
     obtain rfl := encInt_val.1 bq
     refine ⟨rfl, ?_⟩
     refine DL_qg rfl rfl (Zf rfl (Zx b)) (Zq rfl rfl rfl ⟨rfl, ?_⟩)
     refine DL_qg rfl rfl (Zf rfl (Zx b)) (Zm (v := Value.bool (decide (ad.At < ae.At))) rfl rfl ⟨rfl, ?_⟩)
     rcases ite_some j with ⟨c, j⟩ | ⟨c, j⟩
     ·refine DL_passes 26 (by rw [c]; rfl) ?_
      refine DL_qg rfl rfl (Zf rfl (Zx b)) (Zs (v := Value.bool (true)) rfl rfl rfl ⟨rfl, ?_⟩)
      refine DL_q rfl rfl (Zs (v := Value.bool (true)) rfl (Zx b) rfl ⟨rfl, ?_⟩)
      refine DL_done (Zb (Ze ?_))
      have bI := Zu j
      subst z
      exact ⟨ac, (Zv _), l, p, o, ag, ah, rfl⟩
     replace c := Zk c
     refine DL_qg rfl rfl (Zf rfl (Zx c)) (Zm (v := a) rfl p ⟨rfl, ?_⟩)
     refine DL_qg rfl rfl (Zf rfl (Zx c)) (Zm (v := Vi (g)) rfl o ⟨rfl, ?_⟩)
     obtain ⟨bX, bA, ax⟩ := (l).arr_at m
     refine DL_qg rfl rfl (Zf rfl (Zx c)) (Exec.index_slice S27 rfl ax rfl (idx_some m).1 (idx_some m).2.1 ⟨rfl, ?_⟩)
     refine DL_qg rfl rfl (Zf rfl (Zx c)) (Zp F56_0 rfl rfl rfl ⟨rfl, ?_⟩)
     refine DL_qg rfl rfl (Zf rfl (Zx c)) (Exec.load_arr (F := (encInt .i64)) (l) ax A3 rfl rfl rfl m (Sub.iso (Sub.fst (Sub.refl _))) ?_)
     intro cl br
     obtain rfl := encInt_val.1 br
     refine ⟨rfl, ?_⟩
     refine DL_qg rfl rfl (Zf rfl (Zx c)) (Zm (v := a) rfl p ⟨rfl, ?_⟩)
     refine DL_qg rfl rfl (Zf rfl (Zx c)) (Zm (v := Vi (g)) rfl o ⟨rfl, ?_⟩)
     refine DL_qg rfl rfl (Zf rfl (Zx c)) (Exec.sub rfl rfl rfl ⟨rfl, ?_⟩)
     obtain ⟨bY, bB, ay⟩ := (l).arr_at n
     refine DL_qg rfl rfl (Zf rfl (Zx c)) (Exec.index_slice S27 rfl ay rfl (idx_some n).1 (idx_some n).2.1 ⟨rfl, ?_⟩)
     refine DL_qg rfl rfl (Zf rfl (Zx c)) (Zp F56_0 rfl rfl rfl ⟨rfl, ?_⟩)
     refine DL_qg rfl rfl (Zf rfl (Zx c)) (Exec.load_arr (F := (encInt .i64)) (l) ay A3 rfl rfl rfl n (Sub.iso (Sub.fst (Sub.refl _))) ?_)
     intro cm bs
     obtain rfl := encInt_val.1 bs
     refine ⟨rfl, ?_⟩
     refine DL_qg rfl rfl (Zf rfl (Zx c)) (Exec.eql rfl rfl rfl ⟨rfl, ?_⟩)
     refine DL_qg rfl rfl (Zf rfl (Zx c)) (Zm (v := Value.bool (decide (ad.At = ae.At))) rfl rfl ⟨rfl, ?_⟩)
     rcases ite_some j with ⟨i, j⟩ | ⟨i, j⟩
     ·refine DL_qg rfl rfl (Zf rfl (Zx i)) (Zm (v := a) rfl p ⟨rfl, ?_⟩)
      refine DL_qg rfl rfl (Zf rfl (Zx i)) (Zm (v := Vi (g)) rfl o ⟨rfl, ?_⟩)
      obtain ⟨bZ, bC, az⟩ := (l).arr_at m
      refine DL_qg rfl rfl (Zf rfl (Zx i)) (Exec.index_slice S27 rfl az rfl (idx_some m).1 (idx_some m).2.1 ⟨rfl, ?_⟩)
      refine DL_qg rfl rfl (Zf rfl (Zx i)) (Zp F56_1 rfl rfl rfl ⟨rfl, ?_⟩)
      refine DL_qg rfl rfl (Zf rfl (Zx i)) (Exec.load_arr (F := (encInt .i64)) (l) az A3 rfl rfl rfl m (Sub.iso (Sub.snd (Sub.refl _) rfl)) ?_)
      intro cn bt
      obtain rfl := encInt_val.1 bt
      refine ⟨rfl, ?_⟩
      refine DL_qg rfl rfl (Zf rfl (Zx i)) (Zm (v := a) rfl p ⟨rfl, ?_⟩)
      refine DL_qg rfl rfl (Zf rfl (Zx i)) (Zm (v := Vi (g)) rfl o ⟨rfl, ?_⟩)
      refine DL_qg rfl rfl (Zf rfl (Zx i)) (Exec.sub rfl rfl rfl ⟨rfl, ?_⟩)
      obtain ⟨ca, bD, a0⟩ := (l).arr_at n
      refine DL_qg rfl rfl (Zf rfl (Zx i)) (Exec.index_slice S27 rfl a0 rfl (idx_some n).1 (idx_some n).2.1 ⟨rfl, ?_⟩)
      refine DL_qg rfl rfl (Zf rfl (Zx i)) (Zp F56_1 rfl rfl rfl ⟨rfl, ?_⟩)
      refine DL_qg rfl rfl (Zf rfl (Zx i)) (Exec.load_arr (F := (encInt .i64)) (l) a0 A3 rfl rfl rfl n (Sub.iso (Sub.snd (Sub.refl _) rfl)) ?_)
      intro co bu
      obtain rfl := encInt_val.1 bu
      refine ⟨rfl, ?_⟩
      refine DL_qg rfl rfl (Zf rfl (Zx i)) (Zq rfl rfl rfl ⟨rfl, ?_⟩)
      refine DL_qg rfl rfl (Zf rfl (Zx c)) (Zs (v := Value.bool (decide (ad.Job < ae.Job))) rfl (Zx i) rfl ⟨rfl, ?_⟩)
      refine DL_qg rfl rfl (Zf rfl (Zx b)) (Exec.pick_f (v := Value.bool (decide (ad.Job < ae.Job))) rfl (Zx c) rfl ⟨rfl, ?_⟩)
      refine DL_q rfl rfl (Zs (v := Value.bool (decide (ad.Job < ae.Job))) rfl (Zx b) rfl ⟨rfl, ?_⟩)
      refine DL_done (Zb (Ze ?_))
      have bJ := Zu j
      subst z
      exact ⟨ac, (Zv _), l, p, o, ag, ah, rfl⟩
     replace i := Zk i
     refine DL_passes 12 (by rw [i]; rfl) ?_
     refine DL_qg rfl rfl (Zf rfl (Zx c)) (Exec.pick_f (v := Value.bool (false)) rfl rfl rfl ⟨rfl, ?_⟩)
     refine DL_qg rfl rfl (Zf rfl (Zx b)) (Exec.pick_f (v := Value.bool (false)) rfl (Zx c) rfl ⟨rfl, ?_⟩)
     refine DL_q rfl rfl (Zs (v := Value.bool (false)) rfl (Zx b) rfl ⟨rfl, ?_⟩)
     refine DL_done (Zb (Ze ?_))
     have bK := Zu j
     subst z
     exact ⟨ac, (Zv _), l, p, o, ag, ah, rfl⟩
    replace b := Zk b
    refine DL_passes 41 (by rw [b]; rfl) ?_
    refine DL_done (Zb (Ze ?_))
    have bL := Zu j
    subst z
    exact ⟨ac, (Zv _), l, p, o, ag, ah, rfl⟩
   intro bS cw aS
   obtain ⟨aK, aA, t, u, x, aC, aD, aE⟩ := aS
   refine (Ze ?_)
   rcases ite_some d with ⟨aa, d⟩ | ⟨aa, d⟩
   ·refine W_cond_t aE aa (W_skip (Ze (Zc (W_block (W_dl (n0 := 16) (qs 0 15 (.e 15 [2, 3, 4] .done)) hmix (by kernel_rfl) (by kernel_rfl) (DL_q rfl rfl (Zm (v := a) rfl u ⟨rfl, ?_⟩)))))))
    refine DL_q rfl rfl (Zm (v := Vi (g)) rfl x ⟨rfl, ?_⟩)
    refine DL_q rfl rfl (Zm (v := a) rfl u ⟨rfl, ?_⟩)
    refine DL_q rfl rfl (Zm (v := Vi (g)) rfl x ⟨rfl, ?_⟩)
    refine DL_q rfl rfl (Exec.sub rfl rfl rfl ⟨rfl, ?_⟩)
    refine DL_q rfl rfl (Zm (v := a) rfl u ⟨rfl, ?_⟩)
    refine DL_q rfl rfl (Zm (v := Vi (g)) rfl x ⟨rfl, ?_⟩)
    refine DL_q rfl rfl (Exec.sub rfl rfl rfl ⟨rfl, ?_⟩)
    obtain ⟨c1, ai, d⟩ := Zg d
    obtain ⟨cb, bE, a1⟩ := (t.drew).arr_at ai
    refine DL_q rfl rfl (Exec.index_slice S27 rfl a1 rfl (idx_some ai).1 (idx_some ai).2.1 ⟨rfl, ?_⟩)
    refine DL_q rfl rfl (Exec.load_arr (F := encLaunch) (t.drew) a1 A56 rfl rfl rfl ai (Sub.refl _) ?_)
    intro cp bv
    obtain rfl := encLaunch_val.1 bv
    refine ⟨rfl, ?_⟩
    refine DL_q rfl rfl (Zm (v := a) rfl u ⟨rfl, ?_⟩)
    refine DL_q rfl rfl (Zm (v := Vi (g)) rfl x ⟨rfl, ?_⟩)
    obtain ⟨c2, y, d⟩ := Zg d
    obtain ⟨cc, bF, a2⟩ := (t.drew).arr_at y
    refine DL_q rfl rfl (Exec.index_slice S27 rfl a2 rfl (idx_some y).1 (idx_some y).2.1 ⟨rfl, ?_⟩)
    refine DL_q rfl rfl (Exec.load_arr (F := encLaunch) (t.drew) a2 A56 rfl rfl rfl y (Sub.refl _) ?_)
    intro cq bw
    obtain rfl := encLaunch_val.1 bw
    refine ⟨rfl, ?_⟩
    obtain ⟨cd, bG, a3⟩ := (t.drew).arr_at y
    refine DL_q rfl rfl (Exec.index_slice S27 rfl a3 rfl (idx_some y).1 (idx_some y).2.1 ⟨rfl, ?_⟩)
    obtain ⟨cg, bx, d⟩ := Zg d
    refine DL_e rfl rfl (Exec.store_arr t.drew a3 A56 rfl rfl rfl rfl (encLaunch_val.2 rfl) bx ?_)
    intro cx a5
    refine ⟨(ag_cons (ag_r rfl rfl (Zm (v := a) rfl u ⟨rfl, rfl⟩)) (ag_cons (ag_r rfl rfl (Zm (v := Vi (g)) rfl x ⟨rfl, rfl⟩)) (ag_cons (ag_r rfl rfl (Exec.sub rfl rfl rfl ⟨rfl, rfl⟩)) ag_nil))), ?_⟩
    refine DL_done ?_
    obtain ⟨c3, an, d⟩ := Zg d
    obtain ⟨ce, bH, a4⟩ := (a5).arr_at an
    refine Za rfl rfl (Exec.index_slice S27 rfl a4 rfl (idx_some an).1 (idx_some an).2.1 ?_)
    obtain ⟨ch, bz, d⟩ := Zg d
    refine Za rfl rfl (Exec.store_arr a5 a4 A56 rfl rfl rfl rfl (encLaunch_val.2 rfl) bz ?_)
    intro cy aY
    refine Zb (ib_normal (Ze (Zd (Za rfl rfl (Zm (v := Vi (g)) rfl x (Za rfl rfl (Exec.sub rfl rfl rfl (Za rfl rfl (Zo (v := Vi (IntKind.i64.wrap (g - 1))) rfl rfl (Zb (Ze ?_)))))))))))
    have bM := Zu d
    subst au
    refine ⟨_, rfl, ?_⟩; exact ⟨aK, (Zt a9 aA), aY, u, rfl, aC, aD⟩
   refine W_cond_f aE aa ?_
   replace aa := Zk aa
   refine W_exit (at_exit (at_exit (ib_here (Ze ?_))))
   have bN := Zu d
   subst au
   refine ⟨_, .inr (be (by intro _ h; cases h)), ?_⟩; exact ⟨aK, (Zt a9 aA), t, u, x, aC, aD⟩
  rintro bT cz ⟨b4, a6, aT⟩
  have ab := a6.elim (bd _) (bb _)
  clear a6
  obtain ⟨a7, a8⟩ := b4
  replace ab := un2_eq ab
  obtain ⟨b1, bg, aZ, bj, ci, bk, bl⟩ := aT
  refine (ib_normal (Ze (Zd (Za rfl rfl (Exec.add rfl bl rfl (Za rfl rfl (Zm (v := Vi (IntKind.i64.wrap ((q : Int) + 1))) rfl rfl (Zb (Ze ?_)))))))))
  have bO := Zu ab
  subst b0
  exact ⟨b1, (Zt bf bg), aZ, bj, bk, (Eq.trans rfl (wrap_up bc (aj).arr_le))⟩
 intro bU c0 aR
 obtain ⟨b2, bh, ba, bm, bn, b5⟩ := aR
 refine Zc (Zd (Za rfl rfl (Zq rfl b5 bn (Zb (Ze (Zc (W_false (Zx (decide_eq_false (by omega))) (W_exit (at_exit (at_exit (ib_here (Ze (Zc (Zd (Za rfl rfl (Zm (v := a) rfl bm (Za rfl rfl (Zo (v := a) rfl rfl (Zb (Ze (W_ret ?_)))))))))))))))))))))
 have bP := Zu hm
 subst r
 refine ⟨_, ret1 rfl, ?_⟩
 exact ⟨b2, a, bh, ba, rfl⟩
theorem ref55_End_sim {w0 w : World} {s : PHeap} {H : List Res} {c : Temporal} {a : Launch} {d : Value} {f : Value} {g : Value} {h : Value} {r : Int} (hm : ref55_End_p c a = some r) (hS : St w0 s (H) w) (q : SliceRep (encInt .i64) s d c.Vars) (t : SliceRep (encInt .i64) s f c.Init) (u : SliceRep encFact s g c.Goal) (j : SliceRep encJob s h c.Jobs) :
  Calls Tryz.prog 21 #[Value.agg #[d, f, g, h], Value.agg #[Vi (a.At), Vi (a.Job)]] w fun e w' => ∃ v, e = .returned v ∧ ((fun (p : Int) => ∃ (i : PHeap) , PHeap.le s i ∧ St w0 i (H) w' ∧ v = Vi (p)) r) := by
 unfold ref55_End_p at hm
 refine calls_of_W Tryz.func21 rfl rfl (Zc (Zd (Za rfl rfl (Exec.box (cs := [d, f, g, h]) hS rfl rfl rfl ?_))))
 intro x ae l
 refine Za rfl rfl (Exec.box (cs := [Vi (a.At), Vi (a.Job)]) l rfl rfl rfl ?_)
 intro y af b
 refine Za rfl rfl (Zo (v := Vi (0)) rfl rfl (Zb (Ze (Zc (W_dl (n0 := 10) (qs 0 10 .done) hmix (by kernel_rfl) (by kernel_rfl) (DL_q rfl rfl (Zp F56_0 rfl rfl rfl ⟨rfl, ?_⟩)))))))
 refine DL_q rfl rfl (Zn (b.drew) A3 rfl rfl rfl ⟨rfl, ?_⟩)
 refine DL_q rfl rfl (Zp F26_3 rfl rfl rfl ⟨rfl, ?_⟩)
 refine DL_q rfl rfl (Zn ((b.drew).f1) A24 rfl rfl rfl ⟨rfl, ?_⟩)
 refine DL_q rfl rfl (Zp F56_1 rfl rfl rfl ⟨rfl, ?_⟩)
 refine DL_q rfl rfl (Zn (b.drew) A3 rfl rfl rfl ⟨rfl, ?_⟩)
 obtain ⟨o, m, hm⟩ := Zg hm
 refine DL_q rfl rfl (Exec.index_repE S24 rfl rfl rfl j m ?_)
 intro z ac k aa
 refine ⟨rfl, ?_⟩
 refine DL_q rfl rfl (Zp F63_1 rfl rfl rfl ⟨rfl, ?_⟩)
 refine DL_q rfl rfl (Zw (E := (encInt .i64)) b.drew A3 rfl rfl rfl (k.sub (Sub.iso (Sub.snd (Sub.fst (Sub.refl _)) rfl)) rfl) ?_)
 intro ad n
 obtain rfl := encInt_val.1 n
 refine ⟨rfl, ?_⟩
 refine DL_q rfl rfl (Exec.add rfl rfl rfl ⟨rfl, ?_⟩)
 refine DL_done (Za rfl rfl (Zo (v := Vi (IntKind.i64.wrap (a.At + o.Duration))) rfl rfl (Zb (Ze (W_ret ?_)))))
 have ab := Zu hm
 subst r
 refine ⟨_, ret1 rfl, ?_⟩
 exact ⟨s, (Zv _), ((b.drew).drop).drop, rfl⟩
end Go.Pw
