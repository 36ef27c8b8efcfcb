/-
  The walks (printed by my generator).
-/
import Derived.Test.YtoofdhjblbnppaaL29
import Derived.Test.YtoofdhjblbnppaaL27
import Derived.Test.YtoofdhjblbnppaaYa3
set_option maxRecDepth 100000
set_option maxHeartbeats 4000000
set_option linter.unusedVariables false
namespace Go.Pw
open Go.Proofs
theorem ref56_Sorted_sim {w0 w : World} {s : PHeap} {H : List Res} {ak : (List Launch)} {ap : Value} {r : (List Launch)} (hm : ref56_Sorted_p ak = some r) (hS : St w0 s (H) w) (aM : SliceRep encLaunch s ap ak) :
  Calls Try.prog 12 #[ap] w fun e w' => ∃ v, e = .returned v ∧ ((fun (bC : (List Launch)) => ∃ (aF : PHeap) (aL : Value), PHeap.le s aF ∧ St w0 aF (Res.arr encLaunch 39 aL bC :: H) w' ∧ v = aL) r) := by
 unfold ref56_Sorted_p at hm
 refine calls_of_W Try.func12 rfl rfl (Zc (Zd (Za rfl rfl (Zo (v := Value.slice none 0 0) rfl rfl (Zb (Ze (Zc (Zd (Za rfl rfl (Exec.buildSlice (Te := 39) (cs := []) hS rfl parts_nil (fun _ => by kernel_rfl) ?_))))))))))
 intro bD cr aU
 refine Za rfl rfl (Zm (v := ap) rfl rfl ?_)
 have aV := St.boxArr (E := encLaunch) (xs := []) aU rfl (by simp [maxLen])
 obtain ⟨af, bo, hm⟩ := Zg hm
 refine Za rfl rfl (Exec.append_rep (E := encLaunch) (ys := ak) aV S27 Z39 rfl (by decide) rfl rfl rfl aM bo ?_)
 intro a ct aj
 refine Za rfl rfl (Zo (v := a) rfl rfl (Zb (Ze (Zc (Zc (Zd (Za rfl rfl (Zm (v := a) rfl rfl (Za rfl rfl (Exec.len_arr (aj) S27 rfl rfl (Za rfl rfl (Zm (v := Vi (0)) rfl rfl (Zb (Ze ?_))))))))))))))
 obtain ⟨al, aN, hm⟩ := Zg hm
 refine W_block (W_forS (fun k' s' f' w' => (fun (al : (List Launch)) => ∃ (aG : PHeap) , PHeap.le s aG ∧ St w0 aG (Res.arr encLaunch 39 a al :: H) w' ∧ f' 3 = a ∧ f' 10 = Vi ((af.length : Int)) ∧ f' 11 = Vi (k' : Int)) s') aN ?_ ?_ ?_)
 ·exact ⟨s, (Zv _), aj, rfl, rfl, rfl⟩
 ·intro q al b0 bW cu bc aP ad
  obtain ⟨ao, bf, aW, bi, aB, aq⟩ := aP
  refine Zc (Zd (Za rfl rfl (Zq rfl aq aB (Zb (Ze (Zc (W_true (Zx (decide_eq_true (by omega))) (W_skip (Ze (Zc (W_block (Zc (Zd (Za rfl rfl (Zm (v := Vi ((q : Int))) rfl aq (Za rfl rfl (Zo (v := Vi ((q : Int))) rfl rfl (Zb (Ze (Zc (Zd (Za rfl rfl (Zm (v := Vi ((q : Int))) rfl rfl (Za rfl rfl (Zo (v := Vi ((q : Int))) rfl rfl (Zb (Ze ?_)))))))))))))))))))))))))))
  obtain ⟨ar, aO, cl, bd, bb⟩ := ctl_some ad
  refine W_mid (M := fun f' w' => ∃ s', (ar = .next s' ∨ ar = .brk s') ∧ (un2 fun (a7 : Int) (a8 : (List Launch)) => ∃ (aH : PHeap) , PHeap.le ao aH ∧ St w0 aH (Res.arr encLaunch 39 a a8 :: H) w' ∧ f' 3 = a ∧ f' 5 = Vi (a7) ∧ f' 10 = Vi ((af.length : Int)) ∧ f' 11 = Vi ((q : Int))) s') ?_ ?_
  ·refine W_block (W_while (fun s' f' w' => (un2 fun (g : Int) (am : (List Launch)) => ∃ (aI : PHeap) , PHeap.le ao aI ∧ St w0 aI (Res.arr encLaunch 39 a am :: H) w' ∧ f' 3 = a ∧ f' 5 = Vi (g) ∧ f' 10 = Vi ((af.length : Int)) ∧ f' 11 = Vi ((q : Int))) s') aO ?_ ?_)
   ·exact ⟨ao, (Zv _), aW, bi, rfl, aB, aq⟩
   intro b3 au bX cv aQ d be
   obtain ⟨g, am⟩ := b3
   replace d := un2_eq d
   obtain ⟨ae, a9, aX, p, o, ag, ah⟩ := aQ
   refine Zc (Zc ?_)
   obtain ⟨ab, j, d⟩ := Zg d
   refine W_mid (M := fun f' w' => (fun (ab : Bool) => ∃ (aJ : PHeap) , PHeap.le ae aJ ∧ St w0 aJ (Res.arr encLaunch 39 a am :: H) w' ∧ f' 3 = a ∧ f' 5 = Vi (g) ∧ f' 10 = Vi ((af.length : Int)) ∧ f' 11 = Vi ((q : Int)) ∧ f' 58 = Value.bool (ab)) ab) ?_ ?_
   ·refine W_dl (n0 := 44) (qs 0 44 .done) hmix (by kernel_rfl) (by kernel_rfl) ?_
    have l := aX.drew
    refine DL_q rfl rfl (Zm (v := Vi (g)) rfl o ⟨rfl, ?_⟩)
    refine DL_q rfl rfl (Exec.gtr rfl rfl rfl ⟨rfl, ?_⟩)
    refine DL_q rfl rfl (Zm (v := Value.bool (decide (0 < g))) rfl rfl ⟨rfl, ?_⟩)
    rcases ite_some j with ⟨b, j⟩ | ⟨b, j⟩
    ·refine DL_qg rfl rfl (Zf rfl (Zx b)) (Zm (v := a) rfl p ⟨rfl, ?_⟩)
     refine DL_qg rfl rfl (Zf rfl (Zx b)) (Zm (v := Vi (g)) rfl o ⟨rfl, ?_⟩)
     obtain ⟨t, m, j⟩ := Zg j
     obtain ⟨cb, bE, av⟩ := (l).arr_at m
     refine DL_qg rfl rfl (Zf rfl (Zx b)) (Exec.index_slice S27 rfl av rfl (idx_some m).1 (idx_some m).2.1 ⟨rfl, ?_⟩)
     refine DL_qg rfl rfl (Zf rfl (Zx b)) (Zp F39_0 rfl rfl rfl ⟨rfl, ?_⟩)
     refine DL_qg rfl rfl (Zf rfl (Zx b)) (Exec.load_arr (F := (encInt .i64)) (l) av A3 rfl rfl rfl m (Sub.iso (Sub.fst (Sub.refl _))) ?_)
     intro b5 bp
     obtain rfl : b5 = Vi (t.At) := encInt_val.1 bp
     refine ⟨rfl, ?_⟩
     refine DL_qg rfl rfl (Zf rfl (Zx b)) (Zm (v := a) rfl p ⟨rfl, ?_⟩)
     refine DL_qg rfl rfl (Zf rfl (Zx b)) (Zm (v := Vi (g)) rfl o ⟨rfl, ?_⟩)
     refine DL_qg rfl rfl (Zf rfl (Zx b)) (Exec.sub rfl rfl rfl ⟨rfl, ?_⟩)
     obtain ⟨u, n, j⟩ := Zg j
     obtain ⟨cc, bF, aw⟩ := (l).arr_at n
     refine DL_qg rfl rfl (Zf rfl (Zx b)) (Exec.index_slice S27 rfl aw rfl (idx_some n).1 (idx_some n).2.1 ⟨rfl, ?_⟩)
     refine DL_qg rfl rfl (Zf rfl (Zx b)) (Zp F39_0 rfl rfl rfl ⟨rfl, ?_⟩)
     refine DL_qg rfl rfl (Zf rfl (Zx b)) (Exec.load_arr (F := (encInt .i64)) (l) aw A3 rfl rfl rfl n (Sub.iso (Sub.fst (Sub.refl _))) ?_)
     intro b6 bq
     obtain rfl : b6 = Vi (u.At) := encInt_val.1 bq
     refine ⟨rfl, ?_⟩
     refine DL_qg rfl rfl (Zf rfl (Zx b)) (Zq rfl rfl rfl ⟨rfl, ?_⟩)
     refine DL_qg rfl rfl (Zf rfl (Zx b)) (Zm (v := Value.bool (decide (t.At < u.At))) rfl rfl ⟨rfl, ?_⟩)
     rcases ite_some j with ⟨c, j⟩ | ⟨c, j⟩
     ·refine DL_passes 26 (by rw [c]; rfl) ?_
      refine DL_qg rfl rfl (Zf rfl (Zx b)) (Zs (v := Value.bool (true)) rfl rfl rfl ⟨rfl, ?_⟩)
      refine DL_q rfl rfl (Zs (v := Value.bool (true)) rfl (Zx b) rfl ⟨rfl, ?_⟩)
      refine DL_done (Zb (Ze ?_))
      have bO := Zu j
      subst ab
      exact ⟨ae, (Zv _), l, p, o, ag, ah, rfl⟩
     replace c := Zk c
     refine DL_qg rfl rfl (Zf rfl (Zx c)) (Zm (v := a) rfl p ⟨rfl, ?_⟩)
     refine DL_qg rfl rfl (Zf rfl (Zx c)) (Zm (v := Vi (g)) rfl o ⟨rfl, ?_⟩)
     obtain ⟨cd, bG, ax⟩ := (l).arr_at m
     refine DL_qg rfl rfl (Zf rfl (Zx c)) (Exec.index_slice S27 rfl ax rfl (idx_some m).1 (idx_some m).2.1 ⟨rfl, ?_⟩)
     refine DL_qg rfl rfl (Zf rfl (Zx c)) (Zp F39_0 rfl rfl rfl ⟨rfl, ?_⟩)
     refine DL_qg rfl rfl (Zf rfl (Zx c)) (Exec.load_arr (F := (encInt .i64)) (l) ax A3 rfl rfl rfl m (Sub.iso (Sub.fst (Sub.refl _))) ?_)
     intro b7 br
     obtain rfl : b7 = Vi (t.At) := encInt_val.1 br
     refine ⟨rfl, ?_⟩
     refine DL_qg rfl rfl (Zf rfl (Zx c)) (Zm (v := a) rfl p ⟨rfl, ?_⟩)
     refine DL_qg rfl rfl (Zf rfl (Zx c)) (Zm (v := Vi (g)) rfl o ⟨rfl, ?_⟩)
     refine DL_qg rfl rfl (Zf rfl (Zx c)) (Exec.sub rfl rfl rfl ⟨rfl, ?_⟩)
     obtain ⟨ce, bH, ay⟩ := (l).arr_at n
     refine DL_qg rfl rfl (Zf rfl (Zx c)) (Exec.index_slice S27 rfl ay rfl (idx_some n).1 (idx_some n).2.1 ⟨rfl, ?_⟩)
     refine DL_qg rfl rfl (Zf rfl (Zx c)) (Zp F39_0 rfl rfl rfl ⟨rfl, ?_⟩)
     refine DL_qg rfl rfl (Zf rfl (Zx c)) (Exec.load_arr (F := (encInt .i64)) (l) ay A3 rfl rfl rfl n (Sub.iso (Sub.fst (Sub.refl _))) ?_)
     intro b8 bs
     obtain rfl : b8 = Vi (u.At) := encInt_val.1 bs
     refine ⟨rfl, ?_⟩
     refine DL_qg rfl rfl (Zf rfl (Zx c)) (Exec.eql rfl rfl rfl ⟨rfl, ?_⟩)
     refine DL_qg rfl rfl (Zf rfl (Zx c)) (Zm (v := Value.bool (decide (t.At = u.At))) rfl rfl ⟨rfl, ?_⟩)
     rcases ite_some j with ⟨i, j⟩ | ⟨i, j⟩
     ·refine DL_qg rfl rfl (Zf rfl (Zx i)) (Zm (v := a) rfl p ⟨rfl, ?_⟩)
      refine DL_qg rfl rfl (Zf rfl (Zx i)) (Zm (v := Vi (g)) rfl o ⟨rfl, ?_⟩)
      obtain ⟨cf, bI, az⟩ := (l).arr_at m
      refine DL_qg rfl rfl (Zf rfl (Zx i)) (Exec.index_slice S27 rfl az rfl (idx_some m).1 (idx_some m).2.1 ⟨rfl, ?_⟩)
      refine DL_qg rfl rfl (Zf rfl (Zx i)) (Zp F39_1 rfl rfl rfl ⟨rfl, ?_⟩)
      refine DL_qg rfl rfl (Zf rfl (Zx i)) (Exec.load_arr (F := (encInt .i64)) (l) az A3 rfl rfl rfl m (Sub.iso (Sub.snd (Sub.refl _) rfl)) ?_)
      intro b9 bt
      obtain rfl : b9 = Vi (t.Job) := encInt_val.1 bt
      refine ⟨rfl, ?_⟩
      refine DL_qg rfl rfl (Zf rfl (Zx i)) (Zm (v := a) rfl p ⟨rfl, ?_⟩)
      refine DL_qg rfl rfl (Zf rfl (Zx i)) (Zm (v := Vi (g)) rfl o ⟨rfl, ?_⟩)
      refine DL_qg rfl rfl (Zf rfl (Zx i)) (Exec.sub rfl rfl rfl ⟨rfl, ?_⟩)
      obtain ⟨cg, bJ, a0⟩ := (l).arr_at n
      refine DL_qg rfl rfl (Zf rfl (Zx i)) (Exec.index_slice S27 rfl a0 rfl (idx_some n).1 (idx_some n).2.1 ⟨rfl, ?_⟩)
      refine DL_qg rfl rfl (Zf rfl (Zx i)) (Zp F39_1 rfl rfl rfl ⟨rfl, ?_⟩)
      refine DL_qg rfl rfl (Zf rfl (Zx i)) (Exec.load_arr (F := (encInt .i64)) (l) a0 A3 rfl rfl rfl n (Sub.iso (Sub.snd (Sub.refl _) rfl)) ?_)
      intro bA bu
      obtain rfl : bA = Vi (u.Job) := encInt_val.1 bu
      refine ⟨rfl, ?_⟩
      refine DL_qg rfl rfl (Zf rfl (Zx i)) (Zq rfl rfl rfl ⟨rfl, ?_⟩)
      refine DL_qg rfl rfl (Zf rfl (Zx c)) (Zs (v := Value.bool (decide (t.Job < u.Job))) rfl (Zx i) rfl ⟨rfl, ?_⟩)
      refine DL_qg rfl rfl (Zf rfl (Zx b)) (Exec.pick_f (v := Value.bool (decide (t.Job < u.Job))) rfl (Zx c) rfl ⟨rfl, ?_⟩)
      refine DL_q rfl rfl (Zs (v := Value.bool (decide (t.Job < u.Job))) rfl (Zx b) rfl ⟨rfl, ?_⟩)
      refine DL_done (Zb (Ze ?_))
      have bP := Zu j
      subst ab
      exact ⟨ae, (Zv _), l, p, o, ag, ah, rfl⟩
     replace i := Zk i
     refine DL_passes 12 (by rw [i]; rfl) ?_
     refine DL_qg rfl rfl (Zf rfl (Zx c)) (Exec.pick_f (v := Value.bool (false)) rfl rfl rfl ⟨rfl, ?_⟩)
     refine DL_qg rfl rfl (Zf rfl (Zx b)) (Exec.pick_f (v := Value.bool (false)) rfl (Zx c) rfl ⟨rfl, ?_⟩)
     refine DL_q rfl rfl (Zs (v := Value.bool (false)) rfl (Zx b) rfl ⟨rfl, ?_⟩)
     refine DL_done (Zb (Ze ?_))
     have bQ := Zu j
     subst ab
     exact ⟨ae, (Zv _), l, p, o, ag, ah, rfl⟩
    replace b := Zk b
    refine DL_passes 41 (by rw [b]; rfl) ?_
    refine DL_done (Zb (Ze ?_))
    have bR := Zu j
    subst ab
    exact ⟨ae, (Zv _), l, p, o, ag, ah, rfl⟩
   intro bY cw aS
   obtain ⟨aK, aA, x, y, z, aC, aD, aE⟩ := aS
   refine (Ze ?_)
   rcases ite_some d with ⟨ac, d⟩ | ⟨ac, d⟩
   ·refine W_cond_t aE ac (W_skip (Ze (Zc (W_block (W_dl (n0 := 16) (qs 0 15 (.e 15 [2, 3, 4] .done)) hmix (by kernel_rfl) (by kernel_rfl) (DL_q rfl rfl (Zm (v := a) rfl y ⟨rfl, ?_⟩)))))))
    refine DL_q rfl rfl (Zm (v := Vi (g)) rfl z ⟨rfl, ?_⟩)
    refine DL_q rfl rfl (Zm (v := a) rfl y ⟨rfl, ?_⟩)
    refine DL_q rfl rfl (Zm (v := Vi (g)) rfl z ⟨rfl, ?_⟩)
    refine DL_q rfl rfl (Exec.sub rfl rfl rfl ⟨rfl, ?_⟩)
    refine DL_q rfl rfl (Zm (v := a) rfl y ⟨rfl, ?_⟩)
    refine DL_q rfl rfl (Zm (v := Vi (g)) rfl z ⟨rfl, ?_⟩)
    refine DL_q rfl rfl (Exec.sub rfl rfl rfl ⟨rfl, ?_⟩)
    obtain ⟨c1, ai, d⟩ := Zg d
    obtain ⟨ch, bK, a1⟩ := (x.drew).arr_at ai
    refine DL_q rfl rfl (Exec.index_slice S27 rfl a1 rfl (idx_some ai).1 (idx_some ai).2.1 ⟨rfl, ?_⟩)
    refine DL_q rfl rfl (Exec.load_arr (F := encLaunch) (x.drew) a1 A39 rfl rfl rfl ai (Sub.refl _) ?_)
    intro cp bv
    obtain rfl := encLaunch_val.1 bv
    refine ⟨rfl, ?_⟩
    refine DL_q rfl rfl (Zm (v := a) rfl y ⟨rfl, ?_⟩)
    refine DL_q rfl rfl (Zm (v := Vi (g)) rfl z ⟨rfl, ?_⟩)
    obtain ⟨c2, aa, d⟩ := Zg d
    obtain ⟨ci, bL, a2⟩ := (x.drew).arr_at aa
    refine DL_q rfl rfl (Exec.index_slice S27 rfl a2 rfl (idx_some aa).1 (idx_some aa).2.1 ⟨rfl, ?_⟩)
    refine DL_q rfl rfl (Exec.load_arr (F := encLaunch) (x.drew) a2 A39 rfl rfl rfl aa (Sub.refl _) ?_)
    intro cq bw
    obtain rfl := encLaunch_val.1 bw
    refine ⟨rfl, ?_⟩
    obtain ⟨cj, bM, a3⟩ := (x.drew).arr_at aa
    refine DL_q rfl rfl (Exec.index_slice S27 rfl a3 rfl (idx_some aa).1 (idx_some aa).2.1 ⟨rfl, ?_⟩)
    obtain ⟨cm, bx, d⟩ := Zg d
    refine DL_e rfl rfl (Exec.store_arr x.drew a3 A39 rfl rfl rfl rfl (encLaunch_val.2 rfl) bx ?_)
    intro cx a5
    refine ⟨(ag_cons (ag_r rfl rfl (Zm (v := a) rfl y ⟨rfl, rfl⟩)) (ag_cons (ag_r rfl rfl (Zm (v := Vi (g)) rfl z ⟨rfl, rfl⟩)) (ag_cons (ag_r rfl rfl (Exec.sub rfl rfl rfl ⟨rfl, rfl⟩)) ag_nil))), ?_⟩
    refine DL_done ?_
    obtain ⟨c3, an, d⟩ := Zg d
    obtain ⟨ck, bN, a4⟩ := (a5).arr_at an
    refine Za rfl rfl (Exec.index_slice S27 rfl a4 rfl (idx_some an).1 (idx_some an).2.1 ?_)
    obtain ⟨cn, bz, d⟩ := Zg d
    refine Za rfl rfl (Exec.store_arr a5 a4 A39 rfl rfl rfl rfl (encLaunch_val.2 rfl) bz ?_)
    intro cy aY
    refine Zb (ib_normal (Ze (Zd (Za rfl rfl (Zm (v := Vi (g)) rfl z (Za rfl rfl (Exec.sub rfl rfl rfl (Za rfl rfl (Zo (v := Vi (IntKind.i64.wrap (g - 1))) rfl rfl (Zb (Ze ?_)))))))))))
    have bS := Zu d
    subst au
    refine ⟨_, rfl, ?_⟩; exact ⟨aK, (Zt a9 aA), aY, y, rfl, aC, aD⟩
   refine W_cond_f aE ac ?_
   replace ac := Zk ac
   refine W_exit (at_exit (at_exit (ib_here (Ze ?_))))
   have bT := Zu d
   subst au
   refine ⟨_, .inr (be (by intro _ h; cases h)), ?_⟩; exact ⟨aK, (Zt a9 aA), x, y, z, aC, aD⟩
  rintro bZ cz ⟨b4, a6, aT⟩
  have ad := a6.elim (bd _) (bb _)
  clear a6
  obtain ⟨a7, a8⟩ := b4
  replace ad := un2_eq ad
  obtain ⟨b1, bg, aZ, bj, co, bk, bl⟩ := aT
  refine (ib_normal (Ze (Zd (Za rfl rfl (Exec.add rfl bl rfl (Za rfl rfl (Zm (v := Vi (IntKind.i64.wrap ((q : Int) + 1))) rfl rfl (Zb (Ze ?_)))))))))
  have bU := Zu ad
  subst b0
  exact ⟨b1, (Zt bf bg), aZ, bj, bk, (Eq.trans rfl (wrap_up bc (aj).arr_le))⟩
 intro ca c0 aR
 obtain ⟨b2, bh, ba, bm, bn, bB⟩ := aR
 refine Zc (Zd (Za rfl rfl (Zq rfl bB bn (Zb (Ze (Zc (W_false (Zx (decide_eq_false (by omega))) (W_exit (at_exit (at_exit (ib_here (Ze (Zc (Zd (Za rfl rfl (Zm (v := a) rfl bm (Za rfl rfl (Zo (v := a) rfl rfl (Zb (Ze (W_ret ?_)))))))))))))))))))))
 have bV := Zu hm
 subst r
 refine ⟨_, ret1 rfl, ?_⟩
 exact ⟨b2, a, bh, ba, rfl⟩
theorem law57_network_sim {w0 w : World} {s : PHeap} {H : List Res} {ad : Temporal} {bM : (List Launch)} {l : Value} {m : Value} {n : Value} {o : Value} {ae : Value} {r : (Option stn_Network) × (List Int) × Bool} (hm : law57_network_p ad bM = some r) (hS : St w0 s (H) w) (cA : SliceRep (encInt .i64) s l ad.Vars) (cB : SliceRep (encInt .i64) s m ad.Init) (cC : SliceRep encFact s n ad.Goal) (ay : SliceRep encJob s o ad.Jobs) (aQ : SliceRep encLaunch s ae bM) :
  Calls Try.prog 16 #[Value.agg #[l, m, n, o], ae] w fun e w' => ∃ v, e = .returned v ∧ ((un3 fun (cj : (Option stn_Network)) (c8 : (List Int)) (c9 : Bool) => (∃ b2 : stn_Network, cj = some b2 ∧ ∃ (ck : PHeap) (bo : Nat) (c3 : Value) (bJ : List Value) (c4 : Value), PHeap.le s ck ∧ St w0 ck (Res.box bo 89 [c3] :: Res.arr encRaw 22 c3 bJ :: Res.rows (encInt .i64) 3 bJ b2.d :: Res.arr (encInt .i64) 3 c4 c8 :: H) w' ∧ v = Value.tuple #[Value.pointer (some ⟨bo, 0, none⟩), c4, Value.bool (c9)]) ∨ (cj = none ∧ ∃ (cl : PHeap) (c5 : Value), PHeap.le s cl ∧ St w0 cl (Res.arr (encInt .i64) 3 c5 c8 :: H) w' ∧ v = Value.tuple #[Value.pointer none, c5, Value.bool (c9)])) r) := by
 unfold law57_network_p at hm
 refine calls_of_W Try.func16 rfl rfl (Zc (Zd (Za rfl rfl (Exec.box (cs := [l, m, n, o]) hS rfl rfl rfl ?_))))
 intro a gC b5
 refine Za rfl rfl (Zo (v := Value.pointer none) rfl rfl (Za rfl rfl (Zo (v := Value.slice none 0 0) rfl rfl (Za rfl rfl (Zo (v := Value.bool (false)) rfl rfl (Zb (Ze (Zc (Zd (Za rfl rfl (Exec.load_box_agg (ds := [l, m, n, o]) (b5) A26 rfl rfl rfl (Za rfl rfl (Zm (v := ae) rfl rfl ?_)))))))))))))
 obtain ⟨fi, eK, hm⟩ := Zg hm
 obtain ⟨aN, aO, aP⟩ := fi
 replace hm := un3_eq hm
 refine Za rfl rfl (Tc rfl rfl rfl (Zi rfl (Zi rfl args_nil)) (schedule_Network_sim eK b5 cA cB cC ay aQ).r ?_)
 rintro _ gD ⟨fb, af, j, b6, rfl, an⟩
 refine Za rfl rfl (Zm (v := Value.tuple #[af, Vi (aO), errV 45 (aP)]) rfl rfl (Za rfl rfl (Exec.extract (v := af) rfl rfl rfl (Za rfl rfl (Exec.extract (v := Vi (aO)) rfl rfl rfl (Za rfl rfl (Exec.extract (v := errV 45 (aP)) rfl rfl rfl (Za rfl rfl (Zo (v := af) rfl rfl (Za rfl rfl (Zo (v := Vi (aO)) rfl rfl (Za rfl rfl (Zo (v := errV 45 (aP)) rfl rfl (Zb (Ze (Zc (Zc (Zd (Za rfl rfl (Zm (v := errV 45 (aP)) rfl rfl (Za rfl rfl (Exec.err_neq_nil (T := 45) Try.underlying31 rfl rfl rfl (Zb (Ze ?_))))))))))))))))))))))))
 rcases ite_some hm with ⟨a1, hm⟩ | ⟨a1, hm⟩
 ·refine W_cond_t rfl a1 (Zc (Zd (Za rfl rfl (Zo (v := Value.pointer none) rfl rfl (Za rfl rfl (Zo (v := Value.slice none 0 0) rfl rfl (Za rfl rfl (Zo (v := Value.bool (false)) rfl rfl (Zb (Ze (W_ret (at_ret ?_))))))))))))
  have f8 := Zu hm
  subst r
  refine ⟨_, ret3 rfl, ?_⟩
  have cZ := b6.nilArr (encInt .i64) 3
  refine (Or.inr ⟨rfl, ?_⟩); exact ⟨fb, (Value.slice none 0 0), j, ((cZ).f1).drop, (tup3 rfl rfl rfl)⟩
 refine W_cond_f rfl a1 ?_
 replace a1 := Zk a1
 refine W_skip (Ze (Zc (Zd (Za rfl rfl (Zm (v := Vi (aO)) rfl rfl ?_)))))
 obtain ⟨fj, eL, hm⟩ := Zg hm
 obtain ⟨g0, aj⟩ := fj
 replace hm := un2_eq hm
 refine Za rfl rfl (Tc rfl rfl rfl (Zi rfl args_nil) (stn_New_sim eL b6 ).r ?_)
 rintro _ gE dH
 rcases dH with ⟨f7, rfl, aH, i, y, z, aa, b7, rfl⟩ | ⟨rfl, aI, ab, b8, rfl⟩
 ·replace hm := optC_some hm
  refine Za rfl rfl (Zm (v := Value.tuple #[Value.pointer (some ⟨i, 0, none⟩), errV 45 (aj)]) rfl rfl (Za rfl rfl (Exec.extract (v := Value.pointer (some ⟨i, 0, none⟩)) rfl rfl rfl (Za rfl rfl (Exec.extract (v := errV 45 (aj)) rfl rfl rfl (Za rfl rfl (Zo (v := Value.pointer (some ⟨i, 0, none⟩)) rfl rfl (Za rfl rfl (Zo (v := errV 45 (aj)) rfl rfl (Zb (Ze (Zc (Zc (Zd (Za rfl rfl (Zm (v := errV 45 (aj)) rfl rfl (Za rfl rfl (Exec.err_neq_nil (T := 45) Try.underlying31 rfl rfl rfl (Zb (Ze ?_))))))))))))))))))))
  rcases ite_some hm with ⟨a2, hm⟩ | ⟨a2, hm⟩
  ·refine W_cond_t rfl a2 (Zc (Zd (Za rfl rfl (Zo (v := Value.pointer none) rfl rfl (Za rfl rfl (Zo (v := Value.slice none 0 0) rfl rfl (Za rfl rfl (Zo (v := Value.bool (false)) rfl rfl (Zb (Ze (W_ret (at_ret ?_))))))))))))
   have f9 := Zu hm
   subst r
   refine ⟨_, ret3 rfl, ?_⟩
   have da := b7.nilArr (encInt .i64) 3
   refine (Or.inr ⟨rfl, ?_⟩); exact ⟨aH, (Value.slice none 0 0), (Zt j aa), ((((((((da).f1).drop).f2).f2).drop).drop).f1).drop, (tup3 rfl rfl rfl)⟩
  refine W_cond_f rfl a2 ?_
  replace a2 := Zk a2
  refine W_skip (Ze (Zc (Zc (Zd (Za rfl rfl (Zm (v := af) rfl rfl (Za rfl rfl (Zr S41 rfl rfl (an.mono aa) (Za rfl rfl (Zm (v := Vi (0)) rfl rfl (Zb (Ze ?_))))))))))))
  obtain ⟨bt, cH, dM, dD, d5⟩ := ctl_some hm
  refine W_mid (M := fun f' w' => ∃ s', (bt = .next s' ∨ bt = .brk s') ∧ (fun (a8 : (List (List Int))) => ∃ (cm : PHeap) , PHeap.le aH cm ∧ St w0 cm (Res.box a 26 [l, m, n, o] :: Res.box i 89 [y] :: Res.arr encRaw 22 y z :: Res.rows (encInt .i64) 3 z a8 :: H) w' ∧ f' 1 = ae ∧ f' 2 = Value.pointer (some ⟨a, 0, none⟩) ∧ f' 10 = Value.pointer (some ⟨i, 0, none⟩) ∧ f' 32 = af ∧ f' 33 = Vi ((aN.length : Int))) s') ?_ ?_
  ·refine W_block (W_forC (fun k' s' f' w' => (fun (aV : (List (List Int))) => ∃ (cn : PHeap) , PHeap.le aH cn ∧ St w0 cn (Res.box a 26 [l, m, n, o] :: Res.box i 89 [y] :: Res.arr encRaw 22 y z :: Res.rows (encInt .i64) 3 z aV :: H) w' ∧ f' 1 = ae ∧ f' 2 = Value.pointer (some ⟨a, 0, none⟩) ∧ f' 10 = Value.pointer (some ⟨i, 0, none⟩) ∧ f' 32 = af ∧ f' 33 = Vi ((aN.length : Int)) ∧ f' 34 = Vi (k' : Int)) s') cH ?_ ?_ ?_)
   ·have db := ((b7).f2).f2
    exact ⟨aH, (Zv _), ((db).f2).f3, rfl, rfl, rfl, rfl, rfl, rfl⟩
   ·intro dY aV bu fR gF d9 cL t dQ
    obtain ⟨g1, aW, b9, eg, eh, bP, bQ, bR, bm⟩ := cL
    refine Zc (Zd (Za rfl rfl (Zq rfl bm bR (Zb (Ze (Zc (W_true (Zx (decide_eq_true (by omega))) (W_skip (Ze (Zc (W_block (Zc (Zd ?_)))))))))))))
    obtain ⟨ai, eM, t⟩ := Zg t
    refine Za rfl rfl (Exec.index_rep S41 rfl bQ bm (an.mono (Zt aa aW)) eM ?_)
    intro fr gl cD
    refine Za rfl rfl (Zw (E := encBound) b9 A86 rfl rfl rfl cD ?_)
    intro g8 eN
    obtain rfl := encBound_val.1 eN
    refine Za rfl rfl (Exec.alloc (cs := [Vi (0), Vi (0), Vi (0)]) b9 Z86 rfl rfl ?_)
    intro fs gG dc
    refine Za rfl rfl (Exec.store_box (ds := [Vi (ai.A), Vi (ai.B), Vi (ai.Most)]) (es := [Vi (ai.A), Vi (ai.B), Vi (ai.Most)]) dc A86 rfl rfl rfl rfl (Zj rfl (Zj rfl (Zj rfl one_nil))) (Nat.le_of_ble_eq_true rfl) rfl ?_)
    intro gH bA
    refine Zb (Ze (Zc (Zd (Za rfl rfl (Zm (v := Value.pointer (some ⟨i, 0, none⟩)) rfl bP (Za rfl rfl (Exec.load_box_agg (ds := [Vi (ai.A), Vi (ai.B), Vi (ai.Most)]) (bA) A86 rfl rfl rfl ?_)))))))
    obtain ⟨fk, eO, t⟩ := Zg t
    obtain ⟨hl, gi⟩ := fk
    replace t := un2_eq t
    refine Za rfl rfl (Tc rfl rfl rfl (Zi rfl (Zi rfl args_nil)) (stn_Network_Add_sim eO (((bA).f4).f4).f4 ).r ?_)
    rintro _ gI ⟨co, bN, bB, rfl⟩
    refine Za rfl rfl (Exec.err_neq_nil (T := 45) Try.underlying31 rfl rfl rfl (Zb (Ze ?_)))
    rcases ite_some t with ⟨a3, t⟩ | ⟨a3, t⟩
    ·refine W_cond_t rfl a3 (Zc (Zd (Za rfl rfl (Zo (v := Value.pointer none) rfl rfl (Za rfl rfl (Zo (v := Value.slice none 0 0) rfl rfl (Za rfl rfl (Zo (v := Value.bool (false)) rfl rfl (Zb (Ze (W_ret (ib_ret (at_ret (at_ret (ib_ret (at_ret (at_ret ?_)))))))))))))))))
     have fA := Zu t
     subst bu
     have dI := dM _ (dQ (by intro _ h; cases h))
     have fB := Zu dI
     subst r
     refine ⟨_, ret3 rfl, ?_⟩
     have dd := bB.nilArr (encInt .i64) 3
     refine (Or.inr ⟨rfl, ?_⟩); exact ⟨co, (Value.slice none 0 0), (Zt (Zt (Zt j aa) aW) bN), ((((((((((dd).f1).drop).f2).f2).drop).drop).f1).drop).f1).drop, (tup3 rfl rfl rfl)⟩
    refine W_cond_f rfl a3 ?_
    replace a3 := Zk a3
    refine W_skip (ib_normal (Ze (Zd (Za rfl rfl (Exec.add rfl bm rfl (Za rfl rfl (Zm (v := Vi (IntKind.i64.wrap ((dY : Int) + 1))) rfl rfl (Zb (Ze ?_)))))))))
    have fC := Zu t
    subst bu
    refine ⟨_, rfl, ?_⟩; exact ⟨co, (Zt aW bN), ((((((bB).f3).drop).f2).f2).f2).f3, eg, eh, bP, bQ, bR, (Eq.trans rfl (wrap_up d9 (SliceRep.le (an.mono aa))))⟩
   intro aV fS gJ cM dR
   obtain ⟨fc, ea, de, ei, ej, ek, el, bS, fn⟩ := cM
   refine Zc (Zd (Za rfl rfl (Zq rfl fn bS (Zb (Ze (Zc (W_false (Zx (decide_eq_false (by omega))) (W_exit (at_exit (at_exit (ib_here (Ze ?_))))))))))))
   refine ⟨_, .inl dR, ?_⟩; exact ⟨fc, ea, ((((de).f3).f3).f3).f3, ei, ej, ek, el, bS⟩
  rintro fT gK ⟨a8, bF, cT⟩
  have hm := bF.elim (dD _) (d5 _)
  clear bF
  obtain ⟨g2, a9, df, em, en, eo, gp, gq⟩ := cT
  refine (Ze (Zc (Zd (Za rfl rfl (Exec.buildSlice (Te := 3) (cs := [Vi (0)]) df rfl (parts_cons (c := [Vi (0)]) (cells_of rfl rfl) parts_nil) (fun _ => by kernel_rfl) ?_)))))
  intro bp gL dg
  refine Za rfl rfl (Zo (v := Value.slice (some ⟨bp, 0, none⟩) 1 1) rfl rfl (Zb (Ze (Zc (Zc (Zd (Za rfl rfl (Zm (v := ae) rfl em ?_))))))))
  obtain ⟨aw, eP, hm⟩ := Zg hm
  refine Za rfl rfl (Tc rfl rfl rfl (Zi rfl args_nil) (ref56_Sorted_sim eP dg (aQ.mono (Zt (Zt j aa) a9))).r ?_)
  rintro ao gM ⟨bi, _, aB, aR, rfl⟩
  refine Za rfl rfl (Exec.len_arr (aR) S27 rfl rfl (Za rfl rfl (Zm (v := Vi (0)) rfl rfl (Zb (Ze ?_)))))
  obtain ⟨bv, cI, dN, dE, d6⟩ := ctl_some hm
  refine W_mid (M := fun f' w' => ∃ s', (bv = .next s' ∨ bv = .brk s') ∧ (fun (c1 : (List Int)) => ∃ (cp : PHeap) (ap : Value), PHeap.le bi cp ∧ St w0 cp (Res.box a 26 [l, m, n, o] :: Res.box i 89 [y] :: Res.arr (encInt .i64) 3 ap c1 :: Res.arr encLaunch 39 ao aw :: Res.arr encRaw 22 y z :: Res.rows (encInt .i64) 3 z a8 :: H) w' ∧ f' 2 = Value.pointer (some ⟨a, 0, none⟩) ∧ f' 10 = Value.pointer (some ⟨i, 0, none⟩) ∧ f' 13 = ap ∧ f' 45 = ao ∧ f' 46 = Vi ((aw.length : Int))) s') ?_ ?_
  ·refine W_block (W_forC (fun k' s' f' w' => (fun (aJ : (List Int)) => ∃ (cq : PHeap) (ag : Value), PHeap.le bi cq ∧ St w0 cq (Res.box a 26 [l, m, n, o] :: Res.box i 89 [y] :: Res.arr (encInt .i64) 3 ag aJ :: Res.arr encLaunch 39 ao aw :: Res.arr encRaw 22 y z :: Res.rows (encInt .i64) 3 z a8 :: H) w' ∧ f' 2 = Value.pointer (some ⟨a, 0, none⟩) ∧ f' 10 = Value.pointer (some ⟨i, 0, none⟩) ∧ f' 13 = ag ∧ f' 45 = ao ∧ f' 46 = Vi ((aw.length : Int)) ∧ f' 47 = Vi (k' : Int)) s') cI ?_ ?_ ?_)
   ·have dh := (aR).f1
    have di := St.boxArr (E := (encInt .i64)) (xs := [0]) dh ⟨[Vi (0)], [], rfl, rfl, rfl⟩ (by simp [maxLen])
    exact ⟨bi, (Value.slice (some ⟨bp, 0, none⟩) 1 1), (Zv _), ((((((di).f5).f5).f3).f3).f5).f5, en, eo, rfl, rfl, rfl, rfl⟩
   ·intro bK aJ bw fU gN dA cN u dS
    obtain ⟨bj, ag, aC, aS, ba, bT, bU, bb, bc, aL⟩ := cN
    refine Zc (Zd (Za rfl rfl (Zq rfl aL bc (Zb (Ze (Zc (W_true (Zx (decide_eq_true (by omega))) (W_skip (Ze (Zc (W_block (Zc (Zd ?_)))))))))))))
    obtain ⟨b, aF, u⟩ := Zg u
    obtain ⟨gg, fz, b3⟩ := ((aS).f3).arr_at aF
    refine Za rfl rfl (Exec.index_slice S27 rfl (Eq.trans bb b3) aL (idx_some aF).1 (idx_some aF).2.1 (Za rfl rfl (Exec.load_arr (F := encLaunch) ((aS).f3) b3 A39 rfl rfl rfl aF (Sub.refl _) ?_)))
    intro g9 eQ
    obtain rfl := encLaunch_val.1 eQ
    refine Za rfl rfl (Exec.alloc (cs := [Vi (0), Vi (0)]) aS Z39 rfl rfl ?_)
    intro bq gO dj
    refine Za rfl rfl (Exec.store_box (ds := [Vi (b.At), Vi (b.Job)]) (es := [Vi (b.At), Vi (b.Job)]) dj A39 rfl rfl rfl rfl (Zj rfl (Zj rfl one_nil)) (Nat.le_of_ble_eq_true rfl) rfl ?_)
    intro gP az
    refine Zb (Ze (Zc (Zc (W_mid (M := fun f' w' => ∃ (cr : PHeap) , PHeap.le bj cr ∧ St w0 cr (Res.box a 26 [l, m, n, o] :: Res.box i 89 [y] :: Res.arr (encInt .i64) 3 ag aJ :: Res.box bq 39 [Vi (b.At), Vi (b.Job)] :: Res.arr encLaunch 39 ao aw :: Res.arr encRaw 22 y z :: Res.rows (encInt .i64) 3 z a8 :: H) w' ∧ f' 2 = Value.pointer (some ⟨a, 0, none⟩) ∧ f' 10 = Value.pointer (some ⟨i, 0, none⟩) ∧ f' 13 = ag ∧ f' 15 = Value.pointer (some ⟨bq, 0, none⟩) ∧ f' 45 = ao ∧ f' 46 = Vi ((aw.length : Int)) ∧ f' 47 = Vi ((bK : Int)) ∧ f' 61 = Value.bool (((decide (b.Job < 0)) || decide ((ad.Jobs.length : Int) ≤ b.Job)))) ?_ ?_))))
    ·refine Zd (Za rfl rfl (Zp F39_1 rfl rfl rfl (Za rfl rfl (Zn (az) A3 rfl rfl rfl (Za rfl rfl (Zq rfl rfl rfl (Za rfl rfl (Zm (v := Value.bool (decide (b.Job < 0))) rfl rfl ?_))))))))
     by_cases p : (decide (b.Job < 0)) = true
     ·refine WL_passes 7 (by rw [p]; rfl) ?_
      refine Zb (Ze ?_)
      exact ⟨bj, (Zv _), (((((((az).f6).f6).f6).f3).f6).f6).f6, ba, bT, bU, rfl, bb, bc, aL, (Zx (or_t p)).symm⟩
     replace p := Zk p
     refine WL_run rfl (Zf rfl (Zx p)) rfl (Zp F39_1 rfl rfl rfl (WL_run rfl (Zf rfl (Zx p)) rfl (Zn (az) A3 rfl rfl rfl (WL_run rfl (Zf rfl (Zx p)) rfl (Zp F26_3 rfl ba rfl (WL_run rfl (Zf rfl (Zx p)) rfl (Zn ((az).f1) A24 rfl rfl rfl (WL_run rfl (Zf rfl (Zx p)) rfl (Zr S24 rfl rfl (ay.mono (Zt (Zt (Zt (Zt j aa) a9) aB) aC)) (WL_run rfl (Zf rfl (Zx p)) rfl (Exec.geq rfl rfl rfl (Za rfl rfl (Exec.pick_f (v := Value.bool (decide ((ad.Jobs.length : Int) ≤ b.Job))) rfl (Zx p) rfl (Zb (Ze ?_)))))))))))))))
     exact ⟨bj, (Zv _), (((((((az).f6).f6).f6).f3).f6).f6).f6, ba, bT, bU, rfl, bb, bc, aL, (Zx (or_f p)).symm⟩
    intro fV gQ cU
    obtain ⟨ct, aX, ak, bV, ep, bW, bd, er, et, eu, bX⟩ := cU
    refine (Ze ?_)
    rcases ite_some u with ⟨a4, u⟩ | ⟨a4, u⟩
    ·refine W_cond_t bX a4 (Zc (Zd (Za rfl rfl (Zo (v := Value.pointer none) rfl rfl (Za rfl rfl (Zo (v := Value.slice none 0 0) rfl rfl (Za rfl rfl (Zo (v := Value.bool (false)) rfl rfl (Zb (Ze (W_ret (at_ret (ib_ret (at_ret (at_ret (ib_ret (at_ret (at_ret ?_))))))))))))))))))
     have fD := Zu u
     subst bw
     have dJ := dN _ (dS (by intro _ h; cases h))
     have fE := Zu dJ
     subst r
     refine ⟨_, ret3 rfl, ?_⟩
     have dk := ak.nilArr (encInt .i64) 3
     refine (Or.inr ⟨rfl, ?_⟩); exact ⟨ct, (Value.slice none 0 0), (Zt (Zt (Zt (Zt (Zt j aa) a9) aB) aC) aX), ((((((((((((((dk).f1).drop).f1).drop).f1).drop).f1).drop).f1).drop).f2).f2).drop).drop, (tup3 rfl rfl rfl)⟩
    refine W_cond_f bX a4 ?_
    replace a4 := Zk a4
    refine W_skip (Ze (W_dl (n0 := 15) (qs 0 13 (.e 13 [0] (.e 14 [] .done))) hmix (by kernel_rfl) (by kernel_rfl) (DL_q rfl rfl (Zm (v := ag) rfl bW ⟨rfl, ?_⟩))))
    refine DL_q rfl rfl (Zp F39_0 rfl bd rfl ⟨rfl, ?_⟩)
    refine DL_q rfl rfl (Zn ((ak.drew).f3) A3 rfl rfl rfl ⟨rfl, ?_⟩)
    refine DL_q rfl rfl (Zp F39_0 rfl bd rfl ⟨rfl, ?_⟩)
    refine DL_q rfl rfl (Zn ((ak.drew).f3) A3 rfl rfl rfl ⟨rfl, ?_⟩)
    refine DL_q rfl rfl (Zp F26_3 rfl bV rfl ⟨rfl, ?_⟩)
    refine DL_q rfl rfl (Zn (ak.drew) A24 rfl rfl rfl ⟨rfl, ?_⟩)
    refine DL_q rfl rfl (Zp F39_1 rfl bd rfl ⟨rfl, ?_⟩)
    refine DL_q rfl rfl (Zn ((ak.drew).f3) A3 rfl rfl rfl ⟨rfl, ?_⟩)
    obtain ⟨au, eR, u⟩ := Zg u
    refine DL_q rfl rfl (Exec.index_repE S24 rfl rfl rfl (ay.mono (Zt (Zt (Zt (Zt (Zt j aa) a9) aB) aC) aX)) eR ?_)
    intro ft gm cE fF
    refine ⟨rfl, ?_⟩
    refine DL_q rfl rfl (Zp F61_1 rfl rfl rfl ⟨rfl, ?_⟩)
    refine DL_q rfl rfl (Zw (E := (encInt .i64)) ak.drew A3 rfl rfl rfl (cE.sub (Sub.iso (Sub.snd (Sub.fst (Sub.refl _)) rfl)) rfl) ?_)
    intro fl eS
    obtain rfl : fl = Vi (au.Duration) := encInt_val.1 eS
    refine ⟨rfl, ?_⟩
    refine DL_q rfl rfl (Exec.add rfl rfl rfl ⟨rfl, ?_⟩)
    refine DL_e rfl rfl (Exec.buildSlice (Te := 3) (cs := [Vi (b.At), Vi (IntKind.i64.wrap (b.At + au.Duration))]) ak.drew rfl (parts_cons (c := [Vi (b.At)]) (cells_of rfl rfl) (parts_cons (c := [Vi (IntKind.i64.wrap (b.At + au.Duration))]) (cells_of rfl rfl) parts_nil)) (fun _ => by kernel_rfl) ?_)
    intro fu gR dl
    refine ⟨(ag_cons (ag_r rfl rfl (Zm (v := ag) rfl bW ⟨rfl, rfl⟩)) ag_nil), ?_⟩
    obtain ⟨gj, eT, u⟩ := Zg u
    refine DL_e rfl rfl (Exec.append_box (E := (encInt .i64)) (ys := [b.At, IntKind.i64.wrap (b.At + au.Duration)]) (dl).f3 S22 Z3 rfl (by decide) rfl rfl rfl rfl ⟨[Vi (b.At)], [Vi (IntKind.i64.wrap (b.At + au.Duration))], rfl, rfl, ⟨[Vi (IntKind.i64.wrap (b.At + au.Duration))], [], rfl, rfl, rfl⟩⟩ rfl eT ?_)
    intro c6 gS dm
    refine ⟨ag_nil, ?_⟩
    refine DL_done (Za rfl rfl (Zo (v := c6) rfl rfl (Zb (ib_normal (Ze (Zd (Za rfl rfl (Exec.add rfl eu rfl (Za rfl rfl (Zm (v := Vi (IntKind.i64.wrap ((bK : Int) + 1))) rfl rfl (Zb (Ze ?_))))))))))))
    have fG := Zu u
    subst bw
    refine ⟨_, rfl, ?_⟩; exact ⟨ct, c6, (Zt aC aX), ((((((((dm).f3).drop).f5).f5).f5).f3).f5).f5, bV, ep, rfl, er, et, (Eq.trans rfl (wrap_up dA (aR).arr_le))⟩
   intro aJ fW gT cO dT
   obtain ⟨fd, ag, eb, dn, ev, ew, ex, ey, bY, fo⟩ := cO
   refine Zc (Zd (Za rfl rfl (Zq rfl fo bY (Zb (Ze (Zc (W_false (Zx (decide_eq_false (by omega))) (W_exit (at_exit (at_exit (ib_here (Ze ?_))))))))))))
   refine ⟨_, .inl dT, ?_⟩; exact ⟨fd, ag, eb, ((((((dn).f5).f5).f5).f5).f5).f5, ev, ew, ex, ey, bY⟩
  rintro fX gU ⟨c1, bG, cV⟩
  have hm := bG.elim (dE _) (d6 _)
  clear bG
  obtain ⟨fe, ap, ec, dp, gr, ez, e0, gs, gu⟩ := cV
  refine (Ze (Zc (Zd (Za rfl rfl (Zm (v := Value.pointer (some ⟨i, 0, none⟩)) rfl ez (Za rfl rfl (Zm (v := ap) rfl e0 (Za rfl rfl (Zo (v := Value.pointer (some ⟨i, 0, none⟩)) rfl rfl (Za rfl rfl (Zo (v := ap) rfl rfl (Za rfl rfl (Zo (v := Value.bool (true)) rfl rfl (Zb (Ze (W_ret ?_))))))))))))))))
  have fH := Zu hm
  subst r
  refine ⟨_, ret3 rfl, ?_⟩
  refine (Or.inl ⟨_, rfl, ?_⟩); exact ⟨fe, i, y, z, ap, (Zt (Zt (Zt (Zt j aa) a9) aB) ec), (((((((dp).drop).f2).drop).f1).f3).f3).f3, (tup3 rfl rfl rfl)⟩
 replace hm := optC_none hm
 refine Za rfl rfl (Zm (v := Value.tuple #[Value.pointer none, errV 45 (aj)]) rfl rfl (Za rfl rfl (Exec.extract (v := Value.pointer none) rfl rfl rfl (Za rfl rfl (Exec.extract (v := errV 45 (aj)) rfl rfl rfl (Za rfl rfl (Zo (v := Value.pointer none) rfl rfl (Za rfl rfl (Zo (v := errV 45 (aj)) rfl rfl (Zb (Ze (Zc (Zc (Zd (Za rfl rfl (Zm (v := errV 45 (aj)) rfl rfl (Za rfl rfl (Exec.err_neq_nil (T := 45) Try.underlying31 rfl rfl rfl (Zb (Ze ?_))))))))))))))))))))
 rcases ite_some hm with ⟨a5, hm⟩ | ⟨a5, hm⟩
 ·refine W_cond_t rfl a5 (Zc (Zd (Za rfl rfl (Zo (v := Value.pointer none) rfl rfl (Za rfl rfl (Zo (v := Value.slice none 0 0) rfl rfl (Za rfl rfl (Zo (v := Value.bool (false)) rfl rfl (Zb (Ze (W_ret (at_ret ?_))))))))))))
  have fI := Zu hm
  subst r
  refine ⟨_, ret3 rfl, ?_⟩
  have dq := b8.nilArr (encInt .i64) 3
  refine (Or.inr ⟨rfl, ?_⟩); exact ⟨aI, (Value.slice none 0 0), (Zt j ab), ((dq).f1).drop, (tup3 rfl rfl rfl)⟩
 refine W_cond_f rfl a5 ?_
 replace a5 := Zk a5
 refine W_skip (Ze (Zc (Zc (Zd (Za rfl rfl (Zm (v := af) rfl rfl (Za rfl rfl (Zr S41 rfl rfl (an.mono ab) (Za rfl rfl (Zm (v := Vi (0)) rfl rfl (Zb (Ze ?_))))))))))))
 obtain ⟨bx, cJ, dO, dF, d7⟩ := ctl_some hm
 refine W_mid (M := fun f' w' => ∃ s', (bx = .next s' ∨ bx = .brk s') ∧ (fun (_ : Unit) => ∃ (cu : PHeap) , PHeap.le aI cu ∧ St w0 cu (Res.box a 26 [l, m, n, o] :: H) w' ∧ f' 1 = ae ∧ f' 2 = Value.pointer (some ⟨a, 0, none⟩) ∧ f' 10 = Value.pointer none ∧ f' 32 = af ∧ f' 33 = Vi ((aN.length : Int))) s') ?_ ?_
 ·refine W_block (W_forC (fun k' s' f' w' => (fun (_ : Unit) => ∃ (cv : PHeap) , PHeap.le aI cv ∧ St w0 cv (Res.box a 26 [l, m, n, o] :: H) w' ∧ f' 1 = ae ∧ f' 2 = Value.pointer (some ⟨a, 0, none⟩) ∧ f' 10 = Value.pointer none ∧ f' 32 = af ∧ f' 33 = Vi ((aN.length : Int)) ∧ f' 34 = Vi (k' : Int)) s') cJ ?_ ?_ ?_)
  ·exact ⟨aI, (Zv _), b8, rfl, rfl, rfl, rfl, rfl, rfl⟩
  ·intro dZ g5 bz fY gV dB cP am dU
   obtain ⟨g3, aY, bC, e1, e2, bZ, ca, cb, bn⟩ := cP
   refine Zc (Zd (Za rfl rfl (Zq rfl bn cb (Zb (Ze (Zc (W_true (Zx (decide_eq_true (by omega))) (W_skip (Ze (Zc (W_block (Zc (Zd ?_)))))))))))))
   obtain ⟨ac, eU, am⟩ := Zg am
   refine Za rfl rfl (Exec.index_rep S41 rfl ca bn (an.mono (Zt ab aY)) eU ?_)
   intro fv gn cF
   refine Za rfl rfl (Zw (E := encBound) bC A86 rfl rfl rfl cF ?_)
   intro gA eV
   obtain rfl := encBound_val.1 eV
   refine Za rfl rfl (Exec.alloc (cs := [Vi (0), Vi (0), Vi (0)]) bC Z86 rfl rfl ?_)
   intro fw gW dr
   refine Za rfl rfl (Exec.store_box (ds := [Vi (ac.A), Vi (ac.B), Vi (ac.Most)]) (es := [Vi (ac.A), Vi (ac.B), Vi (ac.Most)]) dr A86 rfl rfl rfl rfl (Zj rfl (Zj rfl (Zj rfl one_nil))) (Nat.le_of_ble_eq_true rfl) rfl ?_)
   intro gX bD
   refine Zb (Ze (Zc (Zd (Za rfl rfl (Zm (v := Value.pointer none) rfl bZ (Za rfl rfl (Exec.load_box_agg (ds := [Vi (ac.A), Vi (ac.B), Vi (ac.Most)]) (bD) A86 rfl rfl rfl (Za rfl rfl (Tc rfl rfl rfl (Zi rfl (Zi rfl args_nil)) (stn_Network_Add_nil_sim (stn_Network_Add_nil_tot ac) bD ).r ?_)))))))))
   rintro _ gY ⟨cw, bO, bE, rfl⟩
   refine Za rfl rfl (Exec.err_neq_nil (T := 45) Try.underlying31 rfl rfl rfl (Zb (Ze ?_)))
   rcases ite_some am with ⟨a6, am⟩ | ⟨a6, am⟩
   ·refine W_cond_t rfl a6 (Zc (Zd (Za rfl rfl (Zo (v := Value.pointer none) rfl rfl (Za rfl rfl (Zo (v := Value.slice none 0 0) rfl rfl (Za rfl rfl (Zo (v := Value.bool (false)) rfl rfl (Zb (Ze (W_ret (ib_ret (at_ret (at_ret (ib_ret (at_ret (at_ret ?_)))))))))))))))))
    have fJ := Zu am
    subst bz
    have dK := dO _ (dU (by intro _ h; cases h))
    have fK := Zu dK
    subst r
    refine ⟨_, ret3 rfl, ?_⟩
    have dt := bE.nilArr (encInt .i64) 3
    refine (Or.inr ⟨rfl, ?_⟩); exact ⟨cw, (Value.slice none 0 0), (Zt (Zt (Zt j ab) aY) bO), ((((dt).f1).drop).f1).drop, (tup3 rfl rfl rfl)⟩
   refine W_cond_f rfl a6 ?_
   replace a6 := Zk a6
   refine W_skip (ib_normal (Ze (Zd (Za rfl rfl (Exec.add rfl bn rfl (Za rfl rfl (Zm (v := Vi (IntKind.i64.wrap ((dZ : Int) + 1))) rfl rfl (Zb (Ze ?_)))))))))
   have fL := Zu am
   subst bz
   refine ⟨_, rfl, ?_⟩; exact ⟨cw, (Zt aY bO), (bE).drop, e1, e2, bZ, ca, cb, (Eq.trans rfl (wrap_up dB (SliceRep.le (an.mono ab))))⟩
  intro g6 fZ gZ cQ dV
  obtain ⟨ff, ed, du, e3, e4, e5, e6, cc, fp⟩ := cQ
  refine Zc (Zd (Za rfl rfl (Zq rfl fp cc (Zb (Ze (Zc (W_false (Zx (decide_eq_false (by omega))) (W_exit (at_exit (at_exit (ib_here (Ze ?_))))))))))))
  refine ⟨_, .inl dV, ?_⟩; exact ⟨ff, ed, du, e3, e4, e5, e6, cc⟩
 rintro ga ha ⟨g7, bH, cW⟩
 have hm := bH.elim (dF _) (d7 _)
 clear bH
 obtain ⟨g4, aA, dv, e7, e8, e9, gv, gw⟩ := cW
 refine (Ze (Zc (Zd (Za rfl rfl (Exec.buildSlice (Te := 3) (cs := [Vi (0)]) dv rfl (parts_cons (c := [Vi (0)]) (cells_of rfl rfl) parts_nil) (fun _ => by kernel_rfl) ?_)))))
 intro br hb dw
 refine Za rfl rfl (Zo (v := Value.slice (some ⟨br, 0, none⟩) 1 1) rfl rfl (Zb (Ze (Zc (Zc (Zd (Za rfl rfl (Zm (v := ae) rfl e7 ?_))))))))
 obtain ⟨ax, eW, hm⟩ := Zg hm
 refine Za rfl rfl (Tc rfl rfl rfl (Zi rfl args_nil) (ref56_Sorted_sim eW dw (aQ.mono (Zt (Zt j ab) aA))).r ?_)
 rintro aq hc ⟨bk, _, aD, aT, rfl⟩
 refine Za rfl rfl (Exec.len_arr (aT) S27 rfl rfl (Za rfl rfl (Zm (v := Vi (0)) rfl rfl (Zb (Ze ?_)))))
 obtain ⟨b0, cK, dP, dG, d8⟩ := ctl_some hm
 refine W_mid (M := fun f' w' => ∃ s', (b0 = .next s' ∨ b0 = .brk s') ∧ (fun (c2 : (List Int)) => ∃ (cx : PHeap) (ar : Value), PHeap.le bk cx ∧ St w0 cx (Res.box a 26 [l, m, n, o] :: Res.arr (encInt .i64) 3 ar c2 :: Res.arr encLaunch 39 aq ax :: H) w' ∧ f' 2 = Value.pointer (some ⟨a, 0, none⟩) ∧ f' 10 = Value.pointer none ∧ f' 13 = ar ∧ f' 45 = aq ∧ f' 46 = Vi ((ax.length : Int))) s') ?_ ?_
 ·refine W_block (W_forC (fun k' s' f' w' => (fun (aK : (List Int)) => ∃ (cy : PHeap) (ah : Value), PHeap.le bk cy ∧ St w0 cy (Res.box a 26 [l, m, n, o] :: Res.arr (encInt .i64) 3 ah aK :: Res.arr encLaunch 39 aq ax :: H) w' ∧ f' 2 = Value.pointer (some ⟨a, 0, none⟩) ∧ f' 10 = Value.pointer none ∧ f' 13 = ah ∧ f' 45 = aq ∧ f' 46 = Vi ((ax.length : Int)) ∧ f' 47 = Vi (k' : Int)) s') cK ?_ ?_ ?_)
  ·have dx := (aT).f1
   have dy := St.boxArr (E := (encInt .i64)) (xs := [0]) dx ⟨[Vi (0)], [], rfl, rfl, rfl⟩ (by simp [maxLen])
   exact ⟨bk, (Value.slice (some ⟨br, 0, none⟩) 1 1), (Zv _), (((dy).f1).f1).f2, e8, e9, rfl, rfl, rfl, rfl⟩
  ·intro bL aK b1 gb hd dC cR x dW
   obtain ⟨bl, ah, aE, aU, be, cd, ce, bf, bg, aM⟩ := cR
   refine Zc (Zd (Za rfl rfl (Zq rfl aM bg (Zb (Ze (Zc (W_true (Zx (decide_eq_true (by omega))) (W_skip (Ze (Zc (W_block (Zc (Zd ?_)))))))))))))
   obtain ⟨g, aG, x⟩ := Zg x
   obtain ⟨gh, f0, b4⟩ := ((aU).f2).arr_at aG
   refine Za rfl rfl (Exec.index_slice S27 rfl (Eq.trans bf b4) aM (idx_some aG).1 (idx_some aG).2.1 (Za rfl rfl (Exec.load_arr (F := encLaunch) ((aU).f2) b4 A39 rfl rfl rfl aG (Sub.refl _) ?_)))
   intro gB eX
   obtain rfl := encLaunch_val.1 eX
   refine Za rfl rfl (Exec.alloc (cs := [Vi (0), Vi (0)]) aU Z39 rfl rfl ?_)
   intro bs he dz
   refine Za rfl rfl (Exec.store_box (ds := [Vi (g.At), Vi (g.Job)]) (es := [Vi (g.At), Vi (g.Job)]) dz A39 rfl rfl rfl rfl (Zj rfl (Zj rfl one_nil)) (Nat.le_of_ble_eq_true rfl) rfl ?_)
   intro hf a0
   refine Zb (Ze (Zc (Zc (W_mid (M := fun f' w' => ∃ (cz : PHeap) , PHeap.le bl cz ∧ St w0 cz (Res.box a 26 [l, m, n, o] :: Res.arr (encInt .i64) 3 ah aK :: Res.box bs 39 [Vi (g.At), Vi (g.Job)] :: Res.arr encLaunch 39 aq ax :: H) w' ∧ f' 2 = Value.pointer (some ⟨a, 0, none⟩) ∧ f' 10 = Value.pointer none ∧ f' 13 = ah ∧ f' 15 = Value.pointer (some ⟨bs, 0, none⟩) ∧ f' 45 = aq ∧ f' 46 = Vi ((ax.length : Int)) ∧ f' 47 = Vi ((bL : Int)) ∧ f' 61 = Value.bool (((decide (g.Job < 0)) || decide ((ad.Jobs.length : Int) ≤ g.Job)))) ?_ ?_))))
   ·refine Zd (Za rfl rfl (Zp F39_1 rfl rfl rfl (Za rfl rfl (Zn (a0) A3 rfl rfl rfl (Za rfl rfl (Zq rfl rfl rfl (Za rfl rfl (Zm (v := Value.bool (decide (g.Job < 0))) rfl rfl ?_))))))))
    by_cases q : (decide (g.Job < 0)) = true
    ·refine WL_passes 7 (by rw [q]; rfl) ?_
     refine Zb (Ze ?_)
     exact ⟨bl, (Zv _), ((((a0).f3).f1).f3).f3, be, cd, ce, rfl, bf, bg, aM, (Zx (or_t q)).symm⟩
    replace q := Zk q
    refine WL_run rfl (Zf rfl (Zx q)) rfl (Zp F39_1 rfl rfl rfl (WL_run rfl (Zf rfl (Zx q)) rfl (Zn (a0) A3 rfl rfl rfl (WL_run rfl (Zf rfl (Zx q)) rfl (Zp F26_3 rfl be rfl (WL_run rfl (Zf rfl (Zx q)) rfl (Zn ((a0).f1) A24 rfl rfl rfl (WL_run rfl (Zf rfl (Zx q)) rfl (Zr S24 rfl rfl (ay.mono (Zt (Zt (Zt (Zt j ab) aA) aD) aE)) (WL_run rfl (Zf rfl (Zx q)) rfl (Exec.geq rfl rfl rfl (Za rfl rfl (Exec.pick_f (v := Value.bool (decide ((ad.Jobs.length : Int) ≤ g.Job))) rfl (Zx q) rfl (Zb (Ze ?_)))))))))))))))
    exact ⟨bl, (Zv _), ((((a0).f3).f1).f3).f3, be, cd, ce, rfl, bf, bg, aM, (Zx (or_f q)).symm⟩
   intro gc hg cX
   obtain ⟨c0, aZ, al, cf, eA, cg, bh, eB, eC, eD, ch⟩ := cX
   refine (Ze ?_)
   rcases ite_some x with ⟨a7, x⟩ | ⟨a7, x⟩
   ·refine W_cond_t ch a7 (Zc (Zd (Za rfl rfl (Zo (v := Value.pointer none) rfl rfl (Za rfl rfl (Zo (v := Value.slice none 0 0) rfl rfl (Za rfl rfl (Zo (v := Value.bool (false)) rfl rfl (Zb (Ze (W_ret (at_ret (ib_ret (at_ret (at_ret (ib_ret (at_ret (at_ret ?_))))))))))))))))))
    have fM := Zu x
    subst b1
    have dL := dP _ (dW (by intro _ h; cases h))
    have fN := Zu dL
    subst r
    refine ⟨_, ret3 rfl, ?_⟩
    have d0 := al.nilArr (encInt .i64) 3
    refine (Or.inr ⟨rfl, ?_⟩); exact ⟨c0, (Value.slice none 0 0), (Zt (Zt (Zt (Zt (Zt j ab) aA) aD) aE) aZ), ((((((((d0).f1).drop).f1).drop).f1).drop).f1).drop, (tup3 rfl rfl rfl)⟩
   refine W_cond_f ch a7 ?_
   replace a7 := Zk a7
   refine W_skip (Ze (W_dl (n0 := 15) (qs 0 13 (.e 13 [0] (.e 14 [] .done))) hmix (by kernel_rfl) (by kernel_rfl) (DL_q rfl rfl (Zm (v := ah) rfl cg ⟨rfl, ?_⟩))))
   refine DL_q rfl rfl (Zp F39_0 rfl bh rfl ⟨rfl, ?_⟩)
   refine DL_q rfl rfl (Zn ((al.drew).f2) A3 rfl rfl rfl ⟨rfl, ?_⟩)
   refine DL_q rfl rfl (Zp F39_0 rfl bh rfl ⟨rfl, ?_⟩)
   refine DL_q rfl rfl (Zn ((al.drew).f2) A3 rfl rfl rfl ⟨rfl, ?_⟩)
   refine DL_q rfl rfl (Zp F26_3 rfl cf rfl ⟨rfl, ?_⟩)
   refine DL_q rfl rfl (Zn (al.drew) A24 rfl rfl rfl ⟨rfl, ?_⟩)
   refine DL_q rfl rfl (Zp F39_1 rfl bh rfl ⟨rfl, ?_⟩)
   refine DL_q rfl rfl (Zn ((al.drew).f2) A3 rfl rfl rfl ⟨rfl, ?_⟩)
   obtain ⟨av, eY, x⟩ := Zg x
   refine DL_q rfl rfl (Exec.index_repE S24 rfl rfl rfl (ay.mono (Zt (Zt (Zt (Zt (Zt j ab) aA) aD) aE) aZ)) eY ?_)
   intro fx go cG fO
   refine ⟨rfl, ?_⟩
   refine DL_q rfl rfl (Zp F61_1 rfl rfl rfl ⟨rfl, ?_⟩)
   refine DL_q rfl rfl (Zw (E := (encInt .i64)) al.drew A3 rfl rfl rfl (cG.sub (Sub.iso (Sub.snd (Sub.fst (Sub.refl _)) rfl)) rfl) ?_)
   intro fm eZ
   obtain rfl : fm = Vi (av.Duration) := encInt_val.1 eZ
   refine ⟨rfl, ?_⟩
   refine DL_q rfl rfl (Exec.add rfl rfl rfl ⟨rfl, ?_⟩)
   refine DL_e rfl rfl (Exec.buildSlice (Te := 3) (cs := [Vi (g.At), Vi (IntKind.i64.wrap (g.At + av.Duration))]) al.drew rfl (parts_cons (c := [Vi (g.At)]) (cells_of rfl rfl) (parts_cons (c := [Vi (IntKind.i64.wrap (g.At + av.Duration))]) (cells_of rfl rfl) parts_nil)) (fun _ => by kernel_rfl) ?_)
   intro fy hh d1
   refine ⟨(ag_cons (ag_r rfl rfl (Zm (v := ah) rfl cg ⟨rfl, rfl⟩)) ag_nil), ?_⟩
   obtain ⟨gk, fa, x⟩ := Zg x
   refine DL_e rfl rfl (Exec.append_box (E := (encInt .i64)) (ys := [g.At, IntKind.i64.wrap (g.At + av.Duration)]) (d1).f2 S22 Z3 rfl (by decide) rfl rfl rfl rfl ⟨[Vi (g.At)], [Vi (IntKind.i64.wrap (g.At + av.Duration))], rfl, rfl, ⟨[Vi (IntKind.i64.wrap (g.At + av.Duration))], [], rfl, rfl, rfl⟩⟩ rfl fa ?_)
   intro c7 hi d2
   refine ⟨ag_nil, ?_⟩
   refine DL_done (Za rfl rfl (Zo (v := c7) rfl rfl (Zb (ib_normal (Ze (Zd (Za rfl rfl (Exec.add rfl eD rfl (Za rfl rfl (Zm (v := Vi (IntKind.i64.wrap ((bL : Int) + 1))) rfl rfl (Zb (Ze ?_))))))))))))
   have fP := Zu x
   subst b1
   refine ⟨_, rfl, ?_⟩; exact ⟨c0, c7, (Zt aE aZ), (((((d2).f2).drop).f2).f1).f2, cf, eA, rfl, eB, eC, (Eq.trans rfl (wrap_up dC (aT).arr_le))⟩
  intro aK gd hj cS dX
  obtain ⟨fg, ah, ee, d3, eE, eF, eG, eH, ci, fq⟩ := cS
  refine Zc (Zd (Za rfl rfl (Zq rfl fq ci (Zb (Ze (Zc (W_false (Zx (decide_eq_false (by omega))) (W_exit (at_exit (at_exit (ib_here (Ze ?_))))))))))))
  refine ⟨_, .inl dX, ?_⟩; exact ⟨fg, ah, ee, (((d3).f2).f2).f2, eE, eF, eG, eH, ci⟩
 rintro gf hk ⟨c2, bI, cY⟩
 have hm := bI.elim (dG _) (d8 _)
 clear bI
 obtain ⟨fh, ar, ef, d4, gx, eI, eJ, gy, gz⟩ := cY
 refine (Ze (Zc (Zd (Za rfl rfl (Zm (v := Value.pointer none) rfl eI (Za rfl rfl (Zm (v := ar) rfl eJ (Za rfl rfl (Zo (v := Value.pointer none) rfl rfl (Za rfl rfl (Zo (v := ar) rfl rfl (Za rfl rfl (Zo (v := Value.bool (true)) rfl rfl (Zb (Ze (W_ret ?_))))))))))))))))
 have fQ := Zu hm
 subst r
 refine ⟨_, ret3 rfl, ?_⟩
 refine (Or.inr ⟨rfl, ?_⟩); exact ⟨fh, ar, (Zt (Zt (Zt (Zt j ab) aA) aD) ef), (((d4).drop).f1).drop, (tup3 rfl rfl rfl)⟩
theorem stn_Network_Holds_sim {w0 w : World} {s : PHeap} {H : List Res} {i : stn_Network} {ai : (List Int)} {c : Nat} {a : Value} {b : List Value} {g : Value} {r : Bool} (hm : stn_Network_Holds_p i ai = some r) (hS : St w0 s (Res.box c 89 [a] :: Res.arr encRaw 22 a b :: Res.rows (encInt .i64) 3 b i.d :: H) w) (u : SliceRep (encInt .i64) s g ai) :
  Calls Try.prog 17 #[Value.pointer (some ⟨c, 0, none⟩), g] w fun e w' => ∃ v, e = .returned v ∧ ((fun (de : Bool) => ∃ (bi : PHeap) , PHeap.le s bi ∧ St w0 bi (Res.box c 89 [a] :: Res.arr encRaw 22 a b :: Res.rows (encInt .i64) 3 b i.d :: H) w' ∧ v = Value.bool (de)) r) := by
 unfold stn_Network_Holds_p at hm
 refine calls_of_W Try.func17 rfl rfl (Zc (Zd (Za rfl rfl (Zo (v := Value.bool (false)) rfl rfl (Zb (Ze (Zc (Zc ?_))))))))
 obtain ⟨al, z, hm⟩ := Zg hm
 refine W_mid (M := fun f' w' => (fun (al : Bool) => ∃ (bj : PHeap) , PHeap.le s bj ∧ St w0 bj (Res.box c 89 [a] :: Res.arr encRaw 22 a b :: Res.rows (encInt .i64) 3 b i.d :: H) w' ∧ f' 0 = Value.pointer (some ⟨c, 0, none⟩) ∧ f' 1 = g ∧ f' 28 = Value.bool (al)) al) ?_ ?_
 ·refine Zd (Za rfl rfl (Zm (v := Value.pointer (some ⟨c, 0, none⟩)) rfl rfl (Za rfl rfl (Exec.ptr_eql_nil Try.underlying47 rfl rfl rfl (Za rfl rfl (Zm (v := Value.bool (false)) rfl rfl (WL_run rfl (Zf rfl rfl) rfl (Zm (v := g) rfl rfl (WL_run rfl (Zf rfl rfl) rfl (Zr S22 rfl rfl u (WL_run rfl (Zf rfl rfl) rfl (Zm (v := Value.pointer (some ⟨c, 0, none⟩)) rfl rfl (WL_run rfl (Zf rfl rfl) rfl (Exec.nilCheck_ptr rfl rfl (WL_run rfl (Zf rfl rfl) rfl (Zp F89_0 rfl rfl rfl (WL_run rfl (Zf rfl rfl) rfl (Zn (hS) A53 rfl rfl rfl (WL_run rfl (Zf rfl rfl) rfl (Exec.len_grid (((hS).f2).f2) (((hS).f2).f2).f1.rows_len S53 rfl rfl (WL_run rfl (Zf rfl rfl) rfl (Exec.neq rfl rfl rfl (WL_passes 2 rfl ?_)))))))))))))))))))))))
  rcases ite_some z with ⟨m, z⟩ | ⟨m, z⟩
  ·refine WL_passes 5 (by rw [m]; rfl) ?_
   refine Zb (Ze ?_)
   have dl := Zu z
   subst al
   exact ⟨s, (Zv _), (((hS).f2).f2).f2, rfl, rfl, rfl⟩
  replace m := Zk m
  refine WL_run rfl (Zf rfl (Zx m)) rfl (Zm (v := g) rfl rfl ?_)
  obtain ⟨cY, cI, z⟩ := Zg z
  refine WL_run rfl (Zf rfl (Zx m)) rfl (Exec.index_rep S22 rfl rfl rfl u cI ?_)
  intro df dG bu
  refine WL_run rfl (Zf rfl (Zx m)) rfl (Zw (E := (encInt .i64)) hS A3 rfl rfl rfl bu ?_)
  intro ec cJ
  obtain rfl := encInt_val.1 cJ
  refine WL_run rfl (Zf rfl (Zx m)) rfl (Exec.neq rfl rfl rfl (Za rfl rfl (Exec.pick_f (v := Value.bool (!decide (cY = 0))) rfl (Zx m) rfl (Zb (Ze ?_)))))
  have dm := Zu z
  subst al
  exact ⟨s, (Zv _), (((hS).f2).f2).f2, rfl, rfl, rfl⟩
 intro d2 eh b8
 obtain ⟨aw, p, aK, cm, aT, aU⟩ := b8
 refine (Ze ?_)
 rcases ite_some hm with ⟨ae, hm⟩ | ⟨ae, hm⟩
 ·refine W_cond_t aU ae (Zc (Zd (Za rfl rfl (Zo (v := Value.bool (false)) rfl rfl (Zb (Ze (W_ret (at_ret ?_))))))))
  have dn := Zu hm
  subst r
  refine ⟨_, ret1 rfl, ?_⟩
  exact ⟨aw, p, (((aK).f2).f2).f2, rfl⟩
 refine W_cond_f aU ae ?_
 replace ae := Zk ae
 refine W_skip (Ze (Zc (Zc (Zd (Za rfl rfl (Zm (v := g) rfl aT (Za rfl rfl (Zr S22 rfl rfl (u.mono p) (Za rfl rfl (Zm (v := Vi (0)) rfl rfl (Zb (Ze ?_))))))))))))
 obtain ⟨aC, bz, bY, bS, bM⟩ := ctl_some hm
 refine W_mid (M := fun f' w' => ∃ s', (aC = .next s' ∨ aC = .brk s') ∧ (fun (_ : Unit) => ∃ (bk : PHeap) , PHeap.le aw bk ∧ St w0 bk (Res.box c 89 [a] :: Res.arr encRaw 22 a b :: Res.rows (encInt .i64) 3 b i.d :: H) w' ∧ f' 0 = Value.pointer (some ⟨c, 0, none⟩) ∧ f' 1 = g ∧ f' 29 = g ∧ f' 30 = Vi ((ai.length : Int))) s') ?_ ?_
 ·refine W_block (W_forC (fun k' s' f' w' => (fun (_ : Unit) => ∃ (bl : PHeap) , PHeap.le aw bl ∧ St w0 bl (Res.box c 89 [a] :: Res.arr encRaw 22 a b :: Res.rows (encInt .i64) 3 b i.d :: H) w' ∧ f' 0 = Value.pointer (some ⟨c, 0, none⟩) ∧ f' 1 = g ∧ f' 29 = g ∧ f' 30 = Vi ((ai.length : Int)) ∧ f' 31 = Vi (k' : Int)) s') bz ?_ ?_ ?_)
  ·have bE := ((aK).f2).f2
   exact ⟨aw, (Zv _), (bE).f2, cm, aT, rfl, rfl, rfl⟩
  ·intro aQ dS aD d3 ei bP b2 x cb
   obtain ⟨a8, a1, a0, aV, aW, a2, a3, ax⟩ := b2
   refine Zc (Zd (Za rfl rfl (Zq rfl ax a3 (Zb (Ze (Zc (W_true (Zx (decide_eq_true (by omega))) (W_skip (Ze (Zc (W_block (Zc (Zd ?_)))))))))))))
   obtain ⟨t, cK, x⟩ := Zg x
   refine Za rfl rfl (Exec.index_rep S22 rfl a2 ax (u.mono (Zt p a1)) cK ?_)
   intro dg dH bv
   refine Za rfl rfl (Zw (E := (encInt .i64)) a0 A3 rfl rfl rfl bv ?_)
   intro ed cL
   obtain rfl := encInt_val.1 cL
   refine Za rfl rfl (Zo (v := Vi (t)) rfl rfl (Zb (Ze (Zc (W_mid (M := fun f' w' => ∃ (bm : PHeap) , PHeap.le a8 bm ∧ St w0 bm (Res.box c 89 [a] :: Res.arr encRaw 22 a b :: Res.rows (encInt .i64) 3 b i.d :: H) w' ∧ f' 0 = Value.pointer (some ⟨c, 0, none⟩) ∧ f' 1 = g ∧ f' 29 = g ∧ f' 30 = Vi ((ai.length : Int)) ∧ f' 31 = Vi ((aQ : Int)) ∧ f' 40 = Value.bool (((decide (t < (-1125899906842624))) || decide (1125899906842624 < t)))) ?_ ?_)))))
   ·refine Zd (Za rfl rfl (Zm (v := Vi (t)) rfl rfl (Za rfl rfl (Zq rfl rfl rfl (Za rfl rfl (Zm (v := Value.bool (decide (t < (-1125899906842624)))) rfl rfl ?_))))))
    by_cases q : (decide (t < (-1125899906842624))) = true
    ·refine WL_passes 3 (by rw [q]; rfl) ?_
     refine Zb (Ze ?_)
     exact ⟨a8, (Zv _), (((a0).f2).f2).f2, aV, aW, a2, a3, ax, (Zx (or_t q)).symm⟩
    replace q := Zk q
    refine WL_run rfl (Zf rfl (Zx q)) rfl (Zm (v := Vi (t)) rfl rfl (WL_run rfl (Zf rfl (Zx q)) rfl (Exec.gtr rfl rfl rfl (Za rfl rfl (Exec.pick_f (v := Value.bool (decide (1125899906842624 < t))) rfl (Zx q) rfl (Zb (Ze ?_)))))))
    exact ⟨a8, (Zv _), (((a0).f2).f2).f2, aV, aW, a2, a3, ax, (Zx (or_f q)).symm⟩
   intro d4 ej b9
   obtain ⟨bn, aR, aL, cn, co, cp, cq, cr, aX⟩ := b9
   refine (Ze ?_)
   rcases ite_some x with ⟨af, x⟩ | ⟨af, x⟩
   ·refine W_cond_t aX af (Zc (Zd (Za rfl rfl (Zo (v := Value.bool (false)) rfl rfl (Zb (Ze (W_ret (ib_ret (at_ret (at_ret (ib_ret (at_ret (at_ret ?_)))))))))))))
    have dp := Zu x
    subst aD
    have bV := bY _ (cb (by intro _ h; cases h))
    have dq := Zu bV
    subst r
    refine ⟨_, ret1 rfl, ?_⟩
    exact ⟨bn, (Zt (Zt p a1) aR), (((aL).f2).f2).f2, rfl⟩
   refine W_cond_f aX af ?_
   replace af := Zk af
   refine W_skip (ib_normal (Ze (Zd (Za rfl rfl (Exec.add rfl cr rfl (Za rfl rfl (Zm (v := Vi (IntKind.i64.wrap ((aQ : Int) + 1))) rfl rfl (Zb (Ze ?_)))))))))
   have dr := Zu x
   subst aD
   refine ⟨_, rfl, ?_⟩; exact ⟨bn, (Zt a1 aR), (((aL).f2).f2).f2, cn, co, cp, cq, (Eq.trans rfl (wrap_up bP (SliceRep.le (u.mono p))))⟩
  intro dT d5 ek b3 cc
  obtain ⟨cS, ch, bF, cs, ct, cu, aY, cZ⟩ := b3
  refine Zc (Zd (Za rfl rfl (Zq rfl cZ aY (Zb (Ze (Zc (W_false (Zx (decide_eq_false (by omega))) (W_exit (at_exit (at_exit (ib_here (Ze ?_))))))))))))
  refine ⟨_, .inl cc, ?_⟩; exact ⟨cS, ch, (((bF).f2).f2).f2, cs, ct, cu, aY⟩
 rintro d6 el ⟨dU, aN, bA⟩
 have hm := aN.elim (bS _) (bM _)
 clear aN
 obtain ⟨a9, ao, aa, cv, cw, dK, dL⟩ := bA
 refine (Ze (Zc (Zc (Zd (Za rfl rfl (Zm (v := Value.pointer (some ⟨c, 0, none⟩)) rfl cv (Za rfl rfl (Exec.nilCheck_ptr rfl rfl (Za rfl rfl (Zp F89_0 rfl rfl rfl (Za rfl rfl (Zn (aa) A53 rfl rfl rfl (Za rfl rfl (Exec.len_grid (((aa).f2).f2) (((aa).f2).f2).f1.rows_len S53 rfl rfl (Za rfl rfl (Zm (v := Vi (0)) rfl rfl (Zb (Ze ?_))))))))))))))))))
 obtain ⟨aE, b0, bZ, bT, bN⟩ := ctl_some hm
 refine W_mid (M := fun f' w' => ∃ s', (aE = .next s' ∨ aE = .brk s') ∧ (fun (_ : Unit) => ∃ (bo : PHeap) , PHeap.le a9 bo ∧ St w0 bo (Res.box c 89 [a] :: Res.arr encRaw 22 a b :: Res.rows (encInt .i64) 3 b i.d :: H) w' ∧ f' 1 = g ∧ f' 45 = a ∧ f' 46 = Vi ((i.d.length : Int))) s') ?_ ?_
 ·refine W_block (W_forC (fun k' s' f' w' => (fun (_ : Unit) => ∃ (bp : PHeap) , PHeap.le a9 bp ∧ St w0 bp (Res.box c 89 [a] :: Res.arr encRaw 22 a b :: Res.rows (encInt .i64) 3 b i.d :: H) w' ∧ f' 1 = g ∧ f' 45 = a ∧ f' 46 = Vi ((i.d.length : Int)) ∧ f' 47 = Vi (k' : Int)) s') b0 ?_ ?_ ?_)
  ·have bG := ((aa).f2).f2
   exact ⟨a9, (Zv _), (bG).f2, cw, rfl, rfl, rfl⟩
  ·intro l dV aF d7 em bQ b4 y cd
   obtain ⟨aA, ap, ad, cx, aZ, ba, ay⟩ := b4
   refine Zc (Zd (Za rfl rfl (Zq rfl ay ba (Zb (Ze (Zc (W_true (Zx (decide_eq_true (by omega))) (W_skip (Ze (Zc (W_block (Zc (Zd (Za rfl rfl (Zm (v := Vi ((l : Int))) rfl ay ?_)))))))))))))))
   obtain ⟨a7, au, y⟩ := Zg y
   obtain ⟨ac, an, az, _⟩ := ((((ad).f2).f2).f1).rows_at au
   obtain ⟨dE, dj, aI⟩ := (((ad).f2).f2).arr_at an
   refine Za rfl rfl (Exec.index_slice S53 rfl (Eq.trans aZ aI) ay (idx_some an).1 (idx_some an).2.1 (Za rfl rfl (Exec.load_arr (F := encRaw) (((ad).f2).f2) aI A22 rfl rfl rfl an (Sub.refl _) ?_)))
   intro cX bh
   replace bh := (encRaw_val.1 bh).1
   subst cX
   refine Za rfl rfl (Zo (v := Vi ((l : Int))) rfl rfl (Za rfl rfl (Zo (v := ac) rfl rfl (Zb (Ze (Zc (Zd (Za rfl rfl (Zm (v := ac) rfl rfl (Za rfl rfl (Exec.len_arr (((((ad).f2).f2).f1).rows_split az (idx_some au).2.2) S22 rfl rfl (Za rfl rfl (Zm (v := Vi (0)) rfl rfl (Zb (Ze ?_)))))))))))))))
   obtain ⟨eb, cM, y⟩ := Zg y
   obtain ⟨aG, b1, ca, bU, bO⟩ := ctl_some y
   refine W_mid (M := fun f' w' => ∃ s', (aG = .next s' ∨ aG = .brk s') ∧ (fun (_ : Unit) => ∃ (bq : PHeap) , PHeap.le aA bq ∧ St w0 bq (Res.box c 89 [a] :: Res.arr encRaw 22 a b :: Res.rows (encInt .i64) 3 b i.d :: H) w' ∧ f' 1 = g ∧ f' 7 = Vi ((l : Int)) ∧ f' 45 = a ∧ f' 46 = Vi ((i.d.length : Int)) ∧ f' 47 = Vi ((l : Int)) ∧ f' 52 = ac ∧ f' 53 = Vi ((a7.length : Int))) s') ?_ ?_
   ·refine W_block (W_forC (fun k' s' f' w' => (fun (_ : Unit) => ∃ (br : PHeap) , PHeap.le aA br ∧ St w0 br (Res.box c 89 [a] :: Res.arr encRaw 22 a b :: Res.rows (encInt .i64) 3 b i.d :: H) w' ∧ f' 1 = g ∧ f' 7 = Vi ((l : Int)) ∧ f' 45 = a ∧ f' 46 = Vi ((i.d.length : Int)) ∧ f' 47 = Vi ((l : Int)) ∧ f' 52 = ac ∧ f' 53 = Vi ((a7.length : Int)) ∧ f' 54 = Vi (k' : Int)) s') b1 ?_ ?_ ?_)
    ·have bH := ((ad).f2).f2
     exact ⟨aA, (Zv _), (bH).f2, cx, rfl, aZ, ba, ay, rfl, rfl, rfl⟩
    ·intro ah dW aH d8 en bR b5 n ce
     obtain ⟨aB, aq, ab, ar, a4, bb, bc, bd, a5, a6, aj⟩ := b5
     refine Zc (Zd (Za rfl rfl (Zq rfl aj a6 (Zb (Ze (Zc (W_true (Zx (decide_eq_true (by omega))) (W_skip (Ze (Zc (W_block (Zc (Zd (Za rfl rfl (Zm (v := Vi ((ah : Int))) rfl aj ?_)))))))))))))))
     obtain ⟨ak, av, n⟩ := Zg n
     obtain ⟨dF, dk, aJ⟩ := (((((ab).f2).f2).f1).rows_split az (idx_some au).2.2).arr_at av
     refine Za rfl rfl (Exec.index_slice S22 rfl (Eq.trans a5 aJ) aj (idx_some av).1 (idx_some av).2.1 (Za rfl rfl (Exec.load_arr (F := (encInt .i64)) (((((ab).f2).f2).f1).rows_split az (idx_some au).2.2) aJ A3 rfl rfl rfl av (Sub.refl _) ?_)))
     intro ee cN
     obtain rfl := encInt_val.1 cN
     refine Za rfl rfl (Zo (v := Vi ((ah : Int))) rfl rfl (Za rfl rfl (Zo (v := Vi (ak)) rfl rfl (Zb (Ze (Zc ?_))))))
     obtain ⟨am, o, n⟩ := Zg n
     refine W_mid (M := fun f' w' => (fun (am : Bool) => ∃ (bs : PHeap) , PHeap.le aB bs ∧ St w0 bs (Res.box c 89 [a] :: Res.arr encRaw 22 a b :: Res.rows (encInt .i64) 3 b i.d :: H) w' ∧ f' 1 = g ∧ f' 7 = Vi ((l : Int)) ∧ f' 45 = a ∧ f' 46 = Vi ((i.d.length : Int)) ∧ f' 47 = Vi ((l : Int)) ∧ f' 52 = ac ∧ f' 53 = Vi ((a7.length : Int)) ∧ f' 54 = Vi ((ah : Int)) ∧ f' 73 = Value.bool (am)) am) ?_ ?_
     ·refine W_dl (n0 := 15) (qs 0 15 .done) hmix (by kernel_rfl) (by kernel_rfl) (DL_q rfl rfl (Zm (v := Vi (ak)) rfl rfl ⟨rfl, ?_⟩))
      refine DL_q rfl rfl (Zq rfl rfl rfl ⟨rfl, ?_⟩)
      refine DL_q rfl rfl (Zm (v := Value.bool (decide (ak < 1125899906842624))) rfl rfl ⟨rfl, ?_⟩)
      rcases ite_some o with ⟨j, o⟩ | ⟨j, o⟩
      ·refine DL_qg rfl rfl (Zf rfl (Zx j)) (Zm (v := g) rfl ar ⟨rfl, ?_⟩)
       refine DL_qg rfl rfl (Zf rfl (Zx j)) (Zm (v := Vi ((ah : Int))) rfl rfl ⟨rfl, ?_⟩)
       obtain ⟨da, cO, o⟩ := Zg o
       refine DL_qg rfl rfl (Zf rfl (Zx j)) (Exec.index_repE S22 rfl rfl rfl (u.mono (Zt (Zt (Zt p ao) ap) aq)) cO ?_)
       intro dh dI bw ds
       refine ⟨rfl, ?_⟩
       refine DL_qg rfl rfl (Zf rfl (Zx j)) (Zw (E := (encInt .i64)) ab.drew A3 rfl rfl rfl bw ?_)
       intro ef cP
       obtain rfl := encInt_val.1 cP
       refine ⟨rfl, ?_⟩
       refine DL_qg rfl rfl (Zf rfl (Zx j)) (Zm (v := g) rfl ar ⟨rfl, ?_⟩)
       refine DL_qg rfl rfl (Zf rfl (Zx j)) (Zm (v := Vi ((l : Int))) rfl a4 ⟨rfl, ?_⟩)
       obtain ⟨db, cQ, o⟩ := Zg o
       refine DL_qg rfl rfl (Zf rfl (Zx j)) (Exec.index_repE S22 rfl rfl rfl (u.mono (Zt (Zt (Zt p ao) ap) aq)) cQ ?_)
       intro di dJ bx dt
       refine ⟨rfl, ?_⟩
       refine DL_qg rfl rfl (Zf rfl (Zx j)) (Zw (E := (encInt .i64)) ab.drew A3 rfl rfl rfl bx ?_)
       intro eg cR
       obtain rfl := encInt_val.1 cR
       refine ⟨rfl, ?_⟩
       refine DL_qg rfl rfl (Zf rfl (Zx j)) (Exec.sub rfl rfl rfl ⟨rfl, ?_⟩)
       refine DL_qg rfl rfl (Zf rfl (Zx j)) (Zm (v := Vi (ak)) rfl rfl ⟨rfl, ?_⟩)
       refine DL_qg rfl rfl (Zf rfl (Zx j)) (Exec.gtr rfl rfl rfl ⟨rfl, ?_⟩)
       refine DL_q rfl rfl (Zs (v := Value.bool (decide (ak < (IntKind.i64.wrap (da - db))))) rfl (Zx j) rfl ⟨rfl, ?_⟩)
       refine DL_done (Zb (Ze ?_))
       have du := Zu o
       subst am
       exact ⟨aB, (Zv _), (((ab.drew).f2).f2).f2, ar, a4, bb, bc, bd, a5, a6, aj, rfl⟩
      replace j := Zk j
      refine DL_passes 12 (by rw [j]; rfl) ?_
      refine DL_done (Zb (Ze ?_))
      have dv := Zu o
      subst am
      exact ⟨aB, (Zv _), (((ab.drew).f2).f2).f2, ar, a4, bb, bc, bd, a5, a6, aj, rfl⟩
     intro d9 eo bB
     obtain ⟨bt, aS, aM, cy, cz, c0, c1, c2, c3, c4, c5, be⟩ := bB
     refine (Ze ?_)
     rcases ite_some n with ⟨ag, n⟩ | ⟨ag, n⟩
     ·refine W_cond_t be ag (Zc (Zd (Za rfl rfl (Zo (v := Value.bool (false)) rfl rfl (Zb (Ze (W_ret (ib_ret (at_ret (at_ret (ib_ret (at_ret (ib_ret (at_ret (at_ret (ib_ret (at_ret (at_ret ?_))))))))))))))))))
      have dw := Zu n
      subst aH
      have bW := ca _ (ce (by intro _ h; cases h))
      have dx := Zu bW
      subst aF
      have bX := bZ _ (cd (by intro _ h; cases h))
      have dy := Zu bX
      subst r
      refine ⟨_, ret1 rfl, ?_⟩
      exact ⟨bt, (Zt (Zt (Zt (Zt p ao) ap) aq) aS), (((aM).f2).f2).f2, rfl⟩
     refine W_cond_f be ag ?_
     replace ag := Zk ag
     refine W_skip (ib_normal (Ze (Zd (Za rfl rfl (Exec.add rfl c5 rfl (Za rfl rfl (Zm (v := Vi (IntKind.i64.wrap ((ah : Int) + 1))) rfl rfl (Zb (Ze ?_)))))))))
     have dz := Zu n
     subst aH
     refine ⟨_, rfl, ?_⟩; exact ⟨bt, (Zt aq aS), (((aM).f2).f2).f2, cy, cz, c0, c1, c2, c3, c4, (Eq.trans rfl (wrap_up bR (by have h := must_some cM; simpa [maxLen] using h)))⟩
    intro dX dA ep b6 cf
    obtain ⟨cT, ci, bI, c6, c7, c8, c9, cA, cB, bf, dc⟩ := b6
    refine Zc (Zd (Za rfl rfl (Zq rfl dc bf (Zb (Ze (Zc (W_false (Zx (decide_eq_false (by omega))) (W_exit (at_exit (at_exit (ib_here (Ze ?_))))))))))))
    refine ⟨_, .inl cf, ?_⟩; exact ⟨cT, ci, (((bI).f2).f2).f2, c6, c7, c8, c9, cA, cB, bf⟩
   rintro dB er ⟨dY, aO, bC⟩
   have y := aO.elim (bU _) (bO _)
   clear aO
   obtain ⟨cU, cj, bJ, cC, dM, cD, cE, cF, dN, dO⟩ := bC
   refine (ib_normal (Ze (Zd (Za rfl rfl (Exec.add rfl cF rfl (Za rfl rfl (Zm (v := Vi (IntKind.i64.wrap ((l : Int) + 1))) rfl rfl (Zb (Ze ?_)))))))))
   have d0 := Zu y
   subst aF
   refine ⟨_, rfl, ?_⟩; exact ⟨cU, (Zt ap cj), (((bJ).f2).f2).f2, cC, cD, cE, (Eq.trans rfl (wrap_up bQ (by have h := (((aa).f2).f2).f1.rows_len; have h2 := (((aa).f2).f2).arr_le; omega)))⟩
  intro dZ dC es b7 cg
  obtain ⟨cV, ck, bK, cG, cH, bg, dd⟩ := b7
  refine Zc (Zd (Za rfl rfl (Zq rfl dd bg (Zb (Ze (Zc (W_false (Zx (decide_eq_false (by omega))) (W_exit (at_exit (at_exit (ib_here (Ze ?_))))))))))))
  refine ⟨_, .inl cg, ?_⟩; exact ⟨cV, ck, (((bK).f2).f2).f2, cG, cH, bg⟩
 rintro dD et ⟨ea, aP, bD⟩
 have hm := aP.elim (bT _) (bN _)
 clear aP
 obtain ⟨cW, cl, bL, dP, dQ, dR⟩ := bD
 refine (Ze (Zc (Zd (Za rfl rfl (Zo (v := Value.bool (true)) rfl rfl (Zb (Ze (W_ret ?_))))))))
 have d1 := Zu hm
 subst r
 refine ⟨_, ret1 rfl, ?_⟩
 exact ⟨cW, (Zt (Zt p ao) cl), (((bL).f2).f2).f2, rfl⟩
theorem stn_Network_Holds_nil_sim {w0 w : World} {s : PHeap} {H : List Res} {b : (List Int)} {c : Value} {r : Bool} (hm : stn_Network_Holds_nil_p b = some r) (hS : St w0 s (H) w) (f : SliceRep (encInt .i64) s c b) :
  Calls Try.prog 17 #[Value.pointer none, c] w fun e w' => ∃ v, e = .returned v ∧ ((fun (d : Bool) => ∃ (a : PHeap) , PHeap.le s a ∧ St w0 a (H) w' ∧ v = Value.bool (d)) r) := by
 unfold stn_Network_Holds_nil_p at hm
 refine calls_of_W Try.func17 rfl rfl (Zc (Zd (Za rfl rfl (Zo (v := Value.bool (false)) rfl rfl (Zb (Ze (Zc (Zc (Zd (Za rfl rfl (Zm (v := Value.pointer none) rfl rfl (Za rfl rfl (Exec.ptr_eql_nil Try.underlying47 rfl rfl rfl (WL_passes 16 rfl (Zb (Ze (W_true rfl (Zc (Zd (Za rfl rfl (Zo (v := Value.bool (false)) rfl rfl (Zb (Ze (W_ret (at_ret ?_)))))))))))))))))))))))))
 have g := Zu hm
 subst r
 refine ⟨_, ret1 rfl, ?_⟩
 exact ⟨s, (Zv _), hS, rfl⟩
theorem S51 : tySlice Try.prog 51 = some (52, 1, 1) := by kernel_rfl
theorem A52 : tyAgg Try.prog 52 = some (false, 1) := by kernel_rfl
theorem temporal_States_sim {w0 w : World} {s : PHeap} {H : List Res} {y : Temporal} {ay : (List Launch)} {i : Value} {d : Value} {j : Value} {l : Value} {z : Value} {r : (List (List Int)) × (Option Int)} (hm : temporal_States_p y ay = some r) (hS : St w0 s (H) w) (ab : SliceRep (encInt .i64) s i y.Vars) (q : SliceRep (encInt .i64) s d y.Init) (ac : SliceRep encFact s j y.Goal) (ad : SliceRep encJob s l y.Jobs) (ah : SliceRep encLaunch s z ay) :
  Calls Try.prog 18 #[Value.agg #[i, d, j, l], z] w fun e w' => ∃ v, e = .returned v ∧ ((un2 fun (bf : (List (List Int))) (bg : (Option Int)) => ∃ (an : PHeap) (a3 : Value), PHeap.le s an ∧ St w0 an (H) w' ∧ v = Value.tuple #[a3, errV 45 (bg)] ∧ SliceRep (encSlice (encInt .i64)) an a3 bf) r) := by
 unfold temporal_States_p at hm
 refine calls_of_W Try.func18 rfl rfl (Zc (Zd (Za rfl rfl (Exec.box (cs := [i, d, j, l]) hS rfl rfl rfl ?_))))
 intro au b1 av
 refine Za rfl rfl (Zo (v := Value.slice none 0 0) rfl rfl (Za rfl rfl (Zo (v := errV 45 (none)) rfl rfl (Zb (Ze (Zc (Zc (Zd (Za rfl rfl (Exec.load_box_agg (ds := [i, d, j, l]) (av) A26 rfl rfl rfl (Za rfl rfl (Zm (v := z) rfl rfl ?_))))))))))))
 obtain ⟨af, aM, hm⟩ := Zg hm
 refine Za rfl rfl (Tc rfl rfl rfl (Zi rfl (Zi rfl args_nil)) (temporal_accept_sim aM av ab q ac ad ah).r ?_)
 rintro _ b2 ⟨aW, a, ai, rfl⟩
 refine Za rfl rfl (Zo (v := errV 45 (af)) rfl rfl (Zb (Ze (Zc (Zd (Za rfl rfl (Zm (v := errV 45 (af)) rfl rfl (Za rfl rfl (Exec.err_neq_nil (T := 45) Try.underlying31 rfl rfl rfl (Zb (Ze ?_)))))))))))
 rcases ite_some hm with ⟨t, hm⟩ | ⟨t, hm⟩
 ·refine W_cond_t rfl t (Zc (Zd (Za rfl rfl (Zm (v := errV 45 (af)) rfl rfl (Za rfl rfl (Zo (v := Value.slice none 0 0) rfl rfl (Za rfl rfl (Zo (v := errV 45 (af)) rfl rfl (Zb (Ze (W_ret (at_ret ?_))))))))))))
  have bk := Zu hm
  subst r
  refine ⟨_, ret2 rfl, ?_⟩
  exact ⟨aW, (Value.slice none 0 0), a, (ai).drop, (tup2 rfl rfl), (SliceRep.nil _ _)⟩
 refine W_cond_f rfl t ?_
 replace t := Zk t
 refine W_skip (Ze (Zc (Zd (Za rfl rfl (Exec.load_box_agg (ds := [i, d, j, l]) (ai) A26 rfl rfl rfl (Za rfl rfl (Zm (v := z) rfl rfl ?_)))))))
 obtain ⟨ag, aN, hm⟩ := Zg hm
 refine Za rfl rfl (Tc rfl rfl rfl (Zi rfl (Zi rfl args_nil)) (temporal_makespan_sim aN ai (ab.mono a) (q.mono a) (ac.mono a) (ad.mono a) (ah.mono a)).r ?_)
 rintro _ b3 ⟨aX, b, aj, rfl⟩
 refine Za rfl rfl (Zo (v := Vi (ag)) rfl rfl (Zb (Ze (Zc (Zc (Zd (Za rfl rfl (Zm (v := Vi (ag)) rfl rfl (Za rfl rfl (Exec.gtr rfl rfl rfl (Zb (Ze ?_))))))))))))
 rcases ite_some hm with ⟨u, hm⟩ | ⟨u, hm⟩
 ·refine W_cond_t rfl u (Zc (Zd (Za rfl rfl (Exec.makeInterface C45 rfl rfl (Za rfl rfl (Zo (v := Value.slice none 0 0) rfl rfl (Za rfl rfl (Zo (v := errV 45 (some 5)) rfl rfl (Zb (Ze (W_ret (at_ret ?_))))))))))))
  have bl := Zu hm
  subst r
  refine ⟨_, ret2 rfl, ?_⟩
  exact ⟨aX, (Value.slice none 0 0), (Zt a b), (aj).drop, (tup2 rfl rfl), (SliceRep.nil _ _)⟩
 refine W_cond_f rfl u ?_
 replace u := Zk u
 refine W_skip (Ze (Zc (Zd (Za rfl rfl (Exec.load_box_agg (ds := [i, d, j, l]) (aj) A26 rfl rfl rfl (Za rfl rfl (Zm (v := z) rfl rfl ?_)))))))
 obtain ⟨bb, aO, hm⟩ := Zg hm
 obtain ⟨bh, bA⟩ := bb
 replace hm := un2_eq hm
 refine Za rfl rfl (Tc rfl rfl rfl (Zi rfl (Zi rfl args_nil)) (temporal_happenings_sim aO aj (ab.mono (Zt a b)) (q.mono (Zt a b)) (ac.mono (Zt a b)) (ad.mono (Zt a b)) (ah.mono (Zt a b))).r ?_)
 rintro _ b4 ⟨a2, aq, o, n, aw, rfl, bu⟩
 refine Za rfl rfl (Zm (v := Value.tuple #[Value.map (some o), aq]) rfl rfl (Za rfl rfl (Exec.extract (v := Value.map (some o)) rfl rfl rfl (Za rfl rfl (Exec.extract (v := aq) rfl rfl rfl (Za rfl rfl (Zo (v := Value.map (some o)) rfl rfl (Za rfl rfl (Zo (v := aq) rfl rfl (Zb (Ze (Zc (Zd (Za rfl rfl (Zp F26_1 rfl rfl rfl (Za rfl rfl (Zn ((aw).f1) A22 rfl rfl rfl (Za rfl rfl (Zo (v := d) rfl rfl (Zb (Ze (Zc (Zd (Za rfl rfl (Zo (v := Value.slice none 0 0) rfl rfl (Zb (Ze (Zc (Zc (Zd (Za rfl rfl (Zm (v := Vi (ag)) rfl rfl (Za rfl rfl (Exec.add rfl rfl rfl (Za rfl rfl (Zm (v := Vi (0)) rfl rfl (Zb (Ze ?_))))))))))))))))))))))))))))))))))))))
 obtain ⟨bz, aP, hm⟩ := Zg hm
 obtain ⟨bc, a5, hm⟩ := Zg hm
 refine W_block (W_forS (fun k' s' f' w' => (un2 fun (ap : (List Int)) (al : (List (List Int))) => ∃ (ao : PHeap) (aa : Value) (m : Value), PHeap.le a2 ao ∧ St w0 ao (Res.box au 26 [i, d, j, l] :: Res.fmap Try.prog 3 enctemporal_happening o bh :: Res.arr (encSlice (encInt .i64)) 22 m al :: H) w' ∧ f' 2 = Value.pointer (some ⟨au, 0, none⟩) ∧ f' 8 = Value.map (some o) ∧ f' 10 = aa ∧ f' 11 = m ∧ f' 34 = Vi (IntKind.i64.wrap (ag + 1)) ∧ f' 35 = Vi (k' : Int) ∧ SliceRep (encInt .i64) ao aa ap) s') a5 ?_ ?_ ?_)
 ·have a8 := aw.nilArr (encSlice (encInt .i64)) 22
  exact ⟨a2, d, (Value.slice none 0 0), (Zv _), ((a8).f1).f2, rfl, rfl, rfl, rfl, rfl, rfl, (q.mono (Zt (Zt a b) n))⟩
 ·intro ae bd aY bo b5 aE a6 g
  obtain ⟨ap, al⟩ := bd
  replace g := un2_eq g
  obtain ⟨bw, aa, m, x, ak, az, a0, aI, aJ, a1, ar, ax⟩ := a6
  refine Zc (Zd (Za rfl rfl (Zq rfl ar a1 (Zb (Ze (Zc (W_true (Zx (decide_eq_true (by omega))) (W_skip (Ze (Zc (W_block (Zc (Zd (Za rfl rfl (Zm (v := Vi ((ae : Int))) rfl ar (Za rfl rfl (Zo (v := Vi ((ae : Int))) rfl rfl (Zb (Ze (Zc (Zd (Za rfl rfl (Exec.load_box_agg (ds := [i, d, j, l]) (ak) A26 rfl az rfl (Za rfl rfl (Zm (v := aa) rfl aI (Za rfl rfl (Zm (v := Value.map (some o)) rfl a0 (Za rfl rfl (Zm (v := Vi ((ae : Int))) rfl rfl ?_)))))))))))))))))))))))))))))
  obtain ⟨bv, aQ, g⟩ := Zg g
  refine Za rfl rfl (Exec.fmap_look ((ak).f1) ⟨Try.underlying63, Try.underlying3⟩ Z67 rfl rfl rfl aQ ?_)
  intro b0 aR
  have aU := encSlice_val.1 aR
  obtain ⟨bi, aS, g⟩ := Zg g
  refine Za rfl rfl (Tc rfl rfl rfl (Zi rfl (Zi rfl (Zi rfl args_nil))) (temporal_after_sim aS ak (ab.mono (Zt (Zt (Zt a b) n) x)) (q.mono (Zt (Zt (Zt a b) n) x)) (ac.mono (Zt (Zt (Zt a b) n) x)) (ad.mono (Zt (Zt (Zt a b) n) x)) ax aU).r ?_)
  rintro p b6 ⟨aZ, _, aF, a9, rfl, am⟩
  refine Za rfl rfl (Zo (v := p) rfl rfl (Zb (Ze (Zd (Za rfl rfl (Zm (v := m) rfl aJ (Za rfl rfl (Zm (v := p) rfl rfl (Za rfl rfl (Exec.buildSlice (Te := 22) (cs := [p]) a9 rfl (parts_cons (c := [p]) (cells_of rfl (cells_one (am).one)) parts_nil) (fun _ => by kernel_rfl) ?_))))))))))
  intro bj b7 aA
  obtain ⟨bq, aT, g⟩ := Zg g
  refine Za rfl rfl (Exec.append_box (E := (encSlice (encInt .i64))) (ys := [bi]) (aA).f3 S53 Z22 rfl (by decide) rfl rfl rfl rfl ⟨[p], [], rfl, ⟨_, rfl, am⟩, rfl⟩ rfl aT ?_)
  intro a4 b8 aB
  refine Za rfl rfl (Zo (v := a4) rfl rfl (Zb (ib_normal (Ze (Zd (Za rfl rfl (Exec.add rfl ar rfl (Za rfl rfl (Zm (v := Vi (IntKind.i64.wrap ((ae : Int) + 1))) rfl rfl (Zb (Ze ?_)))))))))))
  have bm := Zu g
  subst aY
  exact ⟨aZ, p, a4, (Zt x aF), ((aB).f2).f2, az, a0, rfl, rfl, a1, (Eq.trans rfl (wrap_up aE (by have h := must_some aP; simp at h; simp only [maxLen]; omega))), am⟩
 intro bp b9 a7
 obtain ⟨ap, al⟩ := bc
 replace hm := un2_eq hm
 obtain ⟨bx, aa, m, aG, aC, br, bs, bt, aK, aL, be, ax⟩ := a7
 refine Zc (Zd (Za rfl rfl (Zq rfl be aL (Zb (Ze (Zc (W_false (Zx (decide_eq_false (by omega))) (W_exit (at_exit (at_exit (ib_here (Ze (Zc (Zd (Za rfl rfl (Zm (v := m) rfl aK (Za rfl rfl (Zo (v := m) rfl rfl (Za rfl rfl (Zo (v := errV 45 (none)) rfl rfl (Zb (Ze (W_ret ?_)))))))))))))))))))))))
 have bn := Zu hm
 subst r
 refine ⟨_, ret2 rfl, ?_⟩
 obtain ⟨ba, aH, aD, aV⟩ := (aC).f2.freezeArr
 exact ⟨ba, m, (Zt (Zt (Zt (Zt a b) n) aG) aH), ((aD).drop).drop, (tup2 rfl rfl), aV⟩
end Go.Pw
