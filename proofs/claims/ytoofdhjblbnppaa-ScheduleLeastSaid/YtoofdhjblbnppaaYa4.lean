/-
  The walks (printed by my generator).
-/
import Derived.Test.YtoofdhjblbnppaaL29
import Derived.Test.YtoofdhjblbnppaaL27
import Derived.Test.YtoofdhjblbnppaaYa3
set_option maxRecDepth 100000
set_option maxHeartbeats 4000000
set_option linter.unusedVariables false
namespace Go.Pw
open Go.Proofs
theorem ref56_Sorted_sim {w0 w : World} {s : PHeap} {H : List Res} {ak : (List Launch)} {ap : Value} {r : (List Launch)} (hm : ref56_Sorted_p ak = some r) (hS : St w0 s (H) w) (aM : SliceRep encLaunch s ap ak) :
  Calls Try.prog 12 #[ap] w fun e w' => ∃ v, e = .returned v ∧ ((fun (bC : (List Launch)) => ∃ (aF : PHeap) (aL : Value), PHeap.le s aF ∧ St w0 aF (Res.arr encLaunch 39 aL bC :: H) w' ∧ v = aL) r) := by
 unfold ref56_Sorted_p at hm
 refine calls_of_W Try.func12 rfl rfl (Zc (Zd (Za rfl rfl (Zo (v := Value.slice none 0 0) rfl rfl (Zb (Ze (Zc (Zd (Za rfl rfl (Exec.buildSlice (Te := 39) (cs := []) hS rfl parts_nil (fun _ => by kernel_rfl) ?_))))))))))
 intro bD cr aU
 refine Za rfl rfl (Zm (v := ap) rfl rfl ?_)
 have aV := St.boxArr (E := encLaunch) (xs := []) aU rfl (by simp [maxLen])
 obtain ⟨af, bo, hm⟩ := Zg hm
 refine Za rfl rfl (Exec.append_rep (E := encLaunch) (ys := ak) aV S27 Z39 rfl (by decide) rfl rfl rfl aM bo ?_)
 intro a ct aj
 refine Za rfl rfl (Zo (v := a) rfl rfl (Zb (Ze (Zc (Zc (Zd (Za rfl rfl (Zm (v := a) rfl rfl (Za rfl rfl (Exec.len_arr (aj) S27 rfl rfl (Za rfl rfl (Zm (v := Vi (0)) rfl rfl (Zb (Ze ?_))))))))))))))
 obtain ⟨al, aN, hm⟩ := Zg hm
 refine W_block (W_forS (fun k' s' f' w' => (fun (al : (List Launch)) => ∃ (aG : PHeap) , PHeap.le s aG ∧ St w0 aG (Res.arr encLaunch 39 a al :: H) w' ∧ f' 3 = a ∧ f' 10 = Vi ((af.length : Int)) ∧ f' 11 = Vi (k' : Int)) s') aN ?_ ?_ ?_)
 ·exact ⟨s, (Zv _), aj, rfl, rfl, rfl⟩
 ·intro q al b0 bW cu bc aP ad
  obtain ⟨ao, bf, aW, bi, aB, aq⟩ := aP
  refine Zc (Zd (Za rfl rfl (Zq rfl aq aB (Zb (Ze (Zc (W_true (Zx (decide_eq_true (by omega))) (W_skip (Ze (Zc (W_block (Zc (Zd (Za rfl rfl (Zm (v := Vi ((q : Int))) rfl aq (Za rfl rfl (Zo (v := Vi ((q : Int))) rfl rfl (Zb (Ze (Zc (Zd (Za rfl rfl (Zm (v := Vi ((q : Int))) rfl rfl (Za rfl rfl (Zo (v := Vi ((q : Int))) rfl rfl (Zb (Ze ?_)))))))))))))))))))))))))))
  obtain ⟨ar, aO, cl, bd, bb⟩ := ctl_some ad
  refine W_mid (M := fun f' w' => ∃ s', (ar = .next s' ∨ ar = .brk s') ∧ (un2 fun (a7 : Int) (a8 : (List Launch)) => ∃ (aH : PHeap) , PHeap.le ao aH ∧ St w0 aH (Res.arr encLaunch 39 a a8 :: H) w' ∧ f' 3 = a ∧ f' 5 = Vi (a7) ∧ f' 10 = Vi ((af.length : Int)) ∧ f' 11 = Vi ((q : Int))) s') ?_ ?_
  ·refine W_block (W_while (fun s' f' w' => (un2 fun (g : Int) (am : (List Launch)) => ∃ (aI : PHeap) , PHeap.le ao aI ∧ St w0 aI (Res.arr encLaunch 39 a am :: H) w' ∧ f' 3 = a ∧ f' 5 = Vi (g) ∧ f' 10 = Vi ((af.length : Int)) ∧ f' 11 = Vi ((q : Int))) s') aO ?_ ?_)
   ·exact ⟨ao, (Zv _), aW, bi, rfl, aB, aq⟩
   intro b3 au bX cv aQ d be
   obtain ⟨g, am⟩ := b3
   replace d := un2_eq d
   obtain ⟨ae, a9, aX, p, o, ag, ah⟩ := aQ
   refine Zc (Zc ?_)
   obtain ⟨ab, j, d⟩ := Zg d
   refine W_mid (M := fun f' w' => (fun (ab : Bool) => ∃ (aJ : PHeap) , PHeap.le ae aJ ∧ St w0 aJ (Res.arr encLaunch 39 a am :: H) w' ∧ f' 3 = a ∧ f' 5 = Vi (g) ∧ f' 10 = Vi ((af.length : Int)) ∧ f' 11 = Vi ((q : Int)) ∧ f' 58 = Value.bool (ab)) ab) ?_ ?_
   ·refine W_dl (n0 := 44) (qs 0 44 .done) hmix (by kernel_rfl) (by kernel_rfl) ?_
    have l := aX.drew
    refine DL_q rfl rfl (Zm (v := Vi (g)) rfl o ⟨rfl, ?_⟩)
    refine DL_q rfl rfl (Exec.gtr rfl rfl rfl ⟨rfl, ?_⟩)
    refine DL_q rfl rfl (Zm (v := Value.bool (decide (0 < g))) rfl rfl ⟨rfl, ?_⟩)
    rcases ite_some j with ⟨b, j⟩ | ⟨b, j⟩
    ·refine DL_qg rfl rfl (Zf rfl (Zx b)) (Zm (v := a) rfl p ⟨rfl, ?_⟩)
     refine DL_qg rfl rfl (Zf rfl (Zx b)) (Zm (v := Vi (g)) rfl o ⟨rfl, ?_⟩)
     obtain ⟨t, m, j⟩ := Zg j
     obtain ⟨cb, bE, av⟩ := (l).arr_at m
     refine DL_qg rfl rfl (Zf rfl (Zx b)) (Exec.index_slice S27 rfl av rfl (idx_some m).1 (idx_some m).2.1 ⟨rfl, ?_⟩)
     refine DL_qg rfl rfl (Zf rfl (Zx b)) (Zp F39_0 rfl rfl rfl ⟨rfl, ?_⟩)
     refine DL_qg rfl rfl (Zf rfl (Zx b)) (Exec.load_arr (F := (encInt .i64)) (l) av A3 rfl rfl rfl m (Sub.iso (Sub.fst (Sub.refl _))) ?_)
     intro b5 bp
     obtain rfl : b5 = Vi (t.At) := encInt_val.1 bp
     refine ⟨rfl, ?_⟩
     refine DL_qg rfl rfl (Zf rfl (Zx b)) (Zm (v := a) rfl p ⟨rfl, ?_⟩)
     refine DL_qg rfl rfl (Zf rfl (Zx b)) (Zm (v := Vi (g)) rfl o ⟨rfl, ?_⟩)
     refine DL_qg rfl rfl (Zf rfl (Zx b)) (Exec.sub rfl rfl rfl ⟨rfl, ?_⟩)
     obtain ⟨u, n, j⟩ := Zg j
     obtain ⟨cc, bF, aw⟩ := (l).arr_at n
     refine DL_qg rfl rfl (Zf rfl (Zx b)) (Exec.index_slice S27 rfl aw rfl (idx_some n).1 (idx_some n).2.1 ⟨rfl, ?_⟩)
     refine DL_qg rfl rfl (Zf rfl (Zx b)) (Zp F39_0 rfl rfl rfl ⟨rfl, ?_⟩)
     refine DL_qg rfl rfl (Zf rfl (Zx b)) (Exec.load_arr (F := (encInt .i64)) (l) aw A3 rfl rfl rfl n (Sub.iso (Sub.fst (Sub.refl _))) ?_)
     intro b6 bq
     obtain rfl : b6 = Vi (u.At) := encInt_val.1 bq
     refine ⟨rfl, ?_⟩
     refine DL_qg rfl rfl (Zf rfl (Zx b)) (Zq rfl rfl rfl ⟨rfl, ?_⟩)
     refine DL_qg rfl rfl (Zf rfl (Zx b)) (Zm (v := Value.bool (decide (t.At < u.At))) rfl rfl ⟨rfl, ?_⟩)
     rcases ite_some j with ⟨c, j⟩ | ⟨c, j⟩
     ·refine DL_passes 26 (by rw [c]; rfl) ?_
      refine DL_qg rfl rfl (Zf rfl (Zx b)) (Zs (v := Value.bool (true)) rfl rfl rfl ⟨rfl, ?_⟩)
      refine DL_q rfl rfl (Zs (v := Value.bool (true)) rfl (Zx b) rfl ⟨rfl, ?_⟩)
      refine DL_done (Zb (Ze ?_))
      have bO := Zu j
      subst ab
      exact ⟨ae, (Zv _), l, p, o, ag, ah, rfl⟩
     replace c := Zk c
     refine DL_qg rfl rfl (Zf rfl (Zx c)) (Zm (v := a) rfl p ⟨rfl, ?_⟩)
     refine DL_qg rfl rfl (Zf rfl (Zx c)) (Zm (v := Vi (g)) rfl o ⟨rfl, ?_⟩)
     obtain ⟨cd, bG, ax⟩ := (l).arr_at m
     refine DL_qg rfl rfl (Zf rfl (Zx c)) (Exec.index_slice S27 rfl ax rfl (idx_some m).1 (idx_some m).2.1 ⟨rfl, ?_⟩)
     refine DL_qg rfl rfl (Zf rfl (Zx c)) (Zp F39_0 rfl rfl rfl ⟨rfl, ?_⟩)
     refine DL_qg rfl rfl (Zf rfl (Zx c)) (Exec.load_arr (F := (encInt .i64)) (l) ax A3 rfl rfl rfl m (Sub.iso (Sub.fst (Sub.refl _))) ?_)
     intro b7 br
     obtain rfl : b7 = Vi (t.At) := encInt_val.1 br
     refine ⟨rfl, ?_⟩
     refine DL_qg rfl rfl (Zf rfl (Zx c)) (Zm (v := a) rfl p ⟨rfl, ?_⟩)
     refine DL_qg rfl rfl (Zf rfl (Zx c)) (Zm (v := Vi (g)) rfl o ⟨rfl, ?_⟩)
     refine DL_qg rfl rfl (Zf rfl (Zx c)) (Exec.sub rfl rfl rfl ⟨rfl, ?_⟩)
     obtain ⟨ce, bH, ay⟩ := (l).arr_at n
     refine DL_qg rfl rfl (Zf rfl (Zx c)) (Exec.index_slice S27 rfl ay rfl (idx_some n).1 (idx_some n).2.1 ⟨rfl, ?_⟩)
     refine DL_qg rfl rfl (Zf rfl (Zx c)) (Zp F39_0 rfl rfl rfl ⟨rfl, ?_⟩)
     refine DL_qg rfl rfl (Zf rfl (Zx c)) (Exec.load_arr (F := (encInt .i64)) (l) ay A3 rfl rfl rfl n (Sub.iso (Sub.fst (Sub.refl _))) ?_)
     intro b8 bs
     obtain rfl : b8 = Vi (u.At) := encInt_val.1 bs
     refine ⟨rfl, ?_⟩
     refine DL_qg rfl rfl (Zf rfl (Zx c)) (Exec.eql rfl rfl rfl ⟨rfl, ?_⟩)
     refine DL_qg rfl rfl (Zf rfl (Zx c)) (Zm (v := Value.bool (decide (t.At = u.At))) rfl rfl ⟨rfl, ?_⟩)
     rcases ite_some j with ⟨i, j⟩ | ⟨i, j⟩
     ·refine DL_qg rfl rfl (Zf rfl (Zx i)) (Zm (v := a) rfl p ⟨rfl, ?_⟩)
      refine DL_qg rfl rfl (Zf rfl (Zx i)) (Zm (v := Vi (g)) rfl o ⟨rfl, ?_⟩)
      obtain ⟨cf, bI, az⟩ := (l).arr_at m
      refine DL_qg rfl rfl (Zf rfl (Zx i)) (Exec.index_slice S27 rfl az rfl (idx_some m).1 (idx_some m).2.1 ⟨rfl, ?_⟩)
      refine DL_qg rfl rfl (Zf rfl (Zx i)) (Zp F39_1 rfl rfl rfl ⟨rfl, ?_⟩)
      refine DL_qg rfl rfl (Zf rfl (Zx i)) (Exec.load_arr (F := (encInt .i64)) (l) az A3 rfl rfl rfl m (Sub.iso (Sub.snd (Sub.refl _) rfl)) ?_)
      intro b9 bt
      obtain rfl : b9 = Vi (t.Job) := encInt_val.1 bt
      refine ⟨rfl, ?_⟩
      refine DL_qg rfl rfl (Zf rfl (Zx i)) (Zm (v := a) rfl p ⟨rfl, ?_⟩)
      refine DL_qg rfl rfl (Zf rfl (Zx i)) (Zm (v := Vi (g)) rfl o ⟨rfl, ?_⟩)
      refine DL_qg rfl rfl (Zf rfl (Zx i)) (Exec.sub rfl rfl rfl ⟨rfl, ?_⟩)
      obtain ⟨cg, bJ, a0⟩ := (l).arr_at n
      refine DL_qg rfl rfl (Zf rfl (Zx i)) (Exec.index_slice S27 rfl a0 rfl (idx_some n).1 (idx_some n).2.1 ⟨rfl, ?_⟩)
      refine DL_qg rfl rfl (Zf rfl (Zx i)) (Zp F39_1 rfl rfl rfl ⟨rfl, ?_⟩)
      refine DL_qg rfl rfl (Zf rfl (Zx i)) (Exec.load_arr (F := (encInt .i64)) (l) a0 A3 rfl rfl rfl n (Sub.iso (Sub.snd (Sub.refl _) rfl)) ?_)
      intro bA bu
      obtain rfl : bA = Vi (u.Job) := encInt_val.1 bu
      refine ⟨rfl, ?_⟩
      refine DL_qg rfl rfl (Zf rfl (Zx i)) (Zq rfl rfl rfl ⟨rfl, ?_⟩)
      refine DL_qg rfl rfl (Zf rfl (Zx c)) (Zs (v := Value.bool (decide (t.Job < u.Job))) rfl (Zx i) rfl ⟨rfl, ?_⟩)
      refine DL_qg rfl rfl (Zf rfl (Zx b)) (Exec.pick_f (v := Value.bool (decide (t.Job < u.Job))) rfl (Zx c) rfl ⟨rfl, ?_⟩)
      refine DL_q rfl rfl (Zs (v := Value.bool (decide (t.Job < u.Job))) rfl (Zx b) rfl ⟨rfl, ?_⟩)
      refine DL_done (Zb (Ze ?_))
      have bP := Zu j
      subst ab
      exact ⟨ae, (Zv _), l, p, o, ag, ah, rfl⟩
     replace i := Zk i
     refine DL_passes 12 (by rw [i]; rfl) ?_
     refine DL_qg rfl rfl (Zf rfl (Zx c)) (Exec.pick_f (v := Value.bool (false)) rfl rfl rfl ⟨rfl, ?_⟩)
     refine DL_qg rfl rfl (Zf rfl (Zx b)) (Exec.pick_f (v := Value.bool (false)) rfl (Zx c) rfl ⟨rfl, ?_⟩)
     refine DL_q rfl rfl (Zs (v := Value.bool (false)) rfl (Zx b) rfl ⟨rfl, ?_⟩)
     refine DL_done (Zb (Ze ?_))
     have bQ := Zu j
     subst ab
     exact ⟨ae, (Zv _), l, p, o, ag, ah, rfl⟩
    replace b := Zk b
    refine DL_passes 41 (by rw [b]; rfl) ?_
    refine DL_done (Zb (Ze ?_))
    have bR := Zu j
    subst ab
    exact ⟨ae, (Zv _), l, p, o, ag, ah, rfl⟩
   intro bY cw aS
   obtain ⟨aK, aA, x, y, z, aC, aD, aE⟩ := aS
   refine (Ze ?_)
   rcases ite_some d with ⟨ac, d⟩ | ⟨ac, d⟩
   ·refine W_cond_t aE ac (W_skip (Ze (Zc (W_block (W_dl (n0 := 16) (qs 0 15 (.e 15 [2, 3, 4] .done)) hmix (by kernel_rfl) (by kernel_rfl) (DL_q rfl rfl (Zm (v := a) rfl y ⟨rfl, ?_⟩)))))))
    refine DL_q rfl rfl (Zm (v := Vi (g)) rfl z ⟨rfl, ?_⟩)
    refine DL_q rfl rfl (Zm (v := a) rfl y ⟨rfl, ?_⟩)
    refine DL_q rfl rfl (Zm (v := Vi (g)) rfl z ⟨rfl, ?_⟩)
    refine DL_q rfl rfl (Exec.sub rfl rfl rfl ⟨rfl, ?_⟩)
    refine DL_q rfl rfl (Zm (v := a) rfl y ⟨rfl, ?_⟩)
    refine DL_q rfl rfl (Zm (v := Vi (g)) rfl z ⟨rfl, ?_⟩)
    refine DL_q rfl rfl (Exec.sub rfl rfl rfl ⟨rfl, ?_⟩)
    obtain ⟨c1, ai, d⟩ := Zg d
    obtain ⟨ch, bK, a1⟩ := (x.drew).arr_at ai
    refine DL_q rfl rfl (Exec.index_slice S27 rfl a1 rfl (idx_some ai).1 (idx_some ai).2.1 ⟨rfl, ?_⟩)
    refine DL_q rfl rfl (Exec.load_arr (F := encLaunch) (x.drew) a1 A39 rfl rfl rfl ai (Sub.refl _) ?_)
    intro cp bv
    obtain rfl := encLaunch_val.1 bv
    refine ⟨rfl, ?_⟩
    refine DL_q rfl rfl (Zm (v := a) rfl y ⟨rfl, ?_⟩)
    refine DL_q rfl rfl (Zm (v := Vi (g)) rfl z ⟨rfl, ?_⟩)
    obtain ⟨c2, aa, d⟩ := Zg d
    obtain ⟨ci, bL, a2⟩ := (x.drew).arr_at aa
    refine DL_q rfl rfl (Exec.index_slice S27 rfl a2 rfl (idx_some aa).1 (idx_some aa).2.1 ⟨rfl, ?_⟩)
    refine DL_q rfl rfl (Exec.load_arr (F := encLaunch) (x.drew) a2 A39 rfl rfl rfl aa (Sub.refl _) ?_)
    intro cq bw
    obtain rfl := encLaunch_val.1 bw
    refine ⟨rfl, ?_⟩
    obtain ⟨cj, bM, a3⟩ := (x.drew).arr_at aa
    refine DL_q rfl rfl (Exec.index_slice S27 rfl a3 rfl (idx_some aa).1 (idx_some aa).2.1 ⟨rfl, ?_⟩)
    obtain ⟨cm, bx, d⟩ := Zg d
    refine DL_e rfl rfl (Exec.store_arr x.drew a3 A39 rfl rfl rfl rfl (encLaunch_val.2 rfl) bx ?_)
    intro cx a5
    refine ⟨(ag_cons (ag_r rfl rfl (Zm (v := a) rfl y ⟨rfl, rfl⟩)) (ag_cons (ag_r rfl rfl (Zm (v := Vi (g)) rfl z ⟨rfl, rfl⟩)) (ag_cons (ag_r rfl rfl (Exec.sub rfl rfl rfl ⟨rfl, rfl⟩)) ag_nil))), ?_⟩
    refine DL_done ?_
    obtain ⟨c3, an, d⟩ := Zg d
    obtain ⟨ck, bN, a4⟩ := (a5).arr_at an
    refine Za rfl rfl (Exec.index_slice S27 rfl a4 rfl (idx_some an).1 (idx_some an).2.1 ?_)
    obtain ⟨cn, bz, d⟩ := Zg d
    refine Za rfl rfl (Exec.store_arr a5 a4 A39 rfl rfl rfl rfl (encLaunch_val.2 rfl) bz ?_)
    intro cy aY
    refine Zb (ib_normal (Ze (Zd (Za rfl rfl (Zm (v := Vi (g)) rfl z (Za rfl rfl (Exec.sub rfl rfl rfl (Za rfl rfl (Zo (v := Vi (IntKind.i64.wrap (g - 1))) rfl rfl (Zb (Ze ?_)))))))))))
    have bS := Zu d
    subst au
    refine ⟨_, rfl, ?_⟩; exact ⟨aK, (Zt a9 aA), aY, y, rfl, aC, aD⟩
   refine W_cond_f aE ac ?_
   replace ac := Zk ac
   refine W_exit (at_exit (at_exit (ib_here (Ze ?_))))
   have bT := Zu d
   subst au
   refine ⟨_, .inr (be (by intro _ h; cases h)), ?_⟩; exact ⟨aK, (Zt a9 aA), x, y, z, aC, aD⟩
  rintro bZ cz ⟨b4, a6, aT⟩
  have ad := a6.elim (bd _) (bb _)
  clear a6
  obtain ⟨a7, a8⟩ := b4
  replace ad := un2_eq ad
  obtain ⟨b1, bg, aZ, bj, co, bk, bl⟩ := aT
  refine (ib_normal (Ze (Zd (Za rfl rfl (Exec.add rfl bl rfl (Za rfl rfl (Zm (v := Vi (IntKind.i64.wrap ((q : Int) + 1))) rfl rfl (Zb (Ze ?_)))))))))
  have bU := Zu ad
  subst b0
  exact ⟨b1, (Zt bf bg), aZ, bj, bk, (Eq.trans rfl (wrap_up bc (aj).arr_le))⟩
 intro ca c0 aR
 obtain ⟨b2, bh, ba, bm, bn, bB⟩ := aR
 refine Zc (Zd (Za rfl rfl (Zq rfl bB bn (Zb (Ze (Zc (W_false (Zx (decide_eq_false (by omega))) (W_exit (at_exit (at_exit (ib_here (Ze (Zc (Zd (Za rfl rfl (Zm (v := a) rfl bm (Za rfl rfl (Zo (v := a) rfl rfl (Zb (Ze (W_ret ?_)))))))))))))))))))))
 have bV := Zu hm
 subst r
 refine ⟨_, ret1 rfl, ?_⟩
 exact ⟨b2, a, bh, ba, rfl⟩
theorem law57_ScheduleLeast_sim {w0 w : World} {s : PHeap} {H : List Res} {a6 : Temporal} {aV : (List Launch)} {x : Value} {y : Value} {z : Value} {aa : Value} {ab : Value} {r : Bool} (hm : law57_ScheduleLeast_p a6 aV = some r) (hS : St w0 s (H) w) (aq : SliceRep (encInt .i64) s x a6.Vars) (ar : SliceRep (encInt .i64) s y a6.Init) (au : SliceRep encFact s z a6.Goal) (av : SliceRep encJob s aa a6.Jobs) (aw : SliceRep encLaunch s ab aV) :
  Calls Try.prog 3 #[Value.agg #[x, y, z, aa], ab] w fun e w' => ∃ v, e = .returned v ∧ ((fun (c4 : Bool) => ∃ (bm : PHeap) , PHeap.le s bm ∧ St w0 bm (H) w' ∧ v = Value.bool (c4)) r) := by
 unfold law57_ScheduleLeast_p at hm
 refine calls_of_W Try.func3 rfl rfl (Zc (Zd (Za rfl rfl (Exec.box (cs := [x, y, z, aa]) hS rfl rfl rfl ?_))))
 intro aY dx b5
 refine Za rfl rfl (Zo (v := Value.bool (false)) rfl rfl (Zb (Ze (Zc (Zc ?_)))))
 obtain ⟨aA, u, hm⟩ := Zg hm
 refine W_mid (M := fun f' w' => (fun (aA : Bool) => ∃ (bn : PHeap) , PHeap.le s bn ∧ St w0 bn (Res.box aY 26 [x, y, z, aa] :: H) w' ∧ f' 1 = ab ∧ f' 2 = Value.pointer (some ⟨aY, 0, none⟩) ∧ f' 21 = Value.bool (aA)) aA) ?_ ?_
 ·refine Zd ?_
  obtain ⟨c5, bX, u⟩ := Zg u
  refine Za rfl rfl (Tc rfl rfl rfl args_nil (law57_awake_sim bX b5 ).r ?_)
  rintro _ dy ⟨cn, ai, aP, rfl⟩
  refine Za rfl rfl (Exec.not rfl rfl (Za rfl rfl (Zm (v := Value.bool (!c5)) rfl rfl ?_)))
  rcases ite_some u with ⟨q, u⟩ | ⟨q, u⟩
  ·refine WL_passes 5 (by rw [q]; rfl) ?_
   refine Zb (Ze ?_)
   have cE := Zu u
   subst aA
   exact ⟨cn, ai, aP, rfl, rfl, rfl⟩
  replace q := Zk q
  refine WL_run rfl (Zf rfl (Zx q)) rfl (Exec.load_box_agg (ds := [x, y, z, aa]) (aP) A26 rfl rfl rfl (WL_run rfl (Zf rfl (Zx q)) rfl (Zm (v := ab) rfl rfl ?_)))
  obtain ⟨c6, bY, u⟩ := Zg u
  refine WL_run rfl (Zf rfl (Zx q)) rfl (Tc rfl rfl rfl (Zi rfl (Zi rfl args_nil)) (law57_few_sim bY aP (aq.mono ai) (ar.mono ai) (au.mono ai) (av.mono ai) (aw.mono ai)).r ?_)
  rintro _ dz ⟨co, bL, b6, rfl⟩
  refine WL_run rfl (Zf rfl (Zx q)) rfl (Exec.not rfl rfl (Za rfl rfl (Exec.pick_f (v := Value.bool (!c6)) rfl (Zx q) rfl (Zb (Ze ?_)))))
  have cF := Zu u
  subst aA
  exact ⟨co, (Zt ai bL), b6, rfl, rfl, rfl⟩
 intro cZ d0 b1
 obtain ⟨dm, a, aQ, ae, aD, bi⟩ := b1
 refine (Ze ?_)
 rcases ite_some hm with ⟨ax, hm⟩ | ⟨ax, hm⟩
 ·refine W_cond_t bi ax (Zc (Zd ?_))
  obtain ⟨c7, bZ, hm⟩ := Zg hm
  refine Za rfl rfl (Tc rfl rfl rfl args_nil (law57_awake_sim bZ aQ ).r ?_)
  rintro _ d1 ⟨cp, bM, b7, rfl⟩
  refine Za rfl rfl (Zo (v := Value.bool (c7)) rfl rfl (Zb (Ze (W_ret (at_ret ?_)))))
  have cG := Zu hm
  subst r
  refine ⟨_, ret1 rfl, ?_⟩
  exact ⟨cp, (Zt a bM), (b7).drop, rfl⟩
 refine W_cond_f bi ax ?_
 replace ax := Zk ax
 refine W_skip (Ze (Zc (Zd (Za rfl rfl (Exec.load_box_agg (ds := [x, y, z, aa]) (aQ) A26 rfl aD rfl (Za rfl rfl (Zm (v := ab) rfl ae ?_)))))))
 obtain ⟨cw, ca, hm⟩ := Zg hm
 obtain ⟨aK, aL⟩ := cw
 replace hm := un2_eq hm
 refine Za rfl rfl (Tc rfl rfl rfl (Zi rfl (Zi rfl args_nil)) (temporal_Validate_sim ca aQ (aq.mono a) (ar.mono a) (au.mono a) (av.mono a) (aw.mono a)).r ?_)
 rintro _ d2 ⟨cq, c, aR, rfl⟩
 refine Za rfl rfl (Zm (v := Value.tuple #[Vi (aK), errV 45 (aL)]) rfl rfl (Za rfl rfl (Exec.extract (v := Vi (aK)) rfl rfl rfl (Za rfl rfl (Exec.extract (v := errV 45 (aL)) rfl rfl rfl (Za rfl rfl (Zo (v := Vi (aK)) rfl rfl (Za rfl rfl (Zo (v := errV 45 (aL)) rfl rfl (Zb (Ze (Zc (Zc (Zd (Za rfl rfl (Zm (v := errV 45 (aL)) rfl rfl (Za rfl rfl (Exec.err_neq_nil (T := 45) Try.underlying31 rfl rfl rfl (Zb (Ze ?_))))))))))))))))))))
 rcases ite_some hm with ⟨ay, hm⟩ | ⟨ay, hm⟩
 ·refine W_cond_t rfl ay (Zc (Zd (Za rfl rfl (Zo (v := Value.bool (true)) rfl rfl (Zb (Ze (W_ret (at_ret ?_))))))))
  have cH := Zu hm
  subst r
  refine ⟨_, ret1 rfl, ?_⟩
  exact ⟨cq, (Zt a c), (aR).drop, rfl⟩
 refine W_cond_f rfl ay ?_
 replace ay := Zk ay
 refine W_skip (Ze (Zc (Zd (Za rfl rfl (Exec.load_box_agg (ds := [x, y, z, aa]) (aR) A26 rfl aD rfl (Za rfl rfl (Zm (v := ab) rfl ae ?_)))))))
 obtain ⟨cx, cb, hm⟩ := Zg hm
 obtain ⟨c8, aM⟩ := cx
 replace hm := un2_eq hm
 refine Za rfl rfl (Tc rfl rfl rfl (Zi rfl (Zi rfl args_nil)) (schedule_Shift_sim cb aR (aq.mono (Zt a c)) (ar.mono (Zt a c)) (au.mono (Zt a c)) (av.mono (Zt a c)) (aw.mono (Zt a c))).r ?_)
 rintro _ d3 ⟨cr, i, g, aS, rfl, ak⟩
 refine Za rfl rfl (Zm (v := Value.tuple #[i, errV 45 (aM)]) rfl rfl (Za rfl rfl (Exec.extract (v := i) rfl rfl rfl (Za rfl rfl (Exec.extract (v := errV 45 (aM)) rfl rfl rfl (Za rfl rfl (Zo (v := i) rfl rfl (Za rfl rfl (Zo (v := errV 45 (aM)) rfl rfl (Zb (Ze (Zc (Zc (Zd (Za rfl rfl (Zm (v := errV 45 (aM)) rfl rfl (Za rfl rfl (Exec.err_neq_nil (T := 45) Try.underlying31 rfl rfl rfl (Zb (Ze ?_))))))))))))))))))))
 rcases ite_some hm with ⟨az, hm⟩ | ⟨az, hm⟩
 ·refine W_cond_t rfl az (Zc (Zd (Za rfl rfl (Zo (v := Value.bool (false)) rfl rfl (Zb (Ze (W_ret (at_ret ?_))))))))
  have cI := Zu hm
  subst r
  refine ⟨_, ret1 rfl, ?_⟩
  exact ⟨cr, (Zt (Zt a c) g), (aS).drop, rfl⟩
 refine W_cond_f rfl az ?_
 replace az := Zk az
 refine W_skip (Ze (Zc (Zd (Za rfl rfl (Exec.load_box_agg (ds := [x, y, z, aa]) (aS) A26 rfl aD rfl (Za rfl rfl (Zm (v := i) rfl rfl ?_)))))))
 obtain ⟨cy, cc, hm⟩ := Zg hm
 obtain ⟨aN, a9⟩ := cy
 replace hm := un2_eq hm
 refine Za rfl rfl (Tc rfl rfl rfl (Zi rfl (Zi rfl args_nil)) (temporal_Validate_sim cc aS (aq.mono (Zt (Zt a c) g)) (ar.mono (Zt (Zt a c) g)) (au.mono (Zt (Zt a c) g)) (av.mono (Zt (Zt a c) g)) ak).r ?_)
 rintro _ d4 ⟨dn, d, bc, rfl⟩
 refine Za rfl rfl (Zm (v := Value.tuple #[Vi (aN), errV 45 (a9)]) rfl rfl (Za rfl rfl (Exec.extract (v := Vi (aN)) rfl rfl rfl (Za rfl rfl (Exec.extract (v := errV 45 (a9)) rfl rfl rfl (Za rfl rfl (Zo (v := Vi (aN)) rfl rfl (Za rfl rfl (Zo (v := errV 45 (a9)) rfl rfl (Zb (Ze (Zc (Zd (Za rfl rfl (Exec.load_box_agg (ds := [x, y, z, aa]) (bc) A26 rfl aD rfl (Za rfl rfl (Zm (v := i) rfl rfl ?_)))))))))))))))))
 obtain ⟨cz, cd, hm⟩ := Zg hm
 obtain ⟨dG, aO⟩ := cz
 replace hm := un2_eq hm
 refine Za rfl rfl (Tc rfl rfl rfl (Zi rfl (Zi rfl args_nil)) (schedule_Shift_sim cd bc (aq.mono (Zt (Zt (Zt a c) g) d)) (ar.mono (Zt (Zt (Zt a c) g) d)) (au.mono (Zt (Zt (Zt a c) g) d)) (av.mono (Zt (Zt (Zt a c) g) d)) (ak.mono d)).r ?_)
 rintro _ d5 ⟨aH, aJ, p, aB, rfl, cl⟩
 refine Za rfl rfl (Zm (v := Value.tuple #[aJ, errV 45 (aO)]) rfl rfl (Za rfl rfl (Exec.extract (v := aJ) rfl rfl rfl (Za rfl rfl (Exec.extract (v := errV 45 (aO)) rfl rfl rfl (Za rfl rfl (Zo (v := aJ) rfl rfl (Za rfl rfl (Zo (v := errV 45 (aO)) rfl rfl (Zb (Ze (Zc (Zc ?_)))))))))))))
 obtain ⟨af, b, hm⟩ := Zg hm
 refine W_mid (M := fun f' w' => (fun (af : Bool) => ∃ (bo : PHeap) , PHeap.le aH bo ∧ St w0 bo (H) w' ∧ f' 1 = ab ∧ f' 7 = i ∧ f' 75 = Value.bool (af)) af) ?_ ?_
 ·refine Zd (Za rfl rfl (Zm (v := errV 45 (a9)) rfl rfl (Za rfl rfl (Exec.err_neq_nil (T := 45) Try.underlying31 rfl rfl rfl (Za rfl rfl (Zm (v := Value.bool (a9.isSome)) rfl rfl ?_))))))
  rcases ite_some b with ⟨ag, b⟩ | ⟨ag, b⟩
  ·refine WL_passes 22 (by rw [ag]; rfl) ?_
   refine Zb (Ze ?_)
   have cJ := Zu b
   subst af
   exact ⟨aH, (Zv _), (aB).drop, ae, rfl, rfl⟩
  replace ag := Zk ag
  refine WL_run rfl (Zf rfl (Zx ag)) rfl (Zm (v := errV 45 (aO)) rfl rfl (WL_run rfl (Zf rfl (Zx ag)) rfl (Exec.err_neq_nil (T := 45) Try.underlying31 rfl rfl rfl ?_)))
  refine WL_passes 2 (by rw [ag]; rfl) ?_
  rcases ite_some b with ⟨ad, b⟩ | ⟨ad, b⟩
  ·refine WL_passes 18 (by rw [ad]; rfl) ?_
   refine Zb (Ze ?_)
   have cK := Zu b
   subst af
   exact ⟨aH, (Zv _), (aB).drop, ae, rfl, rfl⟩
  replace ad := Zk ad
  refine WL_run rfl (Zf rfl (Zx ad)) rfl (Zm (v := Vi (aN)) rfl rfl (WL_run rfl (Zf rfl (Zx ad)) rfl (Zm (v := Vi (aK)) rfl rfl (WL_run rfl (Zf rfl (Zx ad)) rfl (Exec.gtr rfl rfl rfl ?_)))))
  refine WL_passes 2 (by rw [ad]; rfl) ?_
  rcases ite_some b with ⟨n, b⟩ | ⟨n, b⟩
  ·refine WL_passes 13 (by rw [n]; rfl) ?_
   refine Zb (Ze ?_)
   have cL := Zu b
   subst af
   exact ⟨aH, (Zv _), (aB).drop, ae, rfl, rfl⟩
  replace n := Zk n
  refine WL_run rfl (Zf rfl (Zx n)) rfl (Zm (v := aJ) rfl rfl (WL_run rfl (Zf rfl (Zx n)) rfl (Zm (v := i) rfl rfl ?_)))
  obtain ⟨dH, ce, b⟩ := Zg b
  refine WL_run rfl (Zf rfl (Zx n)) rfl (Tc rfl rfl rfl (Zi rfl args_nil) (ref56_Sorted_sim ce aB (ak.mono (Zt d p))).r ?_)
  rintro dv d6 ⟨dp, _, a2, b8, rfl⟩
  obtain ⟨dq, a3, b9, cm⟩ := b8.freezeArr
  obtain ⟨dI, cf, b⟩ := Zg b
  refine WL_run rfl (Zf rfl (Zx n)) rfl (Tc rfl rfl rfl (Zi rfl (Zi rfl args_nil)) (law57_equal_sim cf b9 (cl.mono (Zt a2 a3)) cm).r ?_)
  rintro _ d7 ⟨bp, aC, bd, rfl⟩
  refine WL_run rfl (Zf rfl (Zx n)) rfl (Exec.not rfl rfl ?_)
  refine WL_passes 2 (by rw [n]; rfl) ?_
  rcases ite_some b with ⟨o, b⟩ | ⟨o, b⟩
  ·refine WL_passes 6 (by rw [o]; rfl) ?_
   refine Zb (Ze ?_)
   have cM := Zu b
   subst af
   exact ⟨bp, (Zt (Zt a2 a3) aC), (bd).drop, ae, rfl, rfl⟩
  replace o := Zk o
  refine WL_run rfl (Zf rfl (Zx o)) rfl (Zm (v := i) rfl rfl (WL_run rfl (Zf rfl (Zx o)) rfl (Zr S27 rfl rfl (ak.mono (Zt (Zt (Zt (Zt d p) a2) a3) aC)) (WL_run rfl (Zf rfl (Zx o)) rfl (Zm (v := ab) rfl ae (WL_run rfl (Zf rfl (Zx o)) rfl (Zr S27 rfl rfl (aw.mono (Zt (Zt (Zt (Zt (Zt (Zt (Zt a c) g) d) p) a2) a3) aC)) (WL_run rfl (Zf rfl (Zx o)) rfl (Exec.neq rfl rfl rfl (Za rfl rfl (Exec.pick_f (v := Value.bool (!decide ((c8.length : Int) = (aV.length : Int)))) rfl (Zx o) rfl (Zb (Ze ?_)))))))))))))
  have cN := Zu b
  subst af
  exact ⟨bp, (Zt (Zt a2 a3) aC), (bd).drop, ae, rfl, rfl⟩
 intro da d8 b2
 obtain ⟨ct, aj, be, bP, bQ, bj⟩ := b2
 refine (Ze ?_)
 rcases ite_some hm with ⟨a0, hm⟩ | ⟨a0, hm⟩
 ·refine W_cond_t bj a0 (Zc (Zd (Za rfl rfl (Zo (v := Value.bool (false)) rfl rfl (Zb (Ze (W_ret (at_ret ?_))))))))
  have cO := Zu hm
  subst r
  refine ⟨_, ret1 rfl, ?_⟩
  exact ⟨ct, (Zt (Zt (Zt (Zt (Zt a c) g) d) p) aj), be, rfl⟩
 refine W_cond_f bj a0 ?_
 replace a0 := Zk a0
 refine W_skip (Ze (Zc (Zc (Zd (Za rfl rfl (Zm (v := ab) rfl bP ?_))))))
 obtain ⟨ao, cg, hm⟩ := Zg hm
 refine Za rfl rfl (Tc rfl rfl rfl (Zi rfl args_nil) (ref56_Sorted_sim cg be (aw.mono (Zt (Zt (Zt (Zt (Zt a c) g) d) p) aj))).r ?_)
 rintro am d9 ⟨aX, _, a4, aT, rfl⟩
 refine Za rfl rfl (Exec.len_arr (aT) S27 rfl rfl (Za rfl rfl (Zm (v := Vi (0)) rfl rfl (Zb (Ze ?_)))))
 obtain ⟨aZ, bx, bI, bG, bE⟩ := ctl_some hm
 refine W_mid (M := fun f' w' => ∃ s', (aZ = .next s' ∨ aZ = .brk s') ∧ (fun (_ : Unit) => ∃ (bq : PHeap) , PHeap.le aX bq ∧ St w0 bq (Res.arr encLaunch 39 am ao :: H) w' ∧ f' 7 = i ∧ f' 77 = am ∧ f' 78 = Vi ((ao.length : Int))) s') ?_ ?_
 ·refine W_block (W_forC (fun k' s' f' w' => (fun (_ : Unit) => ∃ (br : PHeap) , PHeap.le aX br ∧ St w0 br (Res.arr encLaunch 39 am ao :: H) w' ∧ f' 7 = i ∧ f' 77 = am ∧ f' 78 = Vi ((ao.length : Int)) ∧ f' 79 = Vi (k' : Int)) s') bx ?_ ?_ ?_)
  ·exact ⟨aX, (Zv _), aT, bQ, rfl, rfl, rfl⟩
  ·intro ah dr ba db dA bF bz t bJ
   obtain ⟨aI, a5, aU, al, aE, aF, an⟩ := bz
   refine Zc (Zd (Za rfl rfl (Zq rfl an aF (Zb (Ze (Zc (W_true (Zx (decide_eq_true (by omega))) (W_skip (Ze (Zc (W_block (Zc (Zd (Za rfl rfl (Zm (v := Vi ((ah : Int))) rfl an ?_)))))))))))))))
   obtain ⟨a7, aG, t⟩ := Zg t
   obtain ⟨df, cD, bb⟩ := (aU).arr_at aG
   refine Za rfl rfl (Exec.index_slice S27 rfl (Eq.trans aE bb) an (idx_some aG).1 (idx_some aG).2.1 (Za rfl rfl (Exec.load_arr (F := encLaunch) (aU) bb A39 rfl rfl rfl aG (Sub.refl _) ?_)))
   intro dw ch
   obtain rfl := encLaunch_val.1 ch
   refine Za rfl rfl (Exec.alloc (cs := [Vi (0), Vi (0)]) aU Z39 rfl rfl ?_)
   intro c9 dB bA
   refine Za rfl rfl (Zo (v := Vi ((ah : Int))) rfl rfl (Za rfl rfl (Exec.store_box (ds := [Vi (a7.At), Vi (a7.Job)]) (es := [Vi (a7.At), Vi (a7.Job)]) bA A39 rfl rfl rfl rfl (Zj rfl (Zj rfl one_nil)) (Nat.le_of_ble_eq_true rfl) rfl ?_)))
   intro dC bB
   refine Zb (Ze (Zc ?_))
   obtain ⟨ap, m, t⟩ := Zg t
   refine W_mid (M := fun f' w' => (fun (ap : Bool) => ∃ (bs : PHeap) , PHeap.le aI bs ∧ St w0 bs (Res.arr encLaunch 39 am ao :: H) w' ∧ f' 7 = i ∧ f' 77 = am ∧ f' 78 = Vi ((ao.length : Int)) ∧ f' 79 = Vi ((ah : Int)) ∧ f' 109 = Value.bool (ap)) ap) ?_ ?_
   ·refine W_dl (n0 := 26) (qs 0 26 .done) hmix (by kernel_rfl) (by kernel_rfl) ?_
    have ac := bB.drew
    refine DL_q rfl rfl (Zm (v := i) rfl al ⟨rfl, ?_⟩)
    refine DL_q rfl rfl (Zm (v := Vi ((ah : Int))) rfl rfl ⟨rfl, ?_⟩)
    obtain ⟨a8, aW, m⟩ := Zg m
    refine DL_q rfl rfl (Exec.index_repE S27 rfl rfl rfl (ak.mono (Zt (Zt (Zt (Zt d p) aj) a4) a5)) aW ?_)
    intro cA dg bu cP
    refine ⟨rfl, ?_⟩
    refine DL_q rfl rfl (Zp F39_1 rfl rfl rfl ⟨rfl, ?_⟩)
    refine DL_q rfl rfl (Zw (E := (encInt .i64)) ac A3 rfl rfl rfl (bu.sub (Sub.iso (Sub.snd (Sub.refl _) rfl)) rfl) ?_)
    intro c0 ci
    obtain rfl : c0 = Vi (a8.Job) := encInt_val.1 ci
    refine ⟨rfl, ?_⟩
    refine DL_q rfl rfl (Zp F39_1 rfl rfl rfl ⟨rfl, ?_⟩)
    refine DL_q rfl rfl (Zn (ac) A3 rfl rfl rfl ⟨rfl, ?_⟩)
    refine DL_q rfl rfl (Exec.neq rfl rfl rfl ⟨rfl, ?_⟩)
    refine DL_q rfl rfl (Zm (v := Value.bool (!decide (a8.Job = a7.Job))) rfl rfl ⟨rfl, ?_⟩)
    rcases ite_some m with ⟨j, m⟩ | ⟨j, m⟩
    ·refine DL_passes 17 (by rw [j]; rfl) ?_
     refine DL_done (Zb (Ze ?_))
     have cQ := Zu m
     subst ap
     exact ⟨aI, (Zv _), (ac).drop, al, aE, aF, an, rfl⟩
    replace j := Zk j
    refine DL_qg rfl rfl (Zf rfl (Zx j)) (Zm (v := i) rfl al ⟨rfl, ?_⟩)
    refine DL_qg rfl rfl (Zf rfl (Zx j)) (Zm (v := Vi ((ah : Int))) rfl rfl ⟨rfl, ?_⟩)
    refine DL_qg rfl rfl (Zf rfl (Zx j)) (Exec.index_repE S27 rfl rfl rfl (ak.mono (Zt (Zt (Zt (Zt d p) aj) a4) a5)) aW ?_)
    intro cB dh bv cR
    refine ⟨rfl, ?_⟩
    refine DL_qg rfl rfl (Zf rfl (Zx j)) (Zp F39_0 rfl rfl rfl ⟨rfl, ?_⟩)
    refine DL_qg rfl rfl (Zf rfl (Zx j)) (Zw (E := (encInt .i64)) ac A3 rfl rfl rfl (bv.sub (Sub.iso (Sub.fst (Sub.refl _))) rfl) ?_)
    intro c1 cj
    obtain rfl : c1 = Vi (a8.At) := encInt_val.1 cj
    refine ⟨rfl, ?_⟩
    refine DL_qg rfl rfl (Zf rfl (Zx j)) (Zp F39_0 rfl rfl rfl ⟨rfl, ?_⟩)
    refine DL_qg rfl rfl (Zf rfl (Zx j)) (Zn (ac) A3 rfl rfl rfl ⟨rfl, ?_⟩)
    refine DL_qg rfl rfl (Zf rfl (Zx j)) (Exec.gtr rfl rfl rfl ⟨rfl, ?_⟩)
    refine DL_passes 2 (by rw [j]; rfl) ?_
    rcases ite_some m with ⟨l, m⟩ | ⟨l, m⟩
    ·refine DL_passes 7 (by rw [l]; rfl) ?_
     refine DL_done (Zb (Ze ?_))
     have cS := Zu m
     subst ap
     exact ⟨aI, (Zv _), (ac).drop, al, aE, aF, an, rfl⟩
    replace l := Zk l
    refine DL_qg rfl rfl (Zf rfl (Zx l)) (Zm (v := i) rfl al ⟨rfl, ?_⟩)
    refine DL_qg rfl rfl (Zf rfl (Zx l)) (Zm (v := Vi ((ah : Int))) rfl rfl ⟨rfl, ?_⟩)
    refine DL_qg rfl rfl (Zf rfl (Zx l)) (Exec.index_repE S27 rfl rfl rfl (ak.mono (Zt (Zt (Zt (Zt d p) aj) a4) a5)) aW ?_)
    intro cC di bw cT
    refine ⟨rfl, ?_⟩
    refine DL_qg rfl rfl (Zf rfl (Zx l)) (Zp F39_0 rfl rfl rfl ⟨rfl, ?_⟩)
    refine DL_qg rfl rfl (Zf rfl (Zx l)) (Zw (E := (encInt .i64)) ac A3 rfl rfl rfl (bw.sub (Sub.iso (Sub.fst (Sub.refl _))) rfl) ?_)
    intro c2 ck
    obtain rfl : c2 = Vi (a8.At) := encInt_val.1 ck
    refine ⟨rfl, ?_⟩
    refine DL_qg rfl rfl (Zf rfl (Zx l)) (Zq rfl rfl rfl ⟨rfl, ?_⟩)
    refine DL_q rfl rfl (Exec.pick_f (v := Value.bool (decide (a8.At < 0))) rfl (Zx l) rfl ⟨rfl, ?_⟩)
    refine DL_done (Zb (Ze ?_))
    have cU := Zu m
    subst ap
    exact ⟨aI, (Zv _), (ac).drop, al, aE, aF, an, rfl⟩
   intro dc dD b3
   obtain ⟨bt, bh, bf, bR, bS, bT, bU, bk⟩ := b3
   refine (Ze ?_)
   rcases ite_some t with ⟨a1, t⟩ | ⟨a1, t⟩
   ·refine W_cond_t bk a1 (Zc (Zd (Za rfl rfl (Zo (v := Value.bool (false)) rfl rfl (Zb (Ze (W_ret (ib_ret (at_ret (at_ret (ib_ret (at_ret (at_ret ?_)))))))))))))
    have cV := Zu t
    subst ba
    have bH := bI _ (bJ (by intro _ h; cases h))
    have cW := Zu bH
    subst r
    refine ⟨_, ret1 rfl, ?_⟩
    exact ⟨bt, (Zt (Zt (Zt (Zt (Zt (Zt (Zt (Zt a c) g) d) p) aj) a4) a5) bh), (bf).drop, rfl⟩
   refine W_cond_f bk a1 ?_
   replace a1 := Zk a1
   refine W_skip (ib_normal (Ze (Zd (Za rfl rfl (Exec.add rfl bU rfl (Za rfl rfl (Zm (v := Vi (IntKind.i64.wrap ((ah : Int) + 1))) rfl rfl (Zb (Ze ?_)))))))))
   have cX := Zu t
   subst ba
   refine ⟨_, rfl, ?_⟩; exact ⟨bt, (Zt a5 bh), bf, bR, bS, bT, (Eq.trans rfl (wrap_up bF (aT).arr_le))⟩
  intro dt dd dE b0 bK
  obtain ⟨cu, bN, bC, bV, bW, bl, c3⟩ := b0
  refine Zc (Zd (Za rfl rfl (Zq rfl c3 bl (Zb (Ze (Zc (W_false (Zx (decide_eq_false (by omega))) (W_exit (at_exit (at_exit (ib_here (Ze ?_))))))))))))
  refine ⟨_, .inl bK, ?_⟩; exact ⟨cu, bN, bC, bV, bW, bl⟩
 rintro de dF ⟨du, bg, b4⟩
 have hm := bg.elim (bG _) (bE _)
 clear bg
 obtain ⟨cv, bO, bD, dj, dk, dl⟩ := b4
 refine (Ze (Zc (Zd (Za rfl rfl (Zo (v := Value.bool (true)) rfl rfl (Zb (Ze (W_ret ?_))))))))
 have cY := Zu hm
 subst r
 refine ⟨_, ret1 rfl, ?_⟩
 exact ⟨cv, (Zt (Zt (Zt (Zt (Zt (Zt (Zt a c) g) d) p) aj) a4) bO), (bD).drop, rfl⟩
end Go.Pw
