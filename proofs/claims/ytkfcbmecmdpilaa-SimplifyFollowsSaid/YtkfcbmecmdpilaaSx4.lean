/-
  The walks (printed by my generator).
-/
import Derived.Test.YtkfcbmecmdpilaaL29
import Derived.Test.YtkfcbmecmdpilaaL27
import Derived.Test.YtkfcbmecmdpilaaSx3
set_option maxRecDepth 100000
set_option maxHeartbeats 4000000
set_option linter.unusedVariables false
namespace Go.Pw
open Go.Proofs
theorem ref18_In_sim {w0 w : World} {s : PHeap} {H : List Res} {z : (List Int)} {j : Int} {c : Value} {r : Bool} (hm : ref18_In_p z j = some r) (hS : St w0 s (H) w) (q : SliceRep (encInt .i64) s c z) :
  Calls Try.prog 40 #[c, Vi (j)] w fun e w' => ∃ v, e = .returned v ∧ ((fun (aq : Bool) => ∃ (aa : PHeap) , PHeap.le s aa ∧ St w0 aa (H) w' ∧ v = Value.bool (aq)) r) := by
 unfold ref18_In_p at hm
 refine calls_of_W Try.func40 rfl rfl (Zc (Zd (Za rfl rfl (Zo (v := Value.bool (false)) rfl rfl (Zb (Ze (Zc (Zc (Zd (Za rfl rfl (Zo (v := Vi (0)) rfl rfl (Zb (Ze ?_)))))))))))))
 obtain ⟨t, ae, al, aj, ai⟩ := ctl_some hm
 refine W_mid (M := fun f' w' => ∃ s', (t = .next s' ∨ t = .brk s') ∧ (fun (y : Int) => ∃ (ab : PHeap) , PHeap.le s ab ∧ St w0 ab (H) w' ∧ f' 0 = c ∧ f' 1 = Vi (j) ∧ f' 5 = Vi (y)) s') ?_ ?_
 ·refine W_block (W_while (fun s' f' w' => (fun (b : Int) => ∃ (ac : PHeap) , PHeap.le s ac ∧ St w0 ac (H) w' ∧ f' 0 = c ∧ f' 1 = Vi (j) ∧ f' 5 = Vi (b)) s') ae ?_ ?_)
  ·exact ⟨s, (Zv _), hS, rfl, rfl, rfl⟩
  intro b n az a6 af a x
  obtain ⟨p, i, k, l, o, m⟩ := af
  refine Zc (Zc (Zd (Za rfl rfl (Zm (v := Vi (b)) rfl m (Za rfl rfl (Zm (v := c) rfl l (Za rfl rfl (Zr S24 rfl rfl (q.mono i) (Za rfl rfl (Zq rfl rfl rfl (Zb (Ze ?_))))))))))))
  rcases ite_some a with ⟨d, a⟩ | ⟨d, a⟩
  ·refine W_cond_t rfl d (W_skip (Ze (Zc (W_block (Zc (Zd (Za rfl rfl (Zm (v := c) rfl l (Za rfl rfl (Zm (v := Vi (b)) rfl m ?_))))))))))
   obtain ⟨a8, an, a⟩ := Zg a
   refine Za rfl rfl (Exec.index_rep S24 rfl rfl rfl (q.mono i) an ?_)
   intro ar a1 ad
   refine Za rfl rfl (Zw (E := (encInt .i64)) k A3 rfl rfl rfl ad ?_)
   intro a5 ao
   obtain rfl := encInt_val.1 ao
   refine Za rfl rfl (Zm (v := Vi (j)) rfl o (Za rfl rfl (Exec.eql rfl rfl rfl (Zb (Ze ?_)))))
   rcases ite_some a with ⟨g, a⟩ | ⟨g, a⟩
   ·refine W_cond_t rfl g (Zc (Zd (Za rfl rfl (Zo (v := Value.bool (true)) rfl rfl (Zb (Ze (W_ret (ib_ret (at_ret (at_ret (ib_ret (at_ret (at_ret ?_)))))))))))))
    have au := Zu a
    subst n
    have ak := al _ (x (by intro _ h; cases h))
    have av := Zu ak
    subst r
    refine ⟨_, ret1 rfl, ?_⟩
    exact ⟨p, i, k, rfl⟩
   refine W_cond_f rfl g ?_
   replace g := Zk g
   refine W_skip (ib_normal (Ze (Zd (Za rfl rfl (Zm (v := Vi (b)) rfl m (Za rfl rfl (Exec.add rfl rfl rfl (Za rfl rfl (Zo (v := Vi (IntKind.i64.wrap (b + 1))) rfl rfl (Zb (Ze ?_)))))))))))
   have aw := Zu a
   subst n
   refine ⟨_, rfl, ?_⟩; exact ⟨p, i, k, l, o, rfl⟩
  refine W_cond_f rfl d ?_
  replace d := Zk d
  refine W_exit (at_exit (at_exit (ib_here (Ze ?_))))
  have ax := Zu a
  subst n
  refine ⟨_, .inr (x (by intro _ h; cases h)), ?_⟩; exact ⟨p, i, k, l, o, m⟩
 rintro a0 a7 ⟨y, u, ag⟩
 have hm := u.elim (aj _) (ai _)
 clear u
 obtain ⟨ap, am, ah, a2, a3, a4⟩ := ag
 refine (Ze (Zc (Zd (Za rfl rfl (Zo (v := Value.bool (false)) rfl rfl (Zb (Ze (W_ret ?_))))))))
 have ay := Zu hm
 subst r
 refine ⟨_, ret1 rfl, ?_⟩
 exact ⟨ap, am, ah, rfl⟩
theorem ref18_ints_sim {w0 w : World} {s : PHeap} {H : List Res} {u : (List Int)} {y : (List Int)} {c : Value} {g : Value} {r : Bool} (hm : ref18_ints_p u y = some r) (hS : St w0 s (H) w) (o : SliceRep (encInt .i64) s c u) (x : SliceRep (encInt .i64) s g y) :
  Calls Try.prog 47 #[c, g] w fun e w' => ∃ v, e = .returned v ∧ ((fun (ay : Bool) => ∃ (ad : PHeap) , PHeap.le s ad ∧ St w0 ad (H) w' ∧ v = Value.bool (ay)) r) := by
 unfold ref18_ints_p at hm
 refine calls_of_W Try.func47 rfl rfl (Zc (Zd (Za rfl rfl (Zo (v := Value.bool (false)) rfl rfl (Zb (Ze (Zc (Zc (Zd (Za rfl rfl (Zm (v := c) rfl rfl (Za rfl rfl (Zr S24 rfl rfl o (Za rfl rfl (Zm (v := g) rfl rfl (Za rfl rfl (Zr S24 rfl rfl x (Za rfl rfl (Exec.neq rfl rfl rfl (Zb (Ze ?_)))))))))))))))))))))
 rcases ite_some hm with ⟨j, hm⟩ | ⟨j, hm⟩
 ·refine W_cond_t rfl j (Zc (Zd (Za rfl rfl (Zo (v := Value.bool (false)) rfl rfl (Zb (Ze (W_ret (at_ret ?_))))))))
  have a1 := Zu hm
  subst r
  refine ⟨_, ret1 rfl, ?_⟩
  exact ⟨s, (Zv _), hS, rfl⟩
 refine W_cond_f rfl j ?_
 replace j := Zk j
 refine W_skip (Ze (Zc (Zc (Zd (Za rfl rfl (Zo (v := Vi (0)) rfl rfl (Zb (Ze ?_))))))))
 obtain ⟨z, ai, ap, an, am⟩ := ctl_some hm
 refine W_mid (M := fun f' w' => ∃ s', (z = .next s' ∨ z = .brk s') ∧ (fun (ac : Int) => ∃ (ae : PHeap) , PHeap.le s ae ∧ St w0 ae (H) w' ∧ f' 0 = c ∧ f' 1 = g ∧ f' 5 = Vi (ac)) s') ?_ ?_
 ·refine W_block (W_while (fun s' f' w' => (fun (b : Int) => ∃ (af : PHeap) , PHeap.le s af ∧ St w0 af (H) w' ∧ f' 0 = c ∧ f' 1 = g ∧ f' 5 = Vi (b)) s') ai ?_ ?_)
  ·exact ⟨s, (Zv _), hS, rfl, rfl, rfl⟩
  intro b p a9 aI aj a ab
  obtain ⟨t, d, i, n, q, m⟩ := aj
  refine Zc (Zc (Zd (Za rfl rfl (Zm (v := Vi (b)) rfl m (Za rfl rfl (Zm (v := c) rfl n (Za rfl rfl (Zr S24 rfl rfl (o.mono d) (Za rfl rfl (Zq rfl rfl rfl (Zb (Ze ?_))))))))))))
  rcases ite_some a with ⟨k, a⟩ | ⟨k, a⟩
  ·refine W_cond_t rfl k (W_skip (Ze (Zc (W_block (Zc (W_dl (n0 := 9) (qs 0 9 .done) hmix (by kernel_rfl) (by kernel_rfl) (DL_q rfl rfl (Zm (v := c) rfl n ⟨rfl, ?_⟩))))))))
   refine DL_q rfl rfl (Zm (v := Vi (b)) rfl m ⟨rfl, ?_⟩)
   obtain ⟨aK, ar, a⟩ := Zg a
   refine DL_q rfl rfl (Exec.index_repE S24 rfl rfl rfl (o.mono d) ar ?_)
   intro az aB ag a2
   refine ⟨rfl, ?_⟩
   refine DL_q rfl rfl (Zw (E := (encInt .i64)) i.drew A3 rfl rfl rfl ag ?_)
   intro aG au
   obtain rfl := encInt_val.1 au
   refine ⟨rfl, ?_⟩
   refine DL_q rfl rfl (Zm (v := g) rfl q ⟨rfl, ?_⟩)
   refine DL_q rfl rfl (Zm (v := Vi (b)) rfl m ⟨rfl, ?_⟩)
   obtain ⟨aL, av, a⟩ := Zg a
   refine DL_q rfl rfl (Exec.index_repE S24 rfl rfl rfl (x.mono d) av ?_)
   intro a0 aC ah a3
   refine ⟨rfl, ?_⟩
   refine DL_q rfl rfl (Zw (E := (encInt .i64)) i.drew A3 rfl rfl rfl ah ?_)
   intro aH aw
   obtain rfl := encInt_val.1 aw
   refine ⟨rfl, ?_⟩
   refine DL_q rfl rfl (Exec.neq rfl rfl rfl ⟨rfl, ?_⟩)
   refine DL_done (Zb (Ze ?_))
   rcases ite_some a with ⟨l, a⟩ | ⟨l, a⟩
   ·refine W_cond_t rfl l (Zc (Zd (Za rfl rfl (Zo (v := Value.bool (false)) rfl rfl (Zb (Ze (W_ret (ib_ret (at_ret (at_ret (ib_ret (at_ret (at_ret ?_)))))))))))))
    have a4 := Zu a
    subst p
    have ao := ap _ (ab (by intro _ h; cases h))
    have a5 := Zu ao
    subst r
    refine ⟨_, ret1 rfl, ?_⟩
    exact ⟨t, d, i.drew, rfl⟩
   refine W_cond_f rfl l ?_
   replace l := Zk l
   refine W_skip (ib_normal (Ze (Zd (Za rfl rfl (Zm (v := Vi (b)) rfl m (Za rfl rfl (Exec.add rfl rfl rfl (Za rfl rfl (Zo (v := Vi (IntKind.i64.wrap (b + 1))) rfl rfl (Zb (Ze ?_)))))))))))
   have a6 := Zu a
   subst p
   refine ⟨_, rfl, ?_⟩; exact ⟨t, d, i.drew, n, q, rfl⟩
  refine W_cond_f rfl k ?_
  replace k := Zk k
  refine W_exit (at_exit (at_exit (ib_here (Ze ?_))))
  have a7 := Zu a
  subst p
  refine ⟨_, .inr (ab (by intro _ h; cases h)), ?_⟩; exact ⟨t, d, i, n, q, m⟩
 rintro aA aJ ⟨ac, aa, ak⟩
 have hm := aa.elim (an _) (am _)
 clear aa
 obtain ⟨ax, aq, al, aD, aE, aF⟩ := ak
 refine (Ze (Zc (Zd (Za rfl rfl (Zo (v := Value.bool (true)) rfl rfl (Zb (Ze (W_ret ?_))))))))
 have a8 := Zu hm
 subst r
 refine ⟨_, ret1 rfl, ?_⟩
 exact ⟨ax, aq, al, rfl⟩
end Go.Pw
