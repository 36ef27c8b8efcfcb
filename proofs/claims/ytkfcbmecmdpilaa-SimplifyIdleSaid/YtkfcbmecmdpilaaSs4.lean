/-
  The walks (printed by my generator).
-/
import Derived.Test.YtkfcbmecmdpilaaL29
import Derived.Test.YtkfcbmecmdpilaaL27
import Derived.Test.YtkfcbmecmdpilaaSs3
set_option maxRecDepth 100000
set_option maxHeartbeats 4000000
set_option linter.unusedVariables false
namespace Go.Pw
open Go.Proofs
theorem ref18_ints_sim {w0 w : World} {s : PHeap} {H : List Res} {u : (List Int)} {y : (List Int)} {c : Value} {g : Value} {r : Bool} (hm : ref18_ints_p u y = some r) (hS : St w0 s (H) w) (o : SliceRep (encInt .i64) s c u) (x : SliceRep (encInt .i64) s g y) :
  Calls Try.prog 47 #[c, g] w fun e w' => ∃ v, e = .returned v ∧ ((fun (ay : Bool) => ∃ (ad : PHeap) , PHeap.le s ad ∧ St w0 ad (H) w' ∧ v = Value.bool (ay)) r) := by
 unfold ref18_ints_p at hm
 refine calls_of_W Try.func47 rfl rfl (Zc (Zd (Za rfl rfl (Zo (v := Value.bool (false)) rfl rfl (Zb (Ze (Zc (Zc (Zd (Za rfl rfl (Zm (v := c) rfl rfl (Za rfl rfl (Zr S24 rfl rfl o (Za rfl rfl (Zm (v := g) rfl rfl (Za rfl rfl (Zr S24 rfl rfl x (Za rfl rfl (Exec.neq rfl rfl rfl (Zb (Ze ?_)))))))))))))))))))))
 rcases ite_some hm with ⟨j, hm⟩ | ⟨j, hm⟩
 ·refine W_cond_t rfl j (Zc (Zd (Za rfl rfl (Zo (v := Value.bool (false)) rfl rfl (Zb (Ze (W_ret (at_ret ?_))))))))
  have a1 := Zu hm
  subst r
  refine ⟨_, ret1 rfl, ?_⟩
  exact ⟨s, (Zv _), hS, rfl⟩
 refine W_cond_f rfl j ?_
 replace j := Zk j
 refine W_skip (Ze (Zc (Zc (Zd (Za rfl rfl (Zo (v := Vi (0)) rfl rfl (Zb (Ze ?_))))))))
 obtain ⟨z, ai, ap, an, am⟩ := ctl_some hm
 refine W_mid (M := fun f' w' => ∃ s', (z = .next s' ∨ z = .brk s') ∧ (fun (ac : Int) => ∃ (ae : PHeap) , PHeap.le s ae ∧ St w0 ae (H) w' ∧ f' 0 = c ∧ f' 1 = g ∧ f' 5 = Vi (ac)) s') ?_ ?_
 ·refine W_block (W_while (fun s' f' w' => (fun (b : Int) => ∃ (af : PHeap) , PHeap.le s af ∧ St w0 af (H) w' ∧ f' 0 = c ∧ f' 1 = g ∧ f' 5 = Vi (b)) s') ai ?_ ?_)
  ·exact ⟨s, (Zv _), hS, rfl, rfl, rfl⟩
  intro b p a9 aI aj a ab
  obtain ⟨t, d, i, n, q, m⟩ := aj
  refine Zc (Zc (Zd (Za rfl rfl (Zm (v := Vi (b)) rfl m (Za rfl rfl (Zm (v := c) rfl n (Za rfl rfl (Zr S24 rfl rfl (o.mono d) (Za rfl rfl (Zq rfl rfl rfl (Zb (Ze ?_))))))))))))
  rcases ite_some a with ⟨k, a⟩ | ⟨k, a⟩
  ·refine W_cond_t rfl k (W_skip (Ze (Zc (W_block (Zc (W_dl (n0 := 9) (qs 0 9 .done) hmix (by kernel_rfl) (by kernel_rfl) (DL_q rfl rfl (Zm (v := c) rfl n ⟨rfl, ?_⟩))))))))
   refine DL_q rfl rfl (Zm (v := Vi (b)) rfl m ⟨rfl, ?_⟩)
   obtain ⟨aK, ar, a⟩ := Zg a
   refine DL_q rfl rfl (Exec.index_repE S24 rfl rfl rfl (o.mono d) ar ?_)
   intro az aB ag a2
   refine ⟨rfl, ?_⟩
   refine DL_q rfl rfl (Zw (E := (encInt .i64)) i.drew A3 rfl rfl rfl ag ?_)
   intro aG au
   obtain rfl := encInt_val.1 au
   refine ⟨rfl, ?_⟩
   refine DL_q rfl rfl (Zm (v := g) rfl q ⟨rfl, ?_⟩)
   refine DL_q rfl rfl (Zm (v := Vi (b)) rfl m ⟨rfl, ?_⟩)
   obtain ⟨aL, av, a⟩ := Zg a
   refine DL_q rfl rfl (Exec.index_repE S24 rfl rfl rfl (x.mono d) av ?_)
   intro a0 aC ah a3
   refine ⟨rfl, ?_⟩
   refine DL_q rfl rfl (Zw (E := (encInt .i64)) i.drew A3 rfl rfl rfl ah ?_)
   intro aH aw
   obtain rfl := encInt_val.1 aw
   refine ⟨rfl, ?_⟩
   refine DL_q rfl rfl (Exec.neq rfl rfl rfl ⟨rfl, ?_⟩)
   refine DL_done (Zb (Ze ?_))
   rcases ite_some a with ⟨l, a⟩ | ⟨l, a⟩
   ·refine W_cond_t rfl l (Zc (Zd (Za rfl rfl (Zo (v := Value.bool (false)) rfl rfl (Zb (Ze (W_ret (ib_ret (at_ret (at_ret (ib_ret (at_ret (at_ret ?_)))))))))))))
    have a4 := Zu a
    subst p
    have ao := ap _ (ab (by intro _ h; cases h))
    have a5 := Zu ao
    subst r
    refine ⟨_, ret1 rfl, ?_⟩
    exact ⟨t, d, i.drew, rfl⟩
   refine W_cond_f rfl l ?_
   replace l := Zk l
   refine W_skip (ib_normal (Ze (Zd (Za rfl rfl (Zm (v := Vi (b)) rfl m (Za rfl rfl (Exec.add rfl rfl rfl (Za rfl rfl (Zo (v := Vi (IntKind.i64.wrap (b + 1))) rfl rfl (Zb (Ze ?_)))))))))))
   have a6 := Zu a
   subst p
   refine ⟨_, rfl, ?_⟩; exact ⟨t, d, i.drew, n, q, rfl⟩
  refine W_cond_f rfl k ?_
  replace k := Zk k
  refine W_exit (at_exit (at_exit (ib_here (Ze ?_))))
  have a7 := Zu a
  subst p
  refine ⟨_, .inr (ab (by intro _ h; cases h)), ?_⟩; exact ⟨t, d, i, n, q, m⟩
 rintro aA aJ ⟨ac, aa, ak⟩
 have hm := aa.elim (an _) (am _)
 clear aa
 obtain ⟨ax, aq, al, aD, aE, aF⟩ := ak
 refine (Ze (Zc (Zd (Za rfl rfl (Zo (v := Value.bool (true)) rfl rfl (Zb (Ze (W_ret ?_))))))))
 have a8 := Zu hm
 subst r
 refine ⟨_, ret1 rfl, ?_⟩
 exact ⟨ax, aq, al, rfl⟩
theorem ref18_sameExpr_step {fu : Nat} (ih : ∀ {w0 w : World} {s : PHeap} {H : List Res} {a : GExpr} {b : GExpr} {j : Value} {k : Value} {r : Bool} (hm : ref18_sameExpr_p fu a b = some r) (hS : St w0 s (H) w) (ab : SliceRep encGExpr s j a.Kids) (ae : SliceRep encGExpr s k b.Kids), Calls Try.prog 86 #[Value.agg #[Value.string (a.Op), Vi (a.N), j], Value.agg #[Value.string (b.Op), Vi (b.N), k]] w fun e w' => ∃ v, e = .returned v ∧ ((fun (ah : Bool) => ∃ (aa : PHeap) , PHeap.le s aa ∧ St w0 aa (H) w' ∧ v = Value.bool (ah)) r)) {w0 w : World} {s : PHeap} {H : List Res} {a : GExpr} {b : GExpr} {j : Value} {k : Value} {r : Bool} (hm : ref18_sameExpr_p (fu + 1) a b = some r) (hS : St w0 s (H) w) (ab : SliceRep encGExpr s j a.Kids) (ae : SliceRep encGExpr s k b.Kids) :
  Calls Try.prog 86 #[Value.agg #[Value.string (a.Op), Vi (a.N), j], Value.agg #[Value.string (b.Op), Vi (b.N), k]] w fun e w' => ∃ v, e = .returned v ∧ ((fun (ah : Bool) => ∃ (aa : PHeap) , PHeap.le s aa ∧ St w0 aa (H) w' ∧ v = Value.bool (ah)) r) := by
 rw [ref18_sameExpr_p] at hm
 refine calls_of_W Try.func86 rfl rfl (Zc (Zd (Za rfl rfl (Exec.box (cs := [Value.string (a.Op), Vi (a.N), j]) hS rfl rfl rfl ?_))))
 intro n bh a2
 refine Za rfl rfl (Exec.box (cs := [Value.string (b.Op), Vi (b.N), k]) a2 rfl rfl rfl ?_)
 intro o bi i
 refine Za rfl rfl (Zo (v := Value.bool (false)) rfl rfl (Zb (Ze (Zc (Zc (W_mid (M := fun f' w' => ∃ (aq : PHeap) , PHeap.le s aq ∧ St w0 aq (Res.box n 82 [Value.string (a.Op), Vi (a.N), j] :: Res.box o 82 [Value.string (b.Op), Vi (b.N), k] :: H) w' ∧ f' 2 = Value.pointer (some ⟨n, 0, none⟩) ∧ f' 3 = Value.pointer (some ⟨o, 0, none⟩) ∧ f' 26 = Value.bool (((!decide (a.Op = b.Op)) || ((!decide (a.N = b.N)) || !decide ((a.Kids.length : Int) = (b.Kids.length : Int)))))) ?_ ?_))))))
 ·refine Zd (Za rfl rfl (Zp F82_0 rfl rfl rfl (Za rfl rfl (Zn ((i).f1) A9 rfl rfl rfl (Za rfl rfl (Zp F82_0 rfl rfl rfl (Za rfl rfl (Zn (i) A9 rfl rfl rfl (Za rfl rfl (Exec.str_neq rfl rfl rfl (Za rfl rfl (Zm (v := Value.bool (!decide (a.Op = b.Op))) rfl rfl ?_))))))))))))
  by_cases g : (!decide (a.Op = b.Op)) = true
  ·refine WL_passes 15 (by rw [g]; rfl) ?_
   refine Zb (Ze ?_)
   exact ⟨s, (Zv _), (i).f1, rfl, rfl, (Zx (or_t g)).symm⟩
  replace g := Zk g
  refine WL_run rfl (Zf rfl (Zx g)) rfl (Zp F82_1 rfl rfl rfl (WL_run rfl (Zf rfl (Zx g)) rfl (Zn ((i).f1) A3 rfl rfl rfl (WL_run rfl (Zf rfl (Zx g)) rfl (Zp F82_1 rfl rfl rfl (WL_run rfl (Zf rfl (Zx g)) rfl (Zn (i) A3 rfl rfl rfl (WL_run rfl (Zf rfl (Zx g)) rfl (Exec.neq rfl rfl rfl ?_)))))))))
  refine WL_passes 2 (by rw [g]; rfl) ?_
  by_cases d : (!decide (a.N = b.N)) = true
  ·refine WL_passes 8 (by rw [d]; rfl) ?_
   refine Zb (Ze ?_)
   exact ⟨s, (Zv _), (i).f1, rfl, rfl, (Zx (Eq.trans (or_f g) (or_t d))).symm⟩
  replace d := Zk d
  refine WL_run rfl (Zf rfl (Zx d)) rfl (Zp F82_2 rfl rfl rfl (WL_run rfl (Zf rfl (Zx d)) rfl (Zn ((i).f1) A80 rfl rfl rfl (WL_run rfl (Zf rfl (Zx d)) rfl (Zr S80 rfl rfl ab (WL_run rfl (Zf rfl (Zx d)) rfl (Zp F82_2 rfl rfl rfl (WL_run rfl (Zf rfl (Zx d)) rfl (Zn (i) A80 rfl rfl rfl (WL_run rfl (Zf rfl (Zx d)) rfl (Zr S80 rfl rfl ae (WL_run rfl (Zf rfl (Zx d)) rfl (Exec.neq rfl rfl rfl (Za rfl rfl (Exec.pick_f (v := Value.bool (!decide ((a.Kids.length : Int) = (b.Kids.length : Int)))) rfl (Zx d) rfl (Zb (Ze ?_)))))))))))))))))
  exact ⟨s, (Zv _), (i).f1, rfl, rfl, (Zx (Eq.trans (or_f g) (or_f d))).symm⟩
 intro aV bj a0
 obtain ⟨ad, p, aj, aA, aB, ap⟩ := a0
 refine (Ze ?_)
 rcases ite_some hm with ⟨u, hm⟩ | ⟨u, hm⟩
 ·refine W_cond_t ap u (Zc (Zd (Za rfl rfl (Zo (v := Value.bool (false)) rfl rfl (Zb (Ze (W_ret (at_ret ?_))))))))
  have aN := Zu hm
  subst r
  refine ⟨_, ret1 rfl, ?_⟩
  exact ⟨ad, p, ((aj).drop).drop, rfl⟩
 refine W_cond_f ap u ?_
 replace u := Zk u
 refine W_skip (Ze (Zc (Zc (Zd (Za rfl rfl (Zo (v := Vi (0)) rfl rfl (Zb (Ze ?_))))))))
 obtain ⟨ai, ay, a8, a6, a5⟩ := ctl_some hm
 refine W_mid (M := fun f' w' => ∃ s', (ai = .next s' ∨ ai = .brk s') ∧ (fun (an : Int) => ∃ (ar : PHeap) , PHeap.le ad ar ∧ St w0 ar (Res.box n 82 [Value.string (a.Op), Vi (a.N), j] :: Res.box o 82 [Value.string (b.Op), Vi (b.N), k] :: H) w' ∧ f' 2 = Value.pointer (some ⟨n, 0, none⟩) ∧ f' 3 = Value.pointer (some ⟨o, 0, none⟩) ∧ f' 5 = Vi (an)) s') ?_ ?_
 ·refine W_block (W_while (fun s' f' w' => (fun (m : Int) => ∃ (au : PHeap) , PHeap.le ad au ∧ St w0 au (Res.box n 82 [Value.string (a.Op), Vi (a.N), j] :: Res.box o 82 [Value.string (b.Op), Vi (b.N), k] :: H) w' ∧ f' 2 = Value.pointer (some ⟨n, 0, none⟩) ∧ f' 3 = Value.pointer (some ⟨o, 0, none⟩) ∧ f' 5 = Vi (m)) s') ay ?_ ?_)
  ·have a3 := (aj).f1
   exact ⟨ad, (Zv _), (a3).f1, aA, aB, rfl⟩
  intro m af aW bk az c am
  obtain ⟨aJ, t, l, ac, ag, z⟩ := az
  refine Zc (Zc (Zd (Za rfl rfl (Zm (v := Vi (m)) rfl z (Za rfl rfl (Zp F82_2 rfl ac rfl (Za rfl rfl (Zn (l) A80 rfl rfl rfl (Za rfl rfl (Zr S80 rfl rfl (ab.mono (Zt p t)) (Za rfl rfl (Zq rfl rfl rfl (Zb (Ze ?_))))))))))))))
  rcases ite_some c with ⟨x, c⟩ | ⟨x, c⟩
  ·refine W_cond_t rfl x (W_skip (Ze (Zc (W_block (Zc (W_dl (n0 := 12) (qs 0 10 (.e 10 [] (.q 11 .done))) hmix (by kernel_rfl) (by kernel_rfl) (DL_q rfl rfl (Zp F82_2 rfl ac rfl ⟨rfl, ?_⟩))))))))
   refine DL_q rfl rfl (Zn (l.drew) A80 rfl rfl rfl ⟨rfl, ?_⟩)
   refine DL_q rfl rfl (Zm (v := Vi (m)) rfl z ⟨rfl, ?_⟩)
   obtain ⟨bn, aC, c⟩ := Zg c
   refine DL_q rfl rfl (Exec.index_repE S80 rfl rfl rfl (ab.mono (Zt p t)) aC ?_)
   intro aL aY aw aO
   refine ⟨rfl, ?_⟩
   refine DL_q rfl rfl (Zw (E := encGExpr) l.drew A82 rfl rfl rfl aw ?_)
   intro bf aD
   obtain ⟨bd, rfl, aH⟩ := encGExpr_val.1 aD
   refine ⟨rfl, ?_⟩
   refine DL_q rfl rfl (Zp F82_2 rfl ag rfl ⟨rfl, ?_⟩)
   refine DL_q rfl rfl (Zn ((l.drew).f1) A80 rfl rfl rfl ⟨rfl, ?_⟩)
   refine DL_q rfl rfl (Zm (v := Vi (m)) rfl z ⟨rfl, ?_⟩)
   obtain ⟨bo, aE, c⟩ := Zg c
   refine DL_q rfl rfl (Exec.index_repE S80 rfl rfl rfl (ae.mono (Zt p t)) aE ?_)
   intro aM aZ ax aP
   refine ⟨rfl, ?_⟩
   refine DL_q rfl rfl (Zw (E := encGExpr) l.drew A82 rfl rfl rfl ax ?_)
   intro bg aF
   obtain ⟨be, rfl, aI⟩ := encGExpr_val.1 aF
   refine ⟨rfl, ?_⟩
   obtain ⟨bp, aG, c⟩ := Zg c
   refine DL_e rfl rfl (Tc rfl rfl rfl (Zi rfl (Zi rfl args_nil)) (ih aG l.drew aH aI).r ?_)
   rintro _ bl ⟨av, ao, ak, rfl⟩
   refine ⟨ag_nil, ?_⟩
   refine DL_q rfl rfl (Exec.not rfl rfl ⟨rfl, ?_⟩)
   refine DL_done (Zb (Ze ?_))
   rcases ite_some c with ⟨y, c⟩ | ⟨y, c⟩
   ·refine W_cond_t rfl y (Zc (Zd (Za rfl rfl (Zo (v := Value.bool (false)) rfl rfl (Zb (Ze (W_ret (ib_ret (at_ret (at_ret (ib_ret (at_ret (at_ret ?_)))))))))))))
    have aQ := Zu c
    subst af
    have a7 := a8 _ (am (by intro _ h; cases h))
    have aR := Zu a7
    subst r
    refine ⟨_, ret1 rfl, ?_⟩
    exact ⟨av, (Zt (Zt p t) ao), ((ak).drop).drop, rfl⟩
   refine W_cond_f rfl y ?_
   replace y := Zk y
   refine W_skip (ib_normal (Ze (Zd (Za rfl rfl (Zm (v := Vi (m)) rfl z (Za rfl rfl (Exec.add rfl rfl rfl (Za rfl rfl (Zo (v := Vi (IntKind.i64.wrap (m + 1))) rfl rfl (Zb (Ze ?_)))))))))))
   have aS := Zu c
   subst af
   refine ⟨_, rfl, ?_⟩; exact ⟨av, (Zt t ao), ((ak).f1).f1, ac, ag, rfl⟩
  refine W_cond_f rfl x ?_
  replace x := Zk x
  refine W_exit (at_exit (at_exit (ib_here (Ze ?_))))
  have aT := Zu c
  subst af
  refine ⟨_, .inr (am (by intro _ h; cases h)), ?_⟩; exact ⟨aJ, t, ((l).f1).f1, ac, ag, z⟩
 rintro aX bm ⟨an, al, a1⟩
 have hm := al.elim (a6 _) (a5 _)
 clear al
 obtain ⟨aK, a9, a4, ba, bb, bc⟩ := a1
 refine (Ze (Zc (Zd (Za rfl rfl (Zo (v := Value.bool (true)) rfl rfl (Zb (Ze (W_ret ?_))))))))
 have aU := Zu hm
 subst r
 refine ⟨_, ret1 rfl, ?_⟩
 exact ⟨aK, (Zt p a9), ((a4).drop).drop, rfl⟩
theorem ref18_sameExpr_sim {fu : Nat} : ∀ {w0 w : World} {s : PHeap} {H : List Res} {a : GExpr} {b : GExpr} {d : Value} {f : Value} {r : Bool} (hm : ref18_sameExpr_p fu a b = some r) (hS : St w0 s (H) w) (h : SliceRep encGExpr s d a.Kids) (i : SliceRep encGExpr s f b.Kids), Calls Try.prog 86 #[Value.agg #[Value.string (a.Op), Vi (a.N), d], Value.agg #[Value.string (b.Op), Vi (b.N), f]] w fun e w' => ∃ v, e = .returned v ∧ ((fun (g : Bool) => ∃ (c : PHeap) , PHeap.le s c ∧ St w0 c (H) w' ∧ v = Value.bool (g)) r) := by
 induction fu with
 | zero => intros; rename_i hm _ _ _; rw [ref18_sameExpr_p] at hm; cases hm
 | succ fu ih => exact ref18_sameExpr_step ih
theorem ref18_sameTest_sim {w0 w : World} {s : PHeap} {H : List Res} {fu : Nat} {a : GTest} {b : GTest} {l : Value} {m : Value} {n : Value} {o : Value} {r : Bool} (hm : ref18_sameTest_p fu a b = some r) (hS : St w0 s (H) w) (t : SliceRep encGExpr s l a.A.Kids) (u : SliceRep encGExpr s m a.B.Kids) (x : SliceRep encGExpr s n b.A.Kids) (y : SliceRep encGExpr s o b.B.Kids) :
  Calls Try.prog 85 #[Value.agg #[Value.string (a.Op), Value.string (a.A.Op), Vi (a.A.N), l, Value.string (a.B.Op), Vi (a.B.N), m], Value.agg #[Value.string (b.Op), Value.string (b.A.Op), Vi (b.A.N), n, Value.string (b.B.Op), Vi (b.B.N), o]] w fun e w' => ∃ v, e = .returned v ∧ ((fun (al : Bool) => ∃ (p : PHeap) , PHeap.le s p ∧ St w0 p (H) w' ∧ v = Value.bool (al)) r) := by
 unfold ref18_sameTest_p at hm
 refine calls_of_W Try.func85 rfl rfl (Zc (Zd (Za rfl rfl (Exec.box (cs := [Value.string (a.Op), Value.string (a.A.Op), Vi (a.A.N), l, Value.string (a.B.Op), Vi (a.B.N), m]) hS rfl rfl rfl ?_))))
 intro am av aa
 refine Za rfl rfl (Exec.box (cs := [Value.string (b.Op), Value.string (b.A.Op), Vi (b.A.N), n, Value.string (b.B.Op), Vi (b.B.N), o]) aa rfl rfl rfl ?_)
 intro an aw h
 refine Za rfl rfl (Zo (v := Value.bool (false)) rfl rfl (Zb (Ze (Zc ?_))))
 obtain ⟨i, c, hm⟩ := Zg hm
 refine W_mid (M := fun f' w' => (fun (i : Bool) => ∃ (q : PHeap) , PHeap.le s q ∧ St w0 q (H) w' ∧ f' 4 = Value.bool (i)) i) ?_ ?_
 ·refine Zd (Za rfl rfl (Zp F129_0 rfl rfl rfl (Za rfl rfl (Zn ((h).f1) A9 rfl rfl rfl (Za rfl rfl (Zp F129_0 rfl rfl rfl (Za rfl rfl (Zn (h) A9 rfl rfl rfl (Za rfl rfl (Exec.str_eql rfl rfl rfl (Za rfl rfl (Zm (v := Value.bool (decide (a.Op = b.Op))) rfl rfl ?_))))))))))))
  rcases ite_some c with ⟨d, c⟩ | ⟨d, c⟩
  ·refine WL_run rfl (Zf rfl (Zx d)) rfl (Zp F129_1 rfl rfl rfl (WL_run rfl (Zf rfl (Zx d)) rfl (Exec.load_box_agg (ds := [Value.string (a.A.Op), Vi (a.A.N), l]) ((h).f1) A82 rfl rfl rfl (WL_run rfl (Zf rfl (Zx d)) rfl (Zp F129_1 rfl rfl rfl (WL_run rfl (Zf rfl (Zx d)) rfl (Exec.load_box_agg (ds := [Value.string (b.A.Op), Vi (b.A.N), n]) (h) A82 rfl rfl rfl ?_)))))))
   obtain ⟨a0, ag, c⟩ := Zg c
   refine WL_run rfl (Zf rfl (Zx d)) rfl (Tc rfl rfl rfl (Zi rfl (Zi rfl args_nil)) (ref18_sameExpr_sim ag h t x).r ?_)
   rintro _ ax ⟨ai, k, j, rfl⟩
   refine WL_passes 2 (by rw [d]; rfl) ?_
   rcases ite_some c with ⟨g, c⟩ | ⟨g, c⟩
   ·refine WL_run rfl (Zf rfl (Zx g)) rfl (Zp F129_2 rfl rfl rfl (WL_run rfl (Zf rfl (Zx g)) rfl (Exec.load_box_agg (ds := [Value.string (a.B.Op), Vi (a.B.N), m]) ((j).f1) A82 rfl rfl rfl (WL_run rfl (Zf rfl (Zx g)) rfl (Zp F129_2 rfl rfl rfl (WL_run rfl (Zf rfl (Zx g)) rfl (Exec.load_box_agg (ds := [Value.string (b.B.Op), Vi (b.B.N), o]) (j) A82 rfl rfl rfl ?_)))))))
    obtain ⟨a1, ah, c⟩ := Zg c
    refine WL_run rfl (Zf rfl (Zx g)) rfl (Tc rfl rfl rfl (Zi rfl (Zi rfl args_nil)) (ref18_sameExpr_sim ah j (u.mono k) (y.mono k)).r ?_)
    rintro _ ay ⟨aj, ad, ab, rfl⟩
    refine WL_passes 2 (by rw [g]; rfl) ?_
    refine Zb (Ze ?_)
    have ao := Zu c
    subst i
    exact ⟨aj, (Zt k ad), ((ab).drop).drop, rfl⟩
   replace g := Zk g
   refine WL_passes 7 (by rw [g]; rfl) ?_
   refine Zb (Ze ?_)
   have ap := Zu c
   subst i
   exact ⟨ai, k, ((j).drop).drop, rfl⟩
  replace d := Zk d
  refine WL_passes 14 (by rw [d]; rfl) ?_
  refine Zb (Ze ?_)
  have aq := Zu c
  subst i
  exact ⟨s, (Zv _), ((h).drop).drop, rfl⟩
 intro au az z
 obtain ⟨ak, ae, ac, af⟩ := z
 refine (Ze (W_ret ?_))
 have ar := Zu hm
 subst r
 refine ⟨_, ret1 rfl, ?_⟩
 exact ⟨ak, ae, ac, af⟩
theorem ref18_SameCond_sim {w0 w : World} {s : PHeap} {H : List Res} {fu : Nat} {aa : Cond} {ab : Cond} {o : Value} {p : Value} {t : Value} {u : Value} {x : Value} {y : Value} {r : Bool} (hm : ref18_SameCond_p fu aa ab = some r) (hS : St w0 s (H) w) (a6 : SliceRep (encInt .i64) s o aa.Pos) (a7 : SliceRep (encInt .i64) s p aa.Neg) (al : SliceRep encGTest s t aa.Tests) (a8 : SliceRep (encInt .i64) s u ab.Pos) (a9 : SliceRep (encInt .i64) s x ab.Neg) (ap : SliceRep encGTest s y ab.Tests) :
  Calls Try.prog 49 #[Value.agg #[o, p, t], Value.agg #[u, x, y]] w fun e w' => ∃ v, e = .returned v ∧ ((fun (be : Bool) => ∃ (a0 : PHeap) , PHeap.le s a0 ∧ St w0 a0 (H) w' ∧ v = Value.bool (be)) r) := by
 unfold ref18_SameCond_p at hm
 refine calls_of_W Try.func49 rfl rfl (Zc (Zd (Za rfl rfl (Exec.box (cs := [o, p, t]) hS rfl rfl rfl ?_))))
 intro k b8 aG
 refine Za rfl rfl (Exec.box (cs := [u, x, y]) aG rfl rfl rfl ?_)
 intro l b9 an
 refine Za rfl rfl (Zo (v := Value.bool (false)) rfl rfl (Zb (Ze (Zc (Zc ?_)))))
 obtain ⟨z, b, hm⟩ := Zg hm
 refine W_mid (M := fun f' w' => (fun (z : Bool) => ∃ (a1 : PHeap) , PHeap.le s a1 ∧ St w0 a1 (Res.box k 47 [o, p, t] :: Res.box l 47 [u, x, y] :: H) w' ∧ f' 2 = Value.pointer (some ⟨k, 0, none⟩) ∧ f' 3 = Value.pointer (some ⟨l, 0, none⟩) ∧ f' 28 = Value.bool (z)) z) ?_ ?_
 ·refine Zd (Za rfl rfl (Zp F47_0 rfl rfl rfl (Za rfl rfl (Zn ((an).f1) A24 rfl rfl rfl (Za rfl rfl (Zp F47_0 rfl rfl rfl (Za rfl rfl (Zn (an) A24 rfl rfl rfl ?_))))))))
  obtain ⟨bf, aQ, b⟩ := Zg b
  refine Za rfl rfl (Tc rfl rfl rfl (Zi rfl (Zi rfl args_nil)) (ref18_ints_sim aQ an a6 a8).r ?_)
  rintro _ bA ⟨bb, j, ag, rfl⟩
  refine Za rfl rfl (Exec.not rfl rfl (Za rfl rfl (Zm (v := Value.bool (!bf)) rfl rfl ?_)))
  rcases ite_some b with ⟨d, b⟩ | ⟨d, b⟩
  ·refine WL_passes 16 (by rw [d]; rfl) ?_
   refine Zb (Ze ?_)
   have bi := Zu b
   subst z
   exact ⟨bb, j, (ag).f1, rfl, rfl, rfl⟩
  replace d := Zk d
  refine WL_run rfl (Zf rfl (Zx d)) rfl (Zp F47_1 rfl rfl rfl (WL_run rfl (Zf rfl (Zx d)) rfl (Zn ((ag).f1) A24 rfl rfl rfl (WL_run rfl (Zf rfl (Zx d)) rfl (Zp F47_1 rfl rfl rfl (WL_run rfl (Zf rfl (Zx d)) rfl (Zn (ag) A24 rfl rfl rfl ?_)))))))
  obtain ⟨bI, aR, b⟩ := Zg b
  refine WL_run rfl (Zf rfl (Zx d)) rfl (Tc rfl rfl rfl (Zi rfl (Zi rfl args_nil)) (ref18_ints_sim aR ag (a7.mono j) (a9.mono j)).r ?_)
  rintro _ bB ⟨a2, ai, ah, rfl⟩
  refine WL_run rfl (Zf rfl (Zx d)) rfl (Exec.not rfl rfl ?_)
  refine WL_passes 2 (by rw [d]; rfl) ?_
  rcases ite_some b with ⟨c, b⟩ | ⟨c, b⟩
  ·refine WL_passes 8 (by rw [c]; rfl) ?_
   refine Zb (Ze ?_)
   have bj := Zu b
   subst z
   exact ⟨a2, (Zt j ai), (ah).f1, rfl, rfl, rfl⟩
  replace c := Zk c
  refine WL_run rfl (Zf rfl (Zx c)) rfl (Zp F47_2 rfl rfl rfl (WL_run rfl (Zf rfl (Zx c)) rfl (Zn ((ah).f1) A45 rfl rfl rfl (WL_run rfl (Zf rfl (Zx c)) rfl (Zr S45 rfl rfl (al.mono (Zt j ai)) (WL_run rfl (Zf rfl (Zx c)) rfl (Zp F47_2 rfl rfl rfl (WL_run rfl (Zf rfl (Zx c)) rfl (Zn (ah) A45 rfl rfl rfl (WL_run rfl (Zf rfl (Zx c)) rfl (Zr S45 rfl rfl (ap.mono (Zt j ai)) (WL_run rfl (Zf rfl (Zx c)) rfl (Exec.neq rfl rfl rfl (Za rfl rfl (Exec.pick_f (v := Value.bool (!decide ((aa.Tests.length : Int) = (ab.Tests.length : Int)))) rfl (Zx c) rfl (Zb (Ze ?_)))))))))))))))))
  have bk := Zu b
  subst z
  exact ⟨a2, (Zt j ai), (ah).f1, rfl, rfl, rfl⟩
 intro bt bC aE
 obtain ⟨ak, m, ar, aO, aP, az⟩ := aE
 refine (Ze ?_)
 rcases ite_some hm with ⟨ac, hm⟩ | ⟨ac, hm⟩
 ·refine W_cond_t az ac (Zc (Zd (Za rfl rfl (Zo (v := Value.bool (false)) rfl rfl (Zb (Ze (W_ret (at_ret ?_))))))))
  have bl := Zu hm
  subst r
  refine ⟨_, ret1 rfl, ?_⟩
  exact ⟨ak, m, ((ar).drop).drop, rfl⟩
 refine W_cond_f az ac ?_
 replace ac := Zk ac
 refine W_skip (Ze (Zc (Zc (Zd (Za rfl rfl (Zo (v := Vi (0)) rfl rfl (Zb (Ze ?_))))))))
 obtain ⟨aq, aC, aM, aK, aJ⟩ := ctl_some hm
 refine W_mid (M := fun f' w' => ∃ s', (aq = .next s' ∨ aq = .brk s') ∧ (fun (ax : Int) => ∃ (a3 : PHeap) , PHeap.le ak a3 ∧ St w0 a3 (Res.box k 47 [o, p, t] :: Res.box l 47 [u, x, y] :: H) w' ∧ f' 2 = Value.pointer (some ⟨k, 0, none⟩) ∧ f' 3 = Value.pointer (some ⟨l, 0, none⟩) ∧ f' 5 = Vi (ax)) s') ?_ ?_
 ·refine W_block (W_while (fun s' f' w' => (fun (i : Int) => ∃ (a4 : PHeap) , PHeap.le ak a4 ∧ St w0 a4 (Res.box k 47 [o, p, t] :: Res.box l 47 [u, x, y] :: H) w' ∧ f' 2 = Value.pointer (some ⟨k, 0, none⟩) ∧ f' 3 = Value.pointer (some ⟨l, 0, none⟩) ∧ f' 5 = Vi (i)) s') aC ?_ ?_)
  ·have aH := (ar).f1
   exact ⟨ak, (Zv _), (aH).f1, aO, aP, rfl⟩
  intro i am bu bD aD a aw
  obtain ⟨bc, n, g, aj, ao, af⟩ := aD
  refine Zc (Zc (Zd (Za rfl rfl (Zm (v := Vi (i)) rfl af (Za rfl rfl (Zp F47_2 rfl aj rfl (Za rfl rfl (Zn (g) A45 rfl rfl rfl (Za rfl rfl (Zr S45 rfl rfl (al.mono (Zt m n)) (Za rfl rfl (Zq rfl rfl rfl (Zb (Ze ?_))))))))))))))
  rcases ite_some a with ⟨ad, a⟩ | ⟨ad, a⟩
  ·refine W_cond_t rfl ad (W_skip (Ze (Zc (W_block (Zc (W_dl (n0 := 12) (qs 0 10 (.e 10 [] (.q 11 .done))) hmix (by kernel_rfl) (by kernel_rfl) (DL_q rfl rfl (Zp F47_2 rfl aj rfl ⟨rfl, ?_⟩))))))))
   refine DL_q rfl rfl (Zn (g.drew) A45 rfl rfl rfl ⟨rfl, ?_⟩)
   refine DL_q rfl rfl (Zm (v := Vi (i)) rfl af ⟨rfl, ?_⟩)
   obtain ⟨bG, aS, a⟩ := Zg a
   refine DL_q rfl rfl (Exec.index_repE S45 rfl rfl rfl (al.mono (Zt m n)) aS ?_)
   intro bg bw aA bm
   refine ⟨rfl, ?_⟩
   refine DL_q rfl rfl (Zw (E := encGTest) g.drew A129 rfl rfl rfl aA ?_)
   intro b6 aT
   obtain ⟨b2, b3, rfl, aX, aY⟩ := encGTest_val.1 aT
   refine ⟨rfl, ?_⟩
   refine DL_q rfl rfl (Zp F47_2 rfl ao rfl ⟨rfl, ?_⟩)
   refine DL_q rfl rfl (Zn ((g.drew).f1) A45 rfl rfl rfl ⟨rfl, ?_⟩)
   refine DL_q rfl rfl (Zm (v := Vi (i)) rfl af ⟨rfl, ?_⟩)
   obtain ⟨bH, aU, a⟩ := Zg a
   refine DL_q rfl rfl (Exec.index_repE S45 rfl rfl rfl (ap.mono (Zt m n)) aU ?_)
   intro bh bx aB bn
   refine ⟨rfl, ?_⟩
   refine DL_q rfl rfl (Zw (E := encGTest) g.drew A129 rfl rfl rfl aB ?_)
   intro b7 aV
   obtain ⟨b4, b5, rfl, aZ, ba⟩ := encGTest_val.1 aV
   refine ⟨rfl, ?_⟩
   obtain ⟨bJ, aW, a⟩ := Zg a
   refine DL_e rfl rfl (Tc rfl rfl rfl (Zi rfl (Zi rfl args_nil)) (ref18_sameTest_sim aW g.drew aX aY aZ ba).r ?_)
   rintro _ bE ⟨a5, ay, au, rfl⟩
   refine ⟨ag_nil, ?_⟩
   refine DL_q rfl rfl (Exec.not rfl rfl ⟨rfl, ?_⟩)
   refine DL_done (Zb (Ze ?_))
   rcases ite_some a with ⟨ae, a⟩ | ⟨ae, a⟩
   ·refine W_cond_t rfl ae (Zc (Zd (Za rfl rfl (Zo (v := Value.bool (false)) rfl rfl (Zb (Ze (W_ret (ib_ret (at_ret (at_ret (ib_ret (at_ret (at_ret ?_)))))))))))))
    have bo := Zu a
    subst am
    have aL := aM _ (aw (by intro _ h; cases h))
    have bp := Zu aL
    subst r
    refine ⟨_, ret1 rfl, ?_⟩
    exact ⟨a5, (Zt (Zt m n) ay), ((au).drop).drop, rfl⟩
   refine W_cond_f rfl ae ?_
   replace ae := Zk ae
   refine W_skip (ib_normal (Ze (Zd (Za rfl rfl (Zm (v := Vi (i)) rfl af (Za rfl rfl (Exec.add rfl rfl rfl (Za rfl rfl (Zo (v := Vi (IntKind.i64.wrap (i + 1))) rfl rfl (Zb (Ze ?_)))))))))))
   have bq := Zu a
   subst am
   refine ⟨_, rfl, ?_⟩; exact ⟨a5, (Zt n ay), ((au).f1).f1, aj, ao, rfl⟩
  refine W_cond_f rfl ad ?_
  replace ad := Zk ad
  refine W_exit (at_exit (at_exit (ib_here (Ze ?_))))
  have br := Zu a
  subst am
  refine ⟨_, .inr (aw (by intro _ h; cases h)), ?_⟩; exact ⟨bc, n, ((g).f1).f1, aj, ao, af⟩
 rintro bv bF ⟨ax, av, aF⟩
 have hm := av.elim (aK _) (aJ _)
 clear av
 obtain ⟨bd, aN, aI, bz, b0, b1⟩ := aF
 refine (Ze (Zc (Zd (Za rfl rfl (Zo (v := Value.bool (true)) rfl rfl (Zb (Ze (W_ret ?_))))))))
 have bs := Zu hm
 subst r
 refine ⟨_, ret1 rfl, ?_⟩
 exact ⟨bd, (Zt m aN), ((aI).drop).drop, rfl⟩
end Go.Pw
