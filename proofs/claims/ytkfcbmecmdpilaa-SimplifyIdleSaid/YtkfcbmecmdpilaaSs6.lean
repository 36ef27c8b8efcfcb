/-
  The walks (printed by my generator).
-/
import Derived.Test.YtkfcbmecmdpilaaL29
import Derived.Test.YtkfcbmecmdpilaaL27
import Derived.Test.YtkfcbmecmdpilaaSs5
set_option maxRecDepth 100000
set_option maxHeartbeats 4000000
set_option linter.unusedVariables false
namespace Go.Pw
open Go.Proofs
theorem ref10_Compare_sim {w0 w : World} {s : PHeap} {H : List Res} {c : Atom} {g : Atom} {q : Value} {t : Value} {r : Int} (hm : ref10_Compare_p c g = some r) (hS : St w0 s (H) w) (ab : SliceRep encStr s q c.Args) (ac : SliceRep encStr s t g.Args) :
  Calls Try.prog 48 #[Value.agg #[Value.string (c.Name), q], Value.agg #[Value.string (g.Name), t]] w fun e w' => ∃ v, e = .returned v ∧ ((fun (aT : Int) => ∃ (ay : PHeap) , PHeap.le s ay ∧ St w0 ay (H) w' ∧ v = Vi (aT)) r) := by
 unfold ref10_Compare_p at hm
 refine calls_of_W Try.func48 rfl rfl (Zc (Zd (Za rfl rfl (Exec.box (cs := [Value.string (c.Name), q]) hS rfl rfl rfl ?_))))
 intro m bt aC
 refine Za rfl rfl (Exec.box (cs := [Value.string (g.Name), t]) aC rfl rfl rfl ?_)
 intro n bu k
 refine Za rfl rfl (Zo (v := Vi (0)) rfl rfl (Zb (Ze (Zc (Zc (Zd (Za rfl rfl (Zp F56_0 rfl rfl rfl (Za rfl rfl (Zn ((k).f1) A9 rfl rfl rfl (Za rfl rfl (Zp F56_0 rfl rfl rfl (Za rfl rfl (Zn (k) A9 rfl rfl rfl (Za rfl rfl (Exec.str_neq rfl rfl rfl (Zb (Ze ?_))))))))))))))))))
 rcases ite_some hm with ⟨u, hm⟩ | ⟨u, hm⟩
 ·refine W_cond_t rfl u (Zc (Zc (Zd (Za rfl rfl (Zp F56_0 rfl rfl rfl (Za rfl rfl (Zn ((k).f1) A9 rfl rfl rfl (Za rfl rfl (Zp F56_0 rfl rfl rfl (Za rfl rfl (Zn (k) A9 rfl rfl rfl (Za rfl rfl (Exec.str_lss rfl rfl rfl (Zb (Ze ?_)))))))))))))))
  rcases ite_some hm with ⟨x, hm⟩ | ⟨x, hm⟩
  ·refine W_cond_t rfl x (Zc (Zd (Za rfl rfl (Zo (v := Vi ((-1))) rfl rfl (Zb (Ze (W_ret (at_ret (at_ret ?_)))))))))
   have aY := Zu hm
   subst r
   refine ⟨_, ret1 rfl, ?_⟩
   exact ⟨s, (Zv _), ((k).drop).drop, rfl⟩
  refine W_cond_f rfl x ?_
  replace x := Zk x
  refine W_skip (Ze (Zc (Zd (Za rfl rfl (Zo (v := Vi (1)) rfl rfl (Zb (Ze (W_ret (at_ret ?_)))))))))
  have aZ := Zu hm
  subst r
  refine ⟨_, ret1 rfl, ?_⟩
  exact ⟨s, (Zv _), ((k).drop).drop, rfl⟩
 refine W_cond_f rfl u ?_
 replace u := Zk u
 refine W_skip (Ze (Zc (Zc (Zd (Za rfl rfl (Zo (v := Vi (0)) rfl rfl (Zb (Ze ?_))))))))
 obtain ⟨ap, a8, ar, aF, aE⟩ := ctl_some hm
 refine W_mid (M := fun f' w' => ∃ s', (ap = .next s' ∨ ap = .brk s') ∧ (fun (au : Int) => ∃ (az : PHeap) , PHeap.le s az ∧ St w0 az (Res.box m 56 [Value.string (c.Name), q] :: Res.box n 56 [Value.string (g.Name), t] :: H) w' ∧ f' 2 = Value.pointer (some ⟨m, 0, none⟩) ∧ f' 3 = Value.pointer (some ⟨n, 0, none⟩) ∧ f' 5 = Vi (au)) s') ?_ ?_
 ·refine W_block (W_while (fun s' f' w' => (fun (b : Int) => ∃ (a0 : PHeap) , PHeap.le s a0 ∧ St w0 a0 (Res.box m 56 [Value.string (c.Name), q] :: Res.box n 56 [Value.string (g.Name), t] :: H) w' ∧ f' 2 = Value.pointer (some ⟨m, 0, none⟩) ∧ f' 3 = Value.pointer (some ⟨n, 0, none⟩) ∧ f' 5 = Vi (b)) s') a8 ?_ ?_)
  ·have aD := (k).f1
   exact ⟨s, (Zv _), aD, rfl, rfl, rfl⟩
  intro b ad bl bv a9 a ak
  obtain ⟨ao, i, ae, am, an, af⟩ := a9
  refine Zc (Zc (W_mid (M := fun f' w' => ∃ (a1 : PHeap) , PHeap.le ao a1 ∧ St w0 a1 (Res.box m 56 [Value.string (c.Name), q] :: Res.box n 56 [Value.string (g.Name), t] :: H) w' ∧ f' 2 = Value.pointer (some ⟨m, 0, none⟩) ∧ f' 3 = Value.pointer (some ⟨n, 0, none⟩) ∧ f' 5 = Vi (b) ∧ f' 27 = Value.bool (((decide (b < (c.Args.length : Int))) && decide (b < (g.Args.length : Int))))) ?_ ?_))
  ·refine Zd (Za rfl rfl (Zm (v := Vi (b)) rfl af (Za rfl rfl (Zp F56_1 rfl am rfl (Za rfl rfl (Zn (ae) A54 rfl rfl rfl (Za rfl rfl (Zr S54 rfl rfl (ab.mono i) (Za rfl rfl (Zq rfl rfl rfl (Za rfl rfl (Zm (v := Value.bool (decide (b < (c.Args.length : Int)))) rfl rfl ?_))))))))))))
   by_cases d : (decide (b < (c.Args.length : Int))) = true
   ·refine WL_run rfl (Zf rfl (Zx d)) rfl (Zm (v := Vi (b)) rfl af (WL_run rfl (Zf rfl (Zx d)) rfl (Zp F56_1 rfl an rfl (WL_run rfl (Zf rfl (Zx d)) rfl (Zn ((ae).f1) A54 rfl rfl rfl (WL_run rfl (Zf rfl (Zx d)) rfl (Zr S54 rfl rfl (ac.mono i) (WL_run rfl (Zf rfl (Zx d)) rfl (Zq rfl rfl rfl (Za rfl rfl (Zs (v := Value.bool (decide (b < (g.Args.length : Int)))) rfl (Zx d) rfl (Zb (Ze ?_)))))))))))))
    exact ⟨ao, (Zv _), ((ae).f1).f1, am, an, af, (Zx (and_t d)).symm⟩
   replace d := Zk d
   refine WL_passes 6 (by rw [d]; rfl) ?_
   refine Zb (Ze ?_)
   exact ⟨ao, (Zv _), ((ae).f1).f1, am, an, af, (Zx (and_f d)).symm⟩
  intro bm bw aA
  obtain ⟨ai, j, l, ag, ah, p, av⟩ := aA
  refine (Ze ?_)
  rcases ite_some a with ⟨y, a⟩ | ⟨y, a⟩
  ·refine W_cond_t av y (W_skip (Ze (Zc (W_block (Zc (Zc (W_dl (n0 := 11) (qs 0 11 .done) hmix (by kernel_rfl) (by kernel_rfl) (DL_q rfl rfl (Zp F56_1 rfl ag rfl ⟨rfl, ?_⟩)))))))))
   refine DL_q rfl rfl (Zn (l.drew) A54 rfl rfl rfl ⟨rfl, ?_⟩)
   refine DL_q rfl rfl (Zm (v := Vi (b)) rfl p ⟨rfl, ?_⟩)
   obtain ⟨a2, aw, a⟩ := Zg a
   refine DL_q rfl rfl (Exec.index_repE S54 rfl rfl rfl (ab.mono (Zt i j)) aw ?_)
   intro aU bo a4 ba
   refine ⟨rfl, ?_⟩
   refine DL_q rfl rfl (Zw (E := encStr) l.drew A9 rfl rfl rfl a4 ?_)
   intro aP aK
   obtain rfl : aP = Value.string (a2) := encStr_val.1 aK
   refine ⟨rfl, ?_⟩
   refine DL_q rfl rfl (Zp F56_1 rfl ah rfl ⟨rfl, ?_⟩)
   refine DL_q rfl rfl (Zn ((l.drew).f1) A54 rfl rfl rfl ⟨rfl, ?_⟩)
   refine DL_q rfl rfl (Zm (v := Vi (b)) rfl p ⟨rfl, ?_⟩)
   obtain ⟨a3, ax, a⟩ := Zg a
   refine DL_q rfl rfl (Exec.index_repE S54 rfl rfl rfl (ac.mono (Zt i j)) ax ?_)
   intro aV bp a5 bb
   refine ⟨rfl, ?_⟩
   refine DL_q rfl rfl (Zw (E := encStr) l.drew A9 rfl rfl rfl a5 ?_)
   intro aQ aL
   obtain rfl : aQ = Value.string (a3) := encStr_val.1 aL
   refine ⟨rfl, ?_⟩
   refine DL_q rfl rfl (Exec.str_lss rfl rfl rfl ⟨rfl, ?_⟩)
   refine DL_done (Zb (Ze ?_))
   rcases ite_some a with ⟨z, a⟩ | ⟨z, a⟩
   ·refine W_cond_t rfl z (Zc (Zd (Za rfl rfl (Zo (v := Vi ((-1))) rfl rfl (Zb (Ze (W_ret (at_ret (ib_ret (at_ret (at_ret (ib_ret (at_ret (at_ret ?_))))))))))))))
    have bc := Zu a
    subst ad
    have aG := ar _ (ak (by intro _ h; cases h))
    have bd := Zu aG
    subst r
    refine ⟨_, ret1 rfl, ?_⟩
    exact ⟨ai, (Zt i j), ((l.drew).drop).drop, rfl⟩
   refine W_cond_f rfl z ?_
   replace z := Zk z
   refine W_skip (Ze (Zc (W_dl (n0 := 11) (qs 0 11 .done) hmix (by kernel_rfl) (by kernel_rfl) ?_)))
   have o := l.drew.drew
   refine DL_q rfl rfl (Zp F56_1 rfl ag rfl ⟨rfl, ?_⟩)
   refine DL_q rfl rfl (Zn (o) A54 rfl rfl rfl ⟨rfl, ?_⟩)
   refine DL_q rfl rfl (Zm (v := Vi (b)) rfl p ⟨rfl, ?_⟩)
   refine DL_q rfl rfl (Exec.index_repE S54 rfl rfl rfl (ab.mono (Zt i j)) aw ?_)
   intro aW bq a6 be
   refine ⟨rfl, ?_⟩
   refine DL_q rfl rfl (Zw (E := encStr) o A9 rfl rfl rfl a6 ?_)
   intro aR aM
   obtain rfl : aR = Value.string (a2) := encStr_val.1 aM
   refine ⟨rfl, ?_⟩
   refine DL_q rfl rfl (Zp F56_1 rfl ah rfl ⟨rfl, ?_⟩)
   refine DL_q rfl rfl (Zn ((o).f1) A54 rfl rfl rfl ⟨rfl, ?_⟩)
   refine DL_q rfl rfl (Zm (v := Vi (b)) rfl p ⟨rfl, ?_⟩)
   refine DL_q rfl rfl (Exec.index_repE S54 rfl rfl rfl (ac.mono (Zt i j)) ax ?_)
   intro aX br a7 bf
   refine ⟨rfl, ?_⟩
   refine DL_q rfl rfl (Zw (E := encStr) o A9 rfl rfl rfl a7 ?_)
   intro aS aN
   obtain rfl : aS = Value.string (a3) := encStr_val.1 aN
   refine ⟨rfl, ?_⟩
   refine DL_q rfl rfl (Exec.str_gtr rfl rfl rfl ⟨rfl, ?_⟩)
   refine DL_done (Zb (Ze ?_))
   rcases ite_some a with ⟨aa, a⟩ | ⟨aa, a⟩
   ·refine W_cond_t rfl aa (Zc (Zd (Za rfl rfl (Zo (v := Vi (1)) rfl rfl (Zb (Ze (W_ret (ib_ret (at_ret (at_ret (ib_ret (at_ret (at_ret ?_)))))))))))))
    have bg := Zu a
    subst ad
    have aH := ar _ (ak (by intro _ h; cases h))
    have bh := Zu aH
    subst r
    refine ⟨_, ret1 rfl, ?_⟩
    exact ⟨ai, (Zt i j), ((o).drop).drop, rfl⟩
   refine W_cond_f rfl aa ?_
   replace aa := Zk aa
   refine W_skip (ib_normal (Ze (Zd (Za rfl rfl (Zm (v := Vi (b)) rfl p (Za rfl rfl (Exec.add rfl rfl rfl (Za rfl rfl (Zo (v := Vi (IntKind.i64.wrap (b + 1))) rfl rfl (Zb (Ze ?_)))))))))))
   have bi := Zu a
   subst ad
   refine ⟨_, rfl, ?_⟩; exact ⟨ai, (Zt i j), ((o).f1).f1, ag, ah, rfl⟩
  refine W_cond_f av y ?_
  replace y := Zk y
  refine W_exit (at_exit (at_exit (ib_here (Ze ?_))))
  have bj := Zu a
  subst ad
  refine ⟨_, .inr (ak (by intro _ h; cases h)), ?_⟩; exact ⟨ai, (Zt i j), ((l).f1).f1, ag, ah, p⟩
 rintro bn bx ⟨au, aq, aB⟩
 have hm := aq.elim (aF _) (aE _)
 clear aq
 obtain ⟨aO, al, aj, aI, aJ, bs⟩ := aB
 refine (Ze (Zc (Zd (Za rfl rfl (Zp F56_1 rfl aI rfl (Za rfl rfl (Zn (aj) A54 rfl rfl rfl (Za rfl rfl (Zr S54 rfl rfl (ab.mono al) (Za rfl rfl (Zp F56_1 rfl aJ rfl (Za rfl rfl (Zn ((aj).f1) A54 rfl rfl rfl (Za rfl rfl (Zr S54 rfl rfl (ac.mono al) (Za rfl rfl (Exec.sub rfl rfl rfl (Za rfl rfl (Zo (v := Vi (IntKind.i64.wrap ((c.Args.length : Int) - (g.Args.length : Int)))) rfl rfl (Zb (Ze (W_ret ?_))))))))))))))))))))))
 have bk := Zu hm
 subst r
 refine ⟨_, ret1 rfl, ?_⟩
 exact ⟨aO, al, ((aj).drop).drop, rfl⟩
theorem ref10_SameAtoms_sim {w0 w : World} {s : PHeap} {H : List Res} {u : (List Atom)} {y : (List Atom)} {c : Value} {g : Value} {r : Bool} (hm : ref10_SameAtoms_p u y = some r) (hS : St w0 s (H) w) (o : SliceRep encAtom s c u) (x : SliceRep encAtom s g y) :
  Calls Try.prog 46 #[c, g] w fun e w' => ∃ v, e = .returned v ∧ ((fun (a5 : Bool) => ∃ (af : PHeap) , PHeap.le s af ∧ St w0 af (H) w' ∧ v = Value.bool (a5)) r) := by
 unfold ref10_SameAtoms_p at hm
 refine calls_of_W Try.func46 rfl rfl (Zc (Zd (Za rfl rfl (Zo (v := Value.bool (false)) rfl rfl (Zb (Ze (Zc (Zc (Zd (Za rfl rfl (Zm (v := c) rfl rfl (Za rfl rfl (Zr S22 rfl rfl o (Za rfl rfl (Zm (v := g) rfl rfl (Za rfl rfl (Zr S22 rfl rfl x (Za rfl rfl (Exec.neq rfl rfl rfl (Zb (Ze ?_)))))))))))))))))))))
 rcases ite_some hm with ⟨i, hm⟩ | ⟨i, hm⟩
 ·refine W_cond_t rfl i (Zc (Zd (Za rfl rfl (Zo (v := Value.bool (false)) rfl rfl (Zb (Ze (W_ret (at_ret ?_))))))))
  have a8 := Zu hm
  subst r
  refine ⟨_, ret1 rfl, ?_⟩
  exact ⟨s, (Zv _), hS, rfl⟩
 refine W_cond_f rfl i ?_
 replace i := Zk i
 refine W_skip (Ze (Zc (Zc (Zd (Za rfl rfl (Zo (v := Vi (0)) rfl rfl (Zb (Ze ?_))))))))
 obtain ⟨z, al, au, aq, ap⟩ := ctl_some hm
 refine W_mid (M := fun f' w' => ∃ s', (z = .next s' ∨ z = .brk s') ∧ (fun (ad : Int) => ∃ (ag : PHeap) , PHeap.le s ag ∧ St w0 ag (H) w' ∧ f' 0 = c ∧ f' 1 = g ∧ f' 5 = Vi (ad)) s') ?_ ?_
 ·refine W_block (W_while (fun s' f' w' => (fun (b : Int) => ∃ (ah : PHeap) , PHeap.le s ah ∧ St w0 ah (H) w' ∧ f' 0 = c ∧ f' 1 = g ∧ f' 5 = Vi (b)) s') al ?_ ?_)
  ·exact ⟨s, (Zv _), hS, rfl, rfl, rfl⟩
  intro b p aG aR am a ac
  obtain ⟨a3, d, m, n, t, l⟩ := am
  refine Zc (Zc (Zd (Za rfl rfl (Zm (v := Vi (b)) rfl l (Za rfl rfl (Zm (v := c) rfl n (Za rfl rfl (Zr S22 rfl rfl (o.mono d) (Za rfl rfl (Zq rfl rfl rfl (Zb (Ze ?_))))))))))))
  rcases ite_some a with ⟨j, a⟩ | ⟨j, a⟩
  ·refine W_cond_t rfl j (W_skip (Ze (Zc (W_block (Zc (W_dl (n0 := 10) (qs 0 8 (.e 8 [] (.q 9 .done))) hmix (by kernel_rfl) (by kernel_rfl) (DL_q rfl rfl (Zm (v := c) rfl n ⟨rfl, ?_⟩))))))))
   refine DL_q rfl rfl (Zm (v := Vi (b)) rfl l ⟨rfl, ?_⟩)
   obtain ⟨aU, aw, a⟩ := Zg a
   refine DL_q rfl rfl (Exec.index_repE S22 rfl rfl rfl (o.mono d) aw ?_)
   intro a6 aI aj a9
   refine ⟨rfl, ?_⟩
   refine DL_q rfl rfl (Zw (E := encAtom) m.drew A56 rfl rfl rfl aj ?_)
   intro aP ax
   obtain ⟨aN, rfl, a1⟩ := encAtom_val.1 ax
   refine ⟨rfl, ?_⟩
   refine DL_q rfl rfl (Zm (v := g) rfl t ⟨rfl, ?_⟩)
   refine DL_q rfl rfl (Zm (v := Vi (b)) rfl l ⟨rfl, ?_⟩)
   obtain ⟨aV, ay, a⟩ := Zg a
   refine DL_q rfl rfl (Exec.index_repE S22 rfl rfl rfl (x.mono d) ay ?_)
   intro a7 aJ ak aA
   refine ⟨rfl, ?_⟩
   refine DL_q rfl rfl (Zw (E := encAtom) m.drew A56 rfl rfl rfl ak ?_)
   intro aQ az
   obtain ⟨aO, rfl, a2⟩ := encAtom_val.1 az
   refine ⟨rfl, ?_⟩
   obtain ⟨aW, a0, a⟩ := Zg a
   refine DL_e rfl rfl (Tc rfl rfl rfl (Zi rfl (Zi rfl args_nil)) (ref10_Compare_sim a0 m.drew a1 a2).r ?_)
   rintro _ aS ⟨ai, ae, aa, rfl⟩
   refine ⟨ag_nil, ?_⟩
   refine DL_q rfl rfl (Exec.neq rfl rfl rfl ⟨rfl, ?_⟩)
   refine DL_done (Zb (Ze ?_))
   rcases ite_some a with ⟨k, a⟩ | ⟨k, a⟩
   ·refine W_cond_t rfl k (Zc (Zd (Za rfl rfl (Zo (v := Value.bool (false)) rfl rfl (Zb (Ze (W_ret (ib_ret (at_ret (at_ret (ib_ret (at_ret (at_ret ?_)))))))))))))
    have aB := Zu a
    subst p
    have ar := au _ (ac (by intro _ h; cases h))
    have aC := Zu ar
    subst r
    refine ⟨_, ret1 rfl, ?_⟩
    exact ⟨ai, (Zt d ae), aa, rfl⟩
   refine W_cond_f rfl k ?_
   replace k := Zk k
   refine W_skip (ib_normal (Ze (Zd (Za rfl rfl (Zm (v := Vi (b)) rfl l (Za rfl rfl (Exec.add rfl rfl rfl (Za rfl rfl (Zo (v := Vi (IntKind.i64.wrap (b + 1))) rfl rfl (Zb (Ze ?_)))))))))))
   have aD := Zu a
   subst p
   refine ⟨_, rfl, ?_⟩; exact ⟨ai, (Zt d ae), aa, n, t, rfl⟩
  refine W_cond_f rfl j ?_
  replace j := Zk j
  refine W_exit (at_exit (at_exit (ib_here (Ze ?_))))
  have aE := Zu a
  subst p
  refine ⟨_, .inr (ac (by intro _ h; cases h)), ?_⟩; exact ⟨a3, d, m, n, t, l⟩
 rintro aH aT ⟨ad, ab, an⟩
 have hm := ab.elim (aq _) (ap _)
 clear ab
 obtain ⟨a4, av, ao, aK, aL, aM⟩ := an
 refine (Ze (Zc (Zd (Za rfl rfl (Zo (v := Value.bool (true)) rfl rfl (Zb (Ze (W_ret ?_))))))))
 have aF := Zu hm
 subst r
 refine ⟨_, ret1 rfl, ?_⟩
 exact ⟨a4, av, ao, rfl⟩
theorem ref18_Same_sim {w0 w : World} {s : PHeap} {H : List Res} {fu : Nat} {a5 : Ground} {a6 : Ground} {z : Value} {aa : Value} {ab : Value} {ac : Value} {ad : Value} {ae : Value} {af : Value} {ag : Value} {ah : Value} {ai : Value} {r : Bool} (hm : ref18_Same_p fu a5 a6 = some r) (hS : St w0 s (H) w) (cm : SliceRep encAtom s z a5.Atoms) (bq : SliceRep encGFluent s aa a5.Fluents) (cn : SliceRep (encInt .i64) s ab a5.Init) (br : SliceRep encCond s ac a5.Goal) (aI : SliceRep encGOp s ad a5.Ops) (co : SliceRep encAtom s ae a6.Atoms) (bA : SliceRep encGFluent s af a6.Fluents) (cp : SliceRep (encInt .i64) s ag a6.Init) (bB : SliceRep encCond s ah a6.Goal) (aV : SliceRep encGOp s ai a6.Ops) :
  Calls Try.prog 15 #[Value.agg #[z, aa, ab, ac, ad], Value.agg #[ae, af, ag, ah, ai]] w fun e w' => ∃ v, e = .returned v ∧ ((fun (ee : Bool) => ∃ (bZ : PHeap) , PHeap.le s bZ ∧ St w0 bZ (H) w' ∧ v = Value.bool (ee)) r) := by
 unfold ref18_Same_p at hm
 refine calls_of_W Try.func15 rfl rfl (Zc (Zd (Za rfl rfl (Exec.box (cs := [z, aa, ab, ac, ad]) hS rfl rfl rfl ?_))))
 intro d fH cI
 refine Za rfl rfl (Exec.box (cs := [ae, af, ag, ah, ai]) cI rfl rfl rfl ?_)
 intro g fI bx
 refine Za rfl rfl (Zo (v := Value.bool (false)) rfl rfl (Zb (Ze (Zc (Zc ?_)))))
 obtain ⟨a4, c, hm⟩ := Zg hm
 refine W_mid (M := fun f' w' => (fun (a4 : Bool) => ∃ (ca : PHeap) , PHeap.le s ca ∧ St w0 ca (Res.box d 28 [z, aa, ab, ac, ad] :: Res.box g 28 [ae, af, ag, ah, ai] :: H) w' ∧ f' 2 = Value.pointer (some ⟨d, 0, none⟩) ∧ f' 3 = Value.pointer (some ⟨g, 0, none⟩) ∧ f' 50 = Value.bool (a4)) a4) ?_ ?_
 ·refine Zd (Za rfl rfl (Zp F28_0 rfl rfl rfl (Za rfl rfl (Zn ((bx).f1) A22 rfl rfl rfl (Za rfl rfl (Zp F28_0 rfl rfl rfl (Za rfl rfl (Zn (bx) A22 rfl rfl rfl ?_))))))))
  obtain ⟨ef, dw, c⟩ := Zg c
  refine Za rfl rfl (Tc rfl rfl rfl (Zi rfl (Zi rfl args_nil)) (ref10_SameAtoms_sim dw bx cm co).r ?_)
  rintro _ fJ ⟨dV, x, aY, rfl⟩
  refine Za rfl rfl (Exec.not rfl rfl (Za rfl rfl (Zm (v := Value.bool (!ef)) rfl rfl ?_)))
  rcases ite_some c with ⟨an, c⟩ | ⟨an, c⟩
  ·refine WL_passes 34 (by rw [an]; rfl) ?_
   refine Zb (Ze ?_)
   have eu := Zu c
   subst a4
   exact ⟨dV, x, (aY).f1, rfl, rfl, rfl⟩
  replace an := Zk an
  refine WL_run rfl (Zf rfl (Zx an)) rfl (Zp F28_2 rfl rfl rfl (WL_run rfl (Zf rfl (Zx an)) rfl (Zn ((aY).f1) A24 rfl rfl rfl (WL_run rfl (Zf rfl (Zx an)) rfl (Zp F28_2 rfl rfl rfl (WL_run rfl (Zf rfl (Zx an)) rfl (Zn (aY) A24 rfl rfl rfl ?_)))))))
  obtain ⟨gj, dx, c⟩ := Zg c
  refine WL_run rfl (Zf rfl (Zx an)) rfl (Tc rfl rfl rfl (Zi rfl (Zi rfl args_nil)) (ref18_ints_sim dx aY (cn.mono x) (cp.mono x)).r ?_)
  rintro _ fK ⟨bi, ax, aq, rfl⟩
  refine WL_run rfl (Zf rfl (Zx an)) rfl (Exec.not rfl rfl ?_)
  refine WL_passes 2 (by rw [an]; rfl) ?_
  rcases ite_some c with ⟨aj, c⟩ | ⟨aj, c⟩
  ·refine WL_passes 26 (by rw [aj]; rfl) ?_
   refine Zb (Ze ?_)
   have ev := Zu c
   subst a4
   exact ⟨bi, (Zt x ax), (aq).f1, rfl, rfl, rfl⟩
  replace aj := Zk aj
  refine WL_run rfl (Zf rfl (Zx aj)) rfl (Zp F28_1 rfl rfl rfl (WL_run rfl (Zf rfl (Zx aj)) rfl (Zn ((aq).f1) A23 rfl rfl rfl (WL_run rfl (Zf rfl (Zx aj)) rfl (Zr S23 rfl rfl (bq.mono (Zt x ax)) (WL_run rfl (Zf rfl (Zx aj)) rfl (Zp F28_1 rfl rfl rfl (WL_run rfl (Zf rfl (Zx aj)) rfl (Zn (aq) A23 rfl rfl rfl (WL_run rfl (Zf rfl (Zx aj)) rfl (Zr S23 rfl rfl (bA.mono (Zt x ax)) (WL_run rfl (Zf rfl (Zx aj)) rfl (Exec.neq rfl rfl rfl ?_)))))))))))))
  refine WL_passes 2 (by rw [aj]; rfl) ?_
  rcases ite_some c with ⟨ak, c⟩ | ⟨ak, c⟩
  ·refine WL_passes 17 (by rw [ak]; rfl) ?_
   refine Zb (Ze ?_)
   have ew := Zu c
   subst a4
   exact ⟨bi, (Zt x ax), (aq).f1, rfl, rfl, rfl⟩
  replace ak := Zk ak
  refine WL_run rfl (Zf rfl (Zx ak)) rfl (Zp F28_3 rfl rfl rfl (WL_run rfl (Zf rfl (Zx ak)) rfl (Zn ((aq).f1) A25 rfl rfl rfl (WL_run rfl (Zf rfl (Zx ak)) rfl (Zr S25 rfl rfl (br.mono (Zt x ax)) (WL_run rfl (Zf rfl (Zx ak)) rfl (Zp F28_3 rfl rfl rfl (WL_run rfl (Zf rfl (Zx ak)) rfl (Zn (aq) A25 rfl rfl rfl (WL_run rfl (Zf rfl (Zx ak)) rfl (Zr S25 rfl rfl (bB.mono (Zt x ax)) (WL_run rfl (Zf rfl (Zx ak)) rfl (Exec.neq rfl rfl rfl ?_)))))))))))))
  refine WL_passes 2 (by rw [ak]; rfl) ?_
  rcases ite_some c with ⟨al, c⟩ | ⟨al, c⟩
  ·refine WL_passes 8 (by rw [al]; rfl) ?_
   refine Zb (Ze ?_)
   have ex := Zu c
   subst a4
   exact ⟨bi, (Zt x ax), (aq).f1, rfl, rfl, rfl⟩
  replace al := Zk al
  refine WL_run rfl (Zf rfl (Zx al)) rfl (Zp F28_4 rfl rfl rfl (WL_run rfl (Zf rfl (Zx al)) rfl (Zn ((aq).f1) A26 rfl rfl rfl (WL_run rfl (Zf rfl (Zx al)) rfl (Zr S26 rfl rfl (aI.mono (Zt x ax)) (WL_run rfl (Zf rfl (Zx al)) rfl (Zp F28_4 rfl rfl rfl (WL_run rfl (Zf rfl (Zx al)) rfl (Zn (aq) A26 rfl rfl rfl (WL_run rfl (Zf rfl (Zx al)) rfl (Zr S26 rfl rfl (aV.mono (Zt x ax)) (WL_run rfl (Zf rfl (Zx al)) rfl (Exec.neq rfl rfl rfl (Za rfl rfl (Exec.pick_f (v := Value.bool (!decide ((a5.Ops.length : Int) = (a6.Ops.length : Int)))) rfl (Zx al) rfl (Zb (Ze ?_)))))))))))))))))
  have ey := Zu c
  subst a4
  exact ⟨bi, (Zt x ax), (aq).f1, rfl, rfl, rfl⟩
 intro eS fL cB
 obtain ⟨bj, k, bF, di, dj, bW⟩ := cB
 refine (Ze ?_)
 rcases ite_some hm with ⟨aN, hm⟩ | ⟨aN, hm⟩
 ·refine W_cond_t bW aN (Zc (Zd (Za rfl rfl (Zo (v := Value.bool (false)) rfl rfl (Zb (Ze (W_ret (at_ret ?_))))))))
  have ez := Zu hm
  subst r
  refine ⟨_, ret1 rfl, ?_⟩
  exact ⟨bj, k, ((bF).drop).drop, rfl⟩
 refine W_cond_f bW aN ?_
 replace aN := Zk aN
 refine W_skip (Ze (Zc (Zc (Zd (Za rfl rfl (Zo (v := Vi (0)) rfl rfl (Zb (Ze ?_))))))))
 obtain ⟨bC, c5, db, cV, cS⟩ := ctl_some hm
 refine W_mid (M := fun f' w' => ∃ s', (bC = .next s' ∨ bC = .brk s') ∧ (fun (bP : Int) => ∃ (cb : PHeap) , PHeap.le bj cb ∧ St w0 cb (Res.box d 28 [z, aa, ab, ac, ad] :: Res.box g 28 [ae, af, ag, ah, ai] :: H) w' ∧ f' 2 = Value.pointer (some ⟨d, 0, none⟩) ∧ f' 3 = Value.pointer (some ⟨g, 0, none⟩) ∧ f' 5 = Vi (bP)) s') ?_ ?_
 ·refine W_block (W_while (fun s' f' w' => (fun (i : Int) => ∃ (cc : PHeap) , PHeap.le bj cc ∧ St w0 cc (Res.box d 28 [z, aa, ab, ac, ad] :: Res.box g 28 [ae, af, ag, ah, ai] :: H) w' ∧ f' 2 = Value.pointer (some ⟨d, 0, none⟩) ∧ f' 3 = Value.pointer (some ⟨g, 0, none⟩) ∧ f' 5 = Vi (i)) s') c5 ?_ ?_)
  ·have cJ := (bF).f1
   exact ⟨bj, (Zv _), (cJ).f1, di, dj, rfl⟩
  intro i bu eT fM c8 o bM
  obtain ⟨bk, aD, a2, a1, az, m⟩ := c8
  refine Zc (Zc (Zd (Za rfl rfl (Zm (v := Vi (i)) rfl m (Za rfl rfl (Zp F28_1 rfl a1 rfl (Za rfl rfl (Zn (a2) A23 rfl rfl rfl (Za rfl rfl (Zr S23 rfl rfl (bq.mono (Zt k aD)) (Za rfl rfl (Zq rfl rfl rfl (Zb (Ze ?_))))))))))))))
  rcases ite_some o with ⟨aO, o⟩ | ⟨aO, o⟩
  ·refine W_cond_t rfl aO (W_skip (Ze (Zc (W_block (Zc ?_)))))
   obtain ⟨a, dy, o⟩ := Zg o
   obtain ⟨b, dz, o⟩ := Zg o
   refine W_mid (M := fun f' w' => ∃ (bl : PHeap) (bo : Value) (bp : Value) (bs : Nat) (bt : Nat), PHeap.le bk bl ∧ St w0 bl (Res.box d 28 [z, aa, ab, ac, ad] :: Res.box g 28 [ae, af, ag, ah, ai] :: Res.box bs 93 [Value.string (a.Fluent.Name), bo, Vi (a.Lo), Vi (a.Hi), Vi (a.Init)] :: Res.box bt 93 [Value.string (b.Fluent.Name), bp, Vi (b.Lo), Vi (b.Hi), Vi (b.Init)] :: H) w' ∧ f' 2 = Value.pointer (some ⟨d, 0, none⟩) ∧ f' 3 = Value.pointer (some ⟨g, 0, none⟩) ∧ f' 5 = Vi (i) ∧ f' 6 = Value.pointer (some ⟨bs, 0, none⟩) ∧ f' 7 = Value.pointer (some ⟨bt, 0, none⟩) ∧ SliceRep encStr bl bo a.Fluent.Args ∧ SliceRep encStr bl bp b.Fluent.Args) ?_ ?_
   ·refine W_dl (n0 := 13) (qs 0 10 (.alt (.e 10 [0, 1, 2, 3, 4, 5, 6, 7, 8, 9] (.e 11 [0, 1, 2, 3, 4, 5, 6, 7, 8, 9] (.e 12 [5, 6, 7, 8, 9] .done))) (.e 11 [0, 1, 2, 3, 4, 5, 6, 7, 8, 9] (.e 10 [0, 1, 2, 3, 4, 5, 6, 7, 8, 9] (.e 12 [5, 6, 7, 8, 9] .done))))) hmix (by kernel_rfl) (by kernel_rfl) (DL_q rfl rfl (Zp F28_1 rfl a1 rfl ⟨rfl, ?_⟩))
    refine DL_q rfl rfl (Zn (a2.drew) A23 rfl rfl rfl ⟨rfl, ?_⟩)
    refine DL_q rfl rfl (Zm (v := Vi (i)) rfl m ⟨rfl, ?_⟩)
    refine DL_q rfl rfl (Exec.index_repE S23 rfl rfl rfl (bq.mono (Zt k aD)) dy ?_)
    intro ei fc cq aW
    refine ⟨rfl, ?_⟩
    refine DL_q rfl rfl (Exec.load_atR (E := encGFluent) a2.drew A93 rfl rfl rfl cq ?_)
    intro fB d0 aX
    obtain ⟨aF, rfl, bg⟩ := encGFluent_val.1 d0
    refine ⟨rfl, ?_⟩
    refine DL_q rfl rfl (Zp F28_1 rfl az rfl ⟨rfl, ?_⟩)
    refine DL_q rfl rfl (Zn ((a2.drew).f1) A23 rfl rfl rfl ⟨rfl, ?_⟩)
    refine DL_q rfl rfl (Zm (v := Vi (i)) rfl m ⟨rfl, ?_⟩)
    refine DL_q rfl rfl (Exec.index_repE S23 rfl rfl rfl (bA.mono (Zt k aD)) dz ?_)
    intro ej fd cr aB
    refine ⟨rfl, ?_⟩
    refine DL_q rfl rfl (Exec.load_atR (E := encGFluent) a2.drew A93 rfl rfl rfl cr ?_)
    intro fC d1 aC
    obtain ⟨aG, rfl, bh⟩ := encGFluent_val.1 d1
    refine ⟨rfl, ?_⟩
    refine DL_alt ?_ ?_
    ·refine DL_e rfl rfl (Exec.alloc (cs := [Value.string (⟨#[]⟩), Value.slice none 0 0, Vi (0), Vi (0), Vi (0)]) a2.drew Z93 rfl rfl ?_)
     intro c1 fN aJ
     refine ⟨(ag_cons (ag_r rfl rfl (Zp F28_1 rfl a1 rfl ⟨rfl, rfl⟩)) (ag_cons (ag_r rfl rfl (Zn ((aJ).f1) A23 rfl rfl rfl ⟨rfl, rfl⟩)) (ag_cons (ag_r rfl rfl (Zm (v := Vi (i)) rfl m ⟨rfl, rfl⟩)) (ag_cons (ag_r rfl rfl (Exec.index_run rfl rfl rfl aW ⟨rfl, rfl⟩)) (ag_cons (ag_r rfl rfl (Exec.load_run rfl rfl (aX (Zv _) aJ) ⟨rfl, rfl⟩)) (ag_cons (ag_r rfl rfl (Zp F28_1 rfl az rfl ⟨rfl, rfl⟩)) (ag_cons (ag_r rfl rfl (Zn ((aJ).f2) A23 rfl rfl rfl ⟨rfl, rfl⟩)) (ag_cons (ag_r rfl rfl (Zm (v := Vi (i)) rfl m ⟨rfl, rfl⟩)) (ag_cons (ag_r rfl rfl (Exec.index_run rfl rfl rfl aB ⟨rfl, rfl⟩)) (ag_cons (ag_r rfl rfl (Exec.load_run rfl rfl (aC (Zv _) aJ) ⟨rfl, rfl⟩)) ag_nil)))))))))), ?_⟩
     refine DL_e rfl rfl (Exec.alloc (cs := [Value.string (⟨#[]⟩), Value.slice none 0 0, Vi (0), Vi (0), Vi (0)]) aJ Z93 rfl rfl ?_)
     intro c2 fO aK
     refine ⟨(ag_cons (ag_r rfl rfl (Zp F28_1 rfl a1 rfl ⟨rfl, rfl⟩)) (ag_cons (ag_r rfl rfl (Zn ((aK).f2) A23 rfl rfl rfl ⟨rfl, rfl⟩)) (ag_cons (ag_r rfl rfl (Zm (v := Vi (i)) rfl m ⟨rfl, rfl⟩)) (ag_cons (ag_r rfl rfl (Exec.index_run rfl rfl rfl aW ⟨rfl, rfl⟩)) (ag_cons (ag_r rfl rfl (Exec.load_run rfl rfl (aX (Zv _) aK) ⟨rfl, rfl⟩)) (ag_cons (ag_r rfl rfl (Zp F28_1 rfl az rfl ⟨rfl, rfl⟩)) (ag_cons (ag_r rfl rfl (Zn ((aK).f3) A23 rfl rfl rfl ⟨rfl, rfl⟩)) (ag_cons (ag_r rfl rfl (Zm (v := Vi (i)) rfl m ⟨rfl, rfl⟩)) (ag_cons (ag_r rfl rfl (Exec.index_run rfl rfl rfl aB ⟨rfl, rfl⟩)) (ag_cons (ag_r rfl rfl (Exec.load_run rfl rfl (aC (Zv _) aK) ⟨rfl, rfl⟩)) ag_nil)))))))))), ?_⟩
     refine DL_e rfl rfl (Exec.store_box (ds := [Value.string (a.Fluent.Name), aF, Vi (a.Lo), Vi (a.Hi), Vi (a.Init)]) (es := [Value.string (a.Fluent.Name), aF, Vi (a.Lo), Vi (a.Hi), Vi (a.Init)]) (aK).f1 A93 rfl rfl rfl rfl (Zj rfl (Zj (bg).one (Zj rfl (Zj rfl (Zj rfl one_nil))))) (Nat.le_of_ble_eq_true rfl) rfl ?_)
     intro fP bz
     refine ⟨(ag_cons (ag_r rfl rfl (Zp F28_1 rfl az rfl ⟨rfl, rfl⟩)) (ag_cons (ag_r rfl rfl (Zn ((bz).f3) A23 rfl rfl rfl ⟨rfl, rfl⟩)) (ag_cons (ag_r rfl rfl (Zm (v := Vi (i)) rfl m ⟨rfl, rfl⟩)) (ag_cons (ag_r rfl rfl (Exec.index_run rfl rfl rfl aB ⟨rfl, rfl⟩)) (ag_cons (ag_r rfl rfl (Exec.load_run rfl rfl (aC (Zv _) bz) ⟨rfl, rfl⟩)) ag_nil))))), ?_⟩
     refine DL_done (Za rfl rfl (Exec.store_box (ds := [Value.string (b.Fluent.Name), aG, Vi (b.Lo), Vi (b.Hi), Vi (b.Init)]) (es := [Value.string (b.Fluent.Name), aG, Vi (b.Lo), Vi (b.Hi), Vi (b.Init)]) (bz).f1 A93 rfl rfl rfl rfl (Zj rfl (Zj (bh).one (Zj rfl (Zj rfl (Zj rfl one_nil))))) (Nat.le_of_ble_eq_true rfl) rfl ?_))
     intro fQ cK
     refine Zb (Ze ?_)
     exact ⟨bk, aF, aG, c1, c2, (Zv _), (((cK).f1).f3).f3, a1, az, m, rfl, rfl, bg, bh⟩
    refine DL_e rfl rfl (Exec.alloc (cs := [Value.string (⟨#[]⟩), Value.slice none 0 0, Vi (0), Vi (0), Vi (0)]) a2.drew Z93 rfl rfl ?_)
    intro c3 fR aL
    refine ⟨(ag_cons (ag_r rfl rfl (Zp F28_1 rfl a1 rfl ⟨rfl, rfl⟩)) (ag_cons (ag_r rfl rfl (Zn ((aL).f1) A23 rfl rfl rfl ⟨rfl, rfl⟩)) (ag_cons (ag_r rfl rfl (Zm (v := Vi (i)) rfl m ⟨rfl, rfl⟩)) (ag_cons (ag_r rfl rfl (Exec.index_run rfl rfl rfl aW ⟨rfl, rfl⟩)) (ag_cons (ag_r rfl rfl (Exec.load_run rfl rfl (aX (Zv _) aL) ⟨rfl, rfl⟩)) (ag_cons (ag_r rfl rfl (Zp F28_1 rfl az rfl ⟨rfl, rfl⟩)) (ag_cons (ag_r rfl rfl (Zn ((aL).f2) A23 rfl rfl rfl ⟨rfl, rfl⟩)) (ag_cons (ag_r rfl rfl (Zm (v := Vi (i)) rfl m ⟨rfl, rfl⟩)) (ag_cons (ag_r rfl rfl (Exec.index_run rfl rfl rfl aB ⟨rfl, rfl⟩)) (ag_cons (ag_r rfl rfl (Exec.load_run rfl rfl (aC (Zv _) aL) ⟨rfl, rfl⟩)) ag_nil)))))))))), ?_⟩
    refine DL_e rfl rfl (Exec.alloc (cs := [Value.string (⟨#[]⟩), Value.slice none 0 0, Vi (0), Vi (0), Vi (0)]) aL Z93 rfl rfl ?_)
    intro c4 fS aM
    refine ⟨(ag_cons (ag_r rfl rfl (Zp F28_1 rfl a1 rfl ⟨rfl, rfl⟩)) (ag_cons (ag_r rfl rfl (Zn ((aM).f2) A23 rfl rfl rfl ⟨rfl, rfl⟩)) (ag_cons (ag_r rfl rfl (Zm (v := Vi (i)) rfl m ⟨rfl, rfl⟩)) (ag_cons (ag_r rfl rfl (Exec.index_run rfl rfl rfl aW ⟨rfl, rfl⟩)) (ag_cons (ag_r rfl rfl (Exec.load_run rfl rfl (aX (Zv _) aM) ⟨rfl, rfl⟩)) (ag_cons (ag_r rfl rfl (Zp F28_1 rfl az rfl ⟨rfl, rfl⟩)) (ag_cons (ag_r rfl rfl (Zn ((aM).f3) A23 rfl rfl rfl ⟨rfl, rfl⟩)) (ag_cons (ag_r rfl rfl (Zm (v := Vi (i)) rfl m ⟨rfl, rfl⟩)) (ag_cons (ag_r rfl rfl (Exec.index_run rfl rfl rfl aB ⟨rfl, rfl⟩)) (ag_cons (ag_r rfl rfl (Exec.load_run rfl rfl (aC (Zv _) aM) ⟨rfl, rfl⟩)) ag_nil)))))))))), ?_⟩
    refine DL_e rfl rfl (Exec.store_box (ds := [Value.string (a.Fluent.Name), aF, Vi (a.Lo), Vi (a.Hi), Vi (a.Init)]) (es := [Value.string (a.Fluent.Name), aF, Vi (a.Lo), Vi (a.Hi), Vi (a.Init)]) aM A93 rfl rfl rfl rfl (Zj rfl (Zj (bg).one (Zj rfl (Zj rfl (Zj rfl one_nil))))) (Nat.le_of_ble_eq_true rfl) rfl ?_)
    intro fT b0
    refine ⟨(ag_cons (ag_r rfl rfl (Zp F28_1 rfl az rfl ⟨rfl, rfl⟩)) (ag_cons (ag_r rfl rfl (Zn ((b0).f3) A23 rfl rfl rfl ⟨rfl, rfl⟩)) (ag_cons (ag_r rfl rfl (Zm (v := Vi (i)) rfl m ⟨rfl, rfl⟩)) (ag_cons (ag_r rfl rfl (Exec.index_run rfl rfl rfl aB ⟨rfl, rfl⟩)) (ag_cons (ag_r rfl rfl (Exec.load_run rfl rfl (aC (Zv _) b0) ⟨rfl, rfl⟩)) ag_nil))))), ?_⟩
    refine DL_done (Za rfl rfl (Exec.store_box (ds := [Value.string (b.Fluent.Name), aG, Vi (b.Lo), Vi (b.Hi), Vi (b.Init)]) (es := [Value.string (b.Fluent.Name), aG, Vi (b.Lo), Vi (b.Hi), Vi (b.Init)]) (b0).f1 A93 rfl rfl rfl rfl (Zj rfl (Zj (bh).one (Zj rfl (Zj rfl (Zj rfl one_nil))))) (Nat.le_of_ble_eq_true rfl) rfl ?_))
    intro fU cL
    refine Zb (Ze ?_)
    exact ⟨bk, aF, aG, c4, c3, (Zv _), (((cL).f1).f3).f3, a1, az, m, rfl, rfl, bg, bh⟩
   intro eU fV cC
   obtain ⟨dW, bo, bp, bs, bt, bS, b1, ba, bb, bc, bd, be, de, df⟩ := cC
   refine (Ze (Zc ?_))
   obtain ⟨aA, t, o⟩ := Zg o
   refine W_mid (M := fun f' w' => (fun (aA : Bool) => ∃ (cd : PHeap) , PHeap.le dW cd ∧ St w0 cd (Res.box d 28 [z, aa, ab, ac, ad] :: Res.box g 28 [ae, af, ag, ah, ai] :: H) w' ∧ f' 2 = Value.pointer (some ⟨d, 0, none⟩) ∧ f' 3 = Value.pointer (some ⟨g, 0, none⟩) ∧ f' 5 = Vi (i) ∧ f' 94 = Value.bool (aA)) aA) ?_ ?_
   ·refine Zd (Za rfl rfl (Zp F93_0 rfl bd rfl (Za rfl rfl (Exec.load_box_agg (ds := [Value.string (a.Fluent.Name), bo]) ((b1).f2) A56 rfl rfl rfl (Za rfl rfl (Zp F93_0 rfl be rfl (Za rfl rfl (Exec.load_box_agg (ds := [Value.string (b.Fluent.Name), bp]) ((b1).f3) A56 rfl rfl rfl ?_))))))))
    obtain ⟨eg, d2, t⟩ := Zg t
    refine Za rfl rfl (Tc rfl rfl rfl (Zi rfl (Zi rfl args_nil)) (ref10_Compare_sim d2 b1 de df).r ?_)
    rintro _ fW ⟨bm, aZ, ar, rfl⟩
    refine Za rfl rfl (Exec.neq rfl rfl rfl (Za rfl rfl (Zm (v := Value.bool (!decide (eg = 0))) rfl rfl ?_)))
    rcases ite_some t with ⟨au, t⟩ | ⟨au, t⟩
    ·refine WL_passes 20 (by rw [au]; rfl) ?_
     refine Zb (Ze ?_)
     have e0 := Zu t
     subst aA
     exact ⟨bm, aZ, ((((((ar).f2).drop).f2).drop).f1).f1, ba, bb, bc, rfl⟩
    replace au := Zk au
    refine WL_run rfl (Zf rfl (Zx au)) rfl (Zp F93_1 rfl bd rfl (WL_run rfl (Zf rfl (Zx au)) rfl (Zn ((ar).f2) A3 rfl rfl rfl (WL_run rfl (Zf rfl (Zx au)) rfl (Zp F93_1 rfl be rfl (WL_run rfl (Zf rfl (Zx au)) rfl (Zn ((ar).f3) A3 rfl rfl rfl (WL_run rfl (Zf rfl (Zx au)) rfl (Exec.neq rfl rfl rfl ?_)))))))))
    refine WL_passes 2 (by rw [au]; rfl) ?_
    rcases ite_some t with ⟨av, t⟩ | ⟨av, t⟩
    ·refine WL_passes 13 (by rw [av]; rfl) ?_
     refine Zb (Ze ?_)
     have e1 := Zu t
     subst aA
     exact ⟨bm, aZ, ((((((ar).f2).drop).f2).drop).f1).f1, ba, bb, bc, rfl⟩
    replace av := Zk av
    refine WL_run rfl (Zf rfl (Zx av)) rfl (Zp F93_2 rfl bd rfl (WL_run rfl (Zf rfl (Zx av)) rfl (Zn ((ar).f2) A3 rfl rfl rfl (WL_run rfl (Zf rfl (Zx av)) rfl (Zp F93_2 rfl be rfl (WL_run rfl (Zf rfl (Zx av)) rfl (Zn ((ar).f3) A3 rfl rfl rfl (WL_run rfl (Zf rfl (Zx av)) rfl (Exec.neq rfl rfl rfl ?_)))))))))
    refine WL_passes 2 (by rw [av]; rfl) ?_
    rcases ite_some t with ⟨aw, t⟩ | ⟨aw, t⟩
    ·refine WL_passes 6 (by rw [aw]; rfl) ?_
     refine Zb (Ze ?_)
     have e2 := Zu t
     subst aA
     exact ⟨bm, aZ, ((((((ar).f2).drop).f2).drop).f1).f1, ba, bb, bc, rfl⟩
    replace aw := Zk aw
    refine WL_run rfl (Zf rfl (Zx aw)) rfl (Zp F93_3 rfl bd rfl (WL_run rfl (Zf rfl (Zx aw)) rfl (Zn ((ar).f2) A3 rfl rfl rfl (WL_run rfl (Zf rfl (Zx aw)) rfl (Zp F93_3 rfl be rfl (WL_run rfl (Zf rfl (Zx aw)) rfl (Zn ((ar).f3) A3 rfl rfl rfl (WL_run rfl (Zf rfl (Zx aw)) rfl (Exec.neq rfl rfl rfl (Za rfl rfl (Exec.pick_f (v := Value.bool (!decide (a.Init = b.Init))) rfl (Zx aw) rfl (Zb (Ze ?_)))))))))))))
    have e3 := Zu t
    subst aA
    exact ⟨bm, aZ, ((((((ar).f2).drop).f2).drop).f1).f1, ba, bb, bc, rfl⟩
   intro eV fX cD
   obtain ⟨ce, bT, bG, dk, dl, dm, bX⟩ := cD
   refine (Ze ?_)
   rcases ite_some o with ⟨aP, o⟩ | ⟨aP, o⟩
   ·refine W_cond_t bX aP (Zc (Zd (Za rfl rfl (Zo (v := Value.bool (false)) rfl rfl (Zb (Ze (W_ret (ib_ret (at_ret (at_ret (ib_ret (at_ret (at_ret ?_)))))))))))))
    have e4 := Zu o
    subst bu
    have cY := db _ (bM (by intro _ h; cases h))
    have e5 := Zu cY
    subst r
    refine ⟨_, ret1 rfl, ?_⟩
    exact ⟨ce, (Zt (Zt (Zt k aD) bS) bT), ((bG).drop).drop, rfl⟩
   refine W_cond_f bX aP ?_
   replace aP := Zk aP
   refine W_skip (ib_normal (Ze (Zd (Za rfl rfl (Zm (v := Vi (i)) rfl dm (Za rfl rfl (Exec.add rfl rfl rfl (Za rfl rfl (Zo (v := Vi (IntKind.i64.wrap (i + 1))) rfl rfl (Zb (Ze ?_)))))))))))
   have e6 := Zu o
   subst bu
   refine ⟨_, rfl, ?_⟩; exact ⟨ce, (Zt (Zt aD bS) bT), ((bG).f1).f1, dk, dl, rfl⟩
  refine W_cond_f rfl aO ?_
  replace aO := Zk aO
  refine W_exit (at_exit (at_exit (ib_here (Ze ?_))))
  have e7 := Zu o
  subst bu
  refine ⟨_, .inr (bM (by intro _ h; cases h)), ?_⟩; exact ⟨bk, aD, ((a2).f1).f1, a1, az, m⟩
 rintro eW fY ⟨bP, bJ, cE⟩
 have hm := bJ.elim (cV _) (cS _)
 clear bJ
 obtain ⟨b6, y, cM, dn, dp, fm⟩ := cE
 refine (Ze (Zc (Zc (Zd (Za rfl rfl (Zo (v := Vi (0)) rfl rfl (Zb (Ze ?_))))))))
 obtain ⟨bD, c6, dc, cW, cT⟩ := ctl_some hm
 refine W_mid (M := fun f' w' => ∃ s', (bD = .next s' ∨ bD = .brk s') ∧ (fun (bQ : Int) => ∃ (cf : PHeap) , PHeap.le b6 cf ∧ St w0 cf (Res.box d 28 [z, aa, ab, ac, ad] :: Res.box g 28 [ae, af, ag, ah, ai] :: H) w' ∧ f' 2 = Value.pointer (some ⟨d, 0, none⟩) ∧ f' 3 = Value.pointer (some ⟨g, 0, none⟩) ∧ f' 8 = Vi (bQ)) s') ?_ ?_
 ·refine W_block (W_while (fun s' f' w' => (fun (a8 : Int) => ∃ (cg : PHeap) , PHeap.le b6 cg ∧ St w0 cg (Res.box d 28 [z, aa, ab, ac, ad] :: Res.box g 28 [ae, af, ag, ah, ai] :: H) w' ∧ f' 2 = Value.pointer (some ⟨d, 0, none⟩) ∧ f' 3 = Value.pointer (some ⟨g, 0, none⟩) ∧ f' 8 = Vi (a8)) s') c6 ?_ ?_)
  ·have cN := (cM).f1
   exact ⟨b6, (Zv _), (cN).f1, dn, dp, rfl⟩
  intro a8 bv eX fZ c9 p bN
  obtain ⟨dX, aE, a7, bf, b3, aU⟩ := c9
  refine Zc (Zc (Zd (Za rfl rfl (Zm (v := Vi (a8)) rfl aU (Za rfl rfl (Zp F28_3 rfl bf rfl (Za rfl rfl (Zn (a7) A25 rfl rfl rfl (Za rfl rfl (Zr S25 rfl rfl (br.mono (Zt (Zt k y) aE)) (Za rfl rfl (Zq rfl rfl rfl (Zb (Ze ?_))))))))))))))
  rcases ite_some p with ⟨aQ, p⟩ | ⟨aQ, p⟩
  ·refine W_cond_t rfl aQ (W_skip (Ze (Zc (W_block (Zc (W_dl (n0 := 12) (qs 0 10 (.e 10 [] (.q 11 .done))) hmix (by kernel_rfl) (by kernel_rfl) (DL_q rfl rfl (Zp F28_3 rfl bf rfl ⟨rfl, ?_⟩))))))))
   refine DL_q rfl rfl (Zn (a7.drew) A25 rfl rfl rfl ⟨rfl, ?_⟩)
   refine DL_q rfl rfl (Zm (v := Vi (a8)) rfl aU ⟨rfl, ?_⟩)
   obtain ⟨gh, d3, p⟩ := Zg p
   refine DL_q rfl rfl (Exec.index_repE S25 rfl rfl rfl (br.mono (Zt (Zt k y) aE)) d3 ?_)
   intro ek fe ct e8
   refine ⟨rfl, ?_⟩
   refine DL_q rfl rfl (Zw (E := encCond) a7.drew A47 rfl rfl rfl ct ?_)
   intro fD d4
   obtain ⟨fr, fs, ft, rfl, dF, dG, dH⟩ := encCond_val.1 d4
   refine ⟨rfl, ?_⟩
   refine DL_q rfl rfl (Zp F28_3 rfl b3 rfl ⟨rfl, ?_⟩)
   refine DL_q rfl rfl (Zn ((a7.drew).f1) A25 rfl rfl rfl ⟨rfl, ?_⟩)
   refine DL_q rfl rfl (Zm (v := Vi (a8)) rfl aU ⟨rfl, ?_⟩)
   obtain ⟨gi, d5, p⟩ := Zg p
   refine DL_q rfl rfl (Exec.index_repE S25 rfl rfl rfl (bB.mono (Zt (Zt k y) aE)) d5 ?_)
   intro el ff cu e9
   refine ⟨rfl, ?_⟩
   refine DL_q rfl rfl (Zw (E := encCond) a7.drew A47 rfl rfl rfl cu ?_)
   intro fE d6
   obtain ⟨fv, fw, fx, rfl, dI, dJ, dK⟩ := encCond_val.1 d6
   refine ⟨rfl, ?_⟩
   obtain ⟨gk, d7, p⟩ := Zg p
   refine DL_e rfl rfl (Tc rfl rfl rfl (Zi rfl (Zi rfl args_nil)) (ref18_SameCond_sim d7 a7.drew dF dG dH dI dJ dK).r ?_)
   rintro _ ga ⟨ch, bU, bH, rfl⟩
   refine ⟨ag_nil, ?_⟩
   refine DL_q rfl rfl (Exec.not rfl rfl ⟨rfl, ?_⟩)
   refine DL_done (Zb (Ze ?_))
   rcases ite_some p with ⟨aR, p⟩ | ⟨aR, p⟩
   ·refine W_cond_t rfl aR (Zc (Zd (Za rfl rfl (Zo (v := Value.bool (false)) rfl rfl (Zb (Ze (W_ret (ib_ret (at_ret (at_ret (ib_ret (at_ret (at_ret ?_)))))))))))))
    have eA := Zu p
    subst bv
    have cZ := dc _ (bN (by intro _ h; cases h))
    have eB := Zu cZ
    subst r
    refine ⟨_, ret1 rfl, ?_⟩
    exact ⟨ch, (Zt (Zt (Zt k y) aE) bU), ((bH).drop).drop, rfl⟩
   refine W_cond_f rfl aR ?_
   replace aR := Zk aR
   refine W_skip (ib_normal (Ze (Zd (Za rfl rfl (Zm (v := Vi (a8)) rfl aU (Za rfl rfl (Exec.add rfl rfl rfl (Za rfl rfl (Zo (v := Vi (IntKind.i64.wrap (a8 + 1))) rfl rfl (Zb (Ze ?_)))))))))))
   have eC := Zu p
   subst bv
   refine ⟨_, rfl, ?_⟩; exact ⟨ch, (Zt aE bU), ((bH).f1).f1, bf, b3, rfl⟩
  refine W_cond_f rfl aQ ?_
  replace aQ := Zk aQ
  refine W_exit (at_exit (at_exit (ib_here (Ze ?_))))
  have eD := Zu p
  subst bv
  refine ⟨_, .inr (bN (by intro _ h; cases h)), ?_⟩; exact ⟨dX, aE, ((a7).f1).f1, bf, b3, aU⟩
 rintro eY gb ⟨bQ, bK, cF⟩
 have hm := bK.elim (cW _) (cT _)
 clear bK
 obtain ⟨b7, a0, cO, dq, dr, fn⟩ := cF
 refine (Ze (Zc (Zc (Zd (Za rfl rfl (Zo (v := Vi (0)) rfl rfl (Zb (Ze ?_))))))))
 obtain ⟨bE, c7, dd, cX, cU⟩ := ctl_some hm
 refine W_mid (M := fun f' w' => ∃ s', (bE = .next s' ∨ bE = .brk s') ∧ (fun (bR : Int) => ∃ (ci : PHeap) , PHeap.le b7 ci ∧ St w0 ci (Res.box d 28 [z, aa, ab, ac, ad] :: Res.box g 28 [ae, af, ag, ah, ai] :: H) w' ∧ f' 2 = Value.pointer (some ⟨d, 0, none⟩) ∧ f' 3 = Value.pointer (some ⟨g, 0, none⟩) ∧ f' 9 = Vi (bR)) s') ?_ ?_
 ·refine W_block (W_while (fun s' f' w' => (fun (am : Int) => ∃ (cj : PHeap) , PHeap.le b7 cj ∧ St w0 cj (Res.box d 28 [z, aa, ab, ac, ad] :: Res.box g 28 [ae, af, ag, ah, ai] :: H) w' ∧ f' 2 = Value.pointer (some ⟨d, 0, none⟩) ∧ f' 3 = Value.pointer (some ⟨g, 0, none⟩) ∧ f' 9 = Vi (am)) s') c7 ?_ ?_)
  ·have cP := (cO).f1
   exact ⟨b7, (Zv _), (cP).f1, dq, dr, rfl⟩
  intro am bw eZ gc cA ao bO
  obtain ⟨bn, ay, b2, a3, a9, ap⟩ := cA
  refine Zc (Zc (Zd (Za rfl rfl (Zm (v := Vi (am)) rfl ap (Za rfl rfl (Zp F28_4 rfl a3 rfl (Za rfl rfl (Zn (b2) A26 rfl rfl rfl (Za rfl rfl (Zr S26 rfl rfl (aI.mono (Zt (Zt (Zt k y) a0) ay)) (Za rfl rfl (Zq rfl rfl rfl (Zb (Ze ?_))))))))))))))
  rcases ite_some ao with ⟨aS, ao⟩ | ⟨aS, ao⟩
  ·refine W_cond_t rfl aS (W_skip (Ze (Zc (W_block (Zc ?_)))))
   obtain ⟨aH, u, ao⟩ := Zg ao
   refine W_mid (M := fun f' w' => (fun (aH : Bool) => ∃ (ck : PHeap) , PHeap.le bn ck ∧ St w0 ck (Res.box d 28 [z, aa, ab, ac, ad] :: Res.box g 28 [ae, af, ag, ah, ai] :: H) w' ∧ f' 2 = Value.pointer (some ⟨d, 0, none⟩) ∧ f' 3 = Value.pointer (some ⟨g, 0, none⟩) ∧ f' 9 = Vi (am) ∧ f' 162 = Value.bool (aH)) aH) ?_ ?_
   ·refine W_dl (n0 := 42) (qs 0 39 (.e 39 [] (.q 40 (.q 41 .done)))) hmix (by kernel_rfl) (by kernel_rfl) ?_
    have n := b2.drew
    refine DL_q rfl rfl (Zp F28_4 rfl a3 rfl ⟨rfl, ?_⟩)
    refine DL_q rfl rfl (Zn (n) A26 rfl rfl rfl ⟨rfl, ?_⟩)
    refine DL_q rfl rfl (Zm (v := Vi (am)) rfl ap ⟨rfl, ?_⟩)
    obtain ⟨b8, b4, u⟩ := Zg u
    refine DL_q rfl rfl (Exec.index_repE S26 rfl rfl rfl (aI.mono (Zt (Zt (Zt k y) a0) ay)) b4 ?_)
    intro em fg cv eE
    refine ⟨rfl, ?_⟩
    refine DL_q rfl rfl (Zp F51_0 rfl rfl rfl ⟨rfl, ?_⟩)
    refine DL_q rfl rfl (Zw (E := encStr) n A9 rfl rfl rfl (cv.sub (Sub.iso (Sub.fst (Sub.refl _))) rfl) ?_)
    intro ea d8
    obtain rfl : ea = Value.string (b8.Name) := encStr_val.1 d8
    refine ⟨rfl, ?_⟩
    refine DL_q rfl rfl (Zp F28_4 rfl a9 rfl ⟨rfl, ?_⟩)
    refine DL_q rfl rfl (Zn ((n).f1) A26 rfl rfl rfl ⟨rfl, ?_⟩)
    refine DL_q rfl rfl (Zm (v := Vi (am)) rfl ap ⟨rfl, ?_⟩)
    obtain ⟨b9, b5, u⟩ := Zg u
    refine DL_q rfl rfl (Exec.index_repE S26 rfl rfl rfl (aV.mono (Zt (Zt (Zt k y) a0) ay)) b5 ?_)
    intro en fh cw eF
    refine ⟨rfl, ?_⟩
    refine DL_q rfl rfl (Zp F51_0 rfl rfl rfl ⟨rfl, ?_⟩)
    refine DL_q rfl rfl (Zw (E := encStr) n A9 rfl rfl rfl (cw.sub (Sub.iso (Sub.fst (Sub.refl _))) rfl) ?_)
    intro eb d9
    obtain rfl : eb = Value.string (b9.Name) := encStr_val.1 d9
    refine ⟨rfl, ?_⟩
    refine DL_q rfl rfl (Exec.str_neq rfl rfl rfl ⟨rfl, ?_⟩)
    refine DL_q rfl rfl (Zm (v := Value.bool (!decide (b8.Name = b9.Name))) rfl rfl ⟨rfl, ?_⟩)
    rcases ite_some u with ⟨j, u⟩ | ⟨j, u⟩
    ·refine DL_passes 28 (by rw [j]; rfl) ?_
     refine DL_done (Zb (Ze ?_))
     have eG := Zu u
     subst aH
     exact ⟨bn, (Zv _), ((n).f1).f1, a3, a9, ap, rfl⟩
    replace j := Zk j
    refine DL_qg rfl rfl (Zf rfl (Zx j)) (Zp F28_4 rfl a3 rfl ⟨rfl, ?_⟩)
    refine DL_qg rfl rfl (Zf rfl (Zx j)) (Zn (n) A26 rfl rfl rfl ⟨rfl, ?_⟩)
    refine DL_qg rfl rfl (Zf rfl (Zx j)) (Zm (v := Vi (am)) rfl ap ⟨rfl, ?_⟩)
    refine DL_qg rfl rfl (Zf rfl (Zx j)) (Exec.index_repE S26 rfl rfl rfl (aI.mono (Zt (Zt (Zt k y) a0) ay)) b4 ?_)
    intro eo fi cx eH
    refine ⟨rfl, ?_⟩
    refine DL_qg rfl rfl (Zf rfl (Zx j)) (Zp F51_1 rfl rfl rfl ⟨rfl, ?_⟩)
    refine DL_qg rfl rfl (Zf rfl (Zx j)) (Zw (E := (encInt .i64)) n A3 rfl rfl rfl (cx.sub (Sub.iso (Sub.snd (Sub.fst (Sub.refl _)) rfl)) rfl) ?_)
    intro ec dA
    obtain rfl : ec = Vi (b8.Cost) := encInt_val.1 dA
    refine ⟨rfl, ?_⟩
    refine DL_qg rfl rfl (Zf rfl (Zx j)) (Zp F28_4 rfl a9 rfl ⟨rfl, ?_⟩)
    refine DL_qg rfl rfl (Zf rfl (Zx j)) (Zn ((n).f1) A26 rfl rfl rfl ⟨rfl, ?_⟩)
    refine DL_qg rfl rfl (Zf rfl (Zx j)) (Zm (v := Vi (am)) rfl ap ⟨rfl, ?_⟩)
    refine DL_qg rfl rfl (Zf rfl (Zx j)) (Exec.index_repE S26 rfl rfl rfl (aV.mono (Zt (Zt (Zt k y) a0) ay)) b5 ?_)
    intro ep fj cy eI
    refine ⟨rfl, ?_⟩
    refine DL_qg rfl rfl (Zf rfl (Zx j)) (Zp F51_1 rfl rfl rfl ⟨rfl, ?_⟩)
    refine DL_qg rfl rfl (Zf rfl (Zx j)) (Zw (E := (encInt .i64)) n A3 rfl rfl rfl (cy.sub (Sub.iso (Sub.snd (Sub.fst (Sub.refl _)) rfl)) rfl) ?_)
    intro ed dB
    obtain rfl : ed = Vi (b9.Cost) := encInt_val.1 dB
    refine ⟨rfl, ?_⟩
    refine DL_qg rfl rfl (Zf rfl (Zx j)) (Exec.neq rfl rfl rfl ⟨rfl, ?_⟩)
    refine DL_passes 2 (by rw [j]; rfl) ?_
    rcases ite_some u with ⟨l, u⟩ | ⟨l, u⟩
    ·refine DL_passes 13 (by rw [l]; rfl) ?_
     refine DL_done (Zb (Ze ?_))
     have eJ := Zu u
     subst aH
     exact ⟨bn, (Zv _), ((n).f1).f1, a3, a9, ap, rfl⟩
    replace l := Zk l
    refine DL_qg rfl rfl (Zf rfl (Zx l)) (Zp F28_4 rfl a3 rfl ⟨rfl, ?_⟩)
    refine DL_qg rfl rfl (Zf rfl (Zx l)) (Zn (n) A26 rfl rfl rfl ⟨rfl, ?_⟩)
    refine DL_qg rfl rfl (Zf rfl (Zx l)) (Zm (v := Vi (am)) rfl ap ⟨rfl, ?_⟩)
    refine DL_qg rfl rfl (Zf rfl (Zx l)) (Exec.index_repE S26 rfl rfl rfl (aI.mono (Zt (Zt (Zt k y) a0) ay)) b4 ?_)
    intro er fk cz eK
    refine ⟨rfl, ?_⟩
    refine DL_qg rfl rfl (Zf rfl (Zx l)) (Zw (E := encGOp) n A51 rfl rfl rfl cz ?_)
    intro fF dC
    obtain ⟨fy, fz, f0, f4, f5, rfl, dL, dM, dN, dO, dP⟩ := encGOp_val.1 dC
    refine ⟨rfl, ?_⟩
    refine DL_qg rfl rfl (Zf rfl (Zx l)) (Zp F28_4 rfl a9 rfl ⟨rfl, ?_⟩)
    refine DL_qg rfl rfl (Zf rfl (Zx l)) (Zn ((n).f1) A26 rfl rfl rfl ⟨rfl, ?_⟩)
    refine DL_qg rfl rfl (Zf rfl (Zx l)) (Zm (v := Vi (am)) rfl ap ⟨rfl, ?_⟩)
    refine DL_qg rfl rfl (Zf rfl (Zx l)) (Exec.index_repE S26 rfl rfl rfl (aV.mono (Zt (Zt (Zt k y) a0) ay)) b5 ?_)
    intro et fl c0 eL
    refine ⟨rfl, ?_⟩
    refine DL_qg rfl rfl (Zf rfl (Zx l)) (Zw (E := encGOp) n A51 rfl rfl rfl c0 ?_)
    intro fG dD
    obtain ⟨f6, f7, f8, f9, fA, rfl, dQ, dR, dS, dT, dU⟩ := encGOp_val.1 dD
    refine ⟨rfl, ?_⟩
    obtain ⟨eh, dE, u⟩ := Zg u
    refine DL_eg rfl rfl (Zf rfl (Zx l)) (Tc rfl rfl rfl (Zi rfl (Zi rfl args_nil)) (ref18_SameOp_sim dE n dL dM dN dO dP dQ dR dS dT dU).r ?_)
    rintro _ gd ⟨dY, dg, cQ, rfl⟩
    refine ⟨ag_nil, ?_⟩
    refine DL_qg rfl rfl (Zf rfl (Zx l)) (Exec.not rfl rfl ⟨rfl, ?_⟩)
    refine DL_q rfl rfl (Exec.pick_f (v := Value.bool (!eh)) rfl (Zx l) rfl ⟨rfl, ?_⟩)
    refine DL_done (Zb (Ze ?_))
    have eM := Zu u
    subst aH
    exact ⟨dY, dg, ((cQ).f1).f1, a3, a9, ap, rfl⟩
   intro fa gf cG
   obtain ⟨cl, bV, bI, dt, du, dv, bY⟩ := cG
   refine (Ze ?_)
   rcases ite_some ao with ⟨aT, ao⟩ | ⟨aT, ao⟩
   ·refine W_cond_t bY aT (Zc (Zd (Za rfl rfl (Zo (v := Value.bool (false)) rfl rfl (Zb (Ze (W_ret (ib_ret (at_ret (at_ret (ib_ret (at_ret (at_ret ?_)))))))))))))
    have eN := Zu ao
    subst bw
    have da := dd _ (bO (by intro _ h; cases h))
    have eO := Zu da
    subst r
    refine ⟨_, ret1 rfl, ?_⟩
    exact ⟨cl, (Zt (Zt (Zt (Zt k y) a0) ay) bV), ((bI).drop).drop, rfl⟩
   refine W_cond_f bY aT ?_
   replace aT := Zk aT
   refine W_skip (ib_normal (Ze (Zd (Za rfl rfl (Zm (v := Vi (am)) rfl dv (Za rfl rfl (Exec.add rfl rfl rfl (Za rfl rfl (Zo (v := Vi (IntKind.i64.wrap (am + 1))) rfl rfl (Zb (Ze ?_)))))))))))
   have eP := Zu ao
   subst bw
   refine ⟨_, rfl, ?_⟩; exact ⟨cl, (Zt ay bV), ((bI).f1).f1, dt, du, rfl⟩
  refine W_cond_f rfl aS ?_
  replace aS := Zk aS
  refine W_exit (at_exit (at_exit (ib_here (Ze ?_))))
  have eQ := Zu ao
  subst bw
  refine ⟨_, .inr (bO (by intro _ h; cases h)), ?_⟩; exact ⟨bn, ay, ((b2).f1).f1, a3, a9, ap⟩
 rintro fb gg ⟨bR, bL, cH⟩
 have hm := bL.elim (cX _) (cU _)
 clear bL
 obtain ⟨dZ, dh, cR, fo, fp, fq⟩ := cH
 refine (Ze (Zc (Zd (Za rfl rfl (Zo (v := Value.bool (true)) rfl rfl (Zb (Ze (W_ret ?_))))))))
 have eR := Zu hm
 subst r
 refine ⟨_, ret1 rfl, ?_⟩
 exact ⟨dZ, (Zt (Zt (Zt k y) a0) dh), ((cR).drop).drop, rfl⟩
end Go.Pw
