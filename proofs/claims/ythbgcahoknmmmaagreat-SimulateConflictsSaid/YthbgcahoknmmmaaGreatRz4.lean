/-
  The walks (printed by my generator).
-/
import Derived.Test.YthbgcahoknmmmaaGreatL29
import Derived.Test.YthbgcahoknmmmaaGreatL27
import Derived.Test.YthbgcahoknmmmaaGreatRz3
set_option maxRecDepth 100000
set_option maxHeartbeats 4000000
set_option linter.unusedVariables false
namespace Go.Pw
open Go.Proofs
theorem law58_awake_sim {w0 w : World} {s : PHeap} {H : List Res} {fu : Nat}  {r : Bool} (hm : law58_awake_p fu = some r) (hS : St w0 s (H) w)  :
  Calls Tryz.prog 5 #[] w fun e w' => ∃ v, e = .returned v ∧ ((fun (y22 : Bool) => ∃ (aa : PHeap) , PHeap.le s aa ∧ St w0 aa (H) w' ∧ v = Value.bool (y22)) r) := by
 unfold law58_awake_p at hm
 refine calls_of_W Tryz.func5 rfl rfl (Zc (Zd (Za rfl rfl (Zo (v := Value.bool (false)) rfl rfl (Zb (Ze (Zc (Zd (Za rfl rfl (Tc rfl rfl rfl args_nil (law58_lamp_sim law58_lamp_tot hS ).r ?_))))))))))
 rintro _ aK ⟨aD, aF, aG, aH, aI, al, ae, rfl, au, av, aw, ax⟩
 refine Za rfl rfl (Exec.build rfl (parts_cons (c := [Vi (0)]) (cells_of rfl rfl) parts_nil) (v := Value.agg #[Vi (0), Vi (0)]) (fun _ => by kernel_rfl) (Za rfl rfl (Exec.build rfl (parts_cons (c := [Vi (1)]) (cells_of rfl rfl) (parts_cons (c := [Vi (1)]) (cells_of rfl rfl) parts_nil)) (v := Value.agg #[Vi (1), Vi (1)]) (fun _ => by kernel_rfl) (Za rfl rfl (Exec.buildSlice (Te := 64) (cs := [Vi (0), Vi (0), Vi (1), Vi (1)]) ae rfl (parts_cons (c := [Vi (0), Vi (0)]) (cells_of rfl rfl) (parts_cons (c := [Vi (1), Vi (1)]) (cells_of rfl rfl) parts_nil)) (fun _ => by kernel_rfl) ?_)))))
 intro a1 aL af
 have ag := St.boxArr (E := encLaunch) (xs := [(⟨0, 0⟩ : Launch), (⟨1, 1⟩ : Launch)]) af ⟨[Vi (0), Vi (0)], [Vi (1), Vi (1)], rfl, ⟨[Vi (0)], [Vi (0)], rfl, rfl, rfl⟩, ⟨[Vi (1), Vi (1)], [], rfl, ⟨[Vi (1)], [Vi (1)], rfl, rfl, rfl⟩, rfl⟩⟩ (by simp [maxLen])
 obtain ⟨aE, m, ah, ay⟩ := ag.freezeArr
 obtain ⟨a0, ap, hm⟩ := Zg hm
 obtain ⟨o, u⟩ := a0
 replace hm := un2_eq hm
 refine Za rfl rfl (Tc rfl rfl rfl (Zi rfl (Zi rfl args_nil)) (simulate_Run_sim ap ah (au.mono m) (av.mono m) (aw.mono m) (ax.mono m) ay).r ?_)
 rintro _ aM ⟨l, p, q, t, am, ai, rfl, y, z, x⟩
 refine Za rfl rfl (Zm (v := Value.tuple #[Value.agg #[p, q, t, Vi (u.Makespan)], errV 77 (o)]) rfl rfl (Za rfl rfl (Exec.extract (v := Value.agg #[p, q, t, Vi (u.Makespan)]) rfl rfl rfl (Za rfl rfl (Exec.extract (v := errV 77 (o)) rfl rfl rfl (Za rfl rfl (Exec.alloc (cs := [Value.slice none 0 0, Value.slice none 0 0, Value.slice none 0 0, Vi (0)]) ai Z34 rfl rfl ?_)))))))
 intro a2 aN aj
 refine Za rfl rfl (Exec.store_box (ds := [p, q, t, Vi (u.Makespan)]) (es := [p, q, t, Vi (u.Makespan)]) aj A34 rfl rfl rfl rfl (Zj (y).one (Zj (z).one (Zj (x).one (Zj rfl one_nil)))) (Nat.le_of_ble_eq_true rfl) rfl ?_)
 intro aO b
 refine Za rfl rfl (Zo (v := errV 77 (o)) rfl rfl (Zb (Ze (Zc ?_))))
 obtain ⟨j, a, hm⟩ := Zg hm
 refine W_mid (M := fun f' w' => (fun (j : Bool) => ∃ (ab : PHeap) , PHeap.le l ab ∧ St w0 ab (H) w' ∧ f' 0 = Value.bool (j)) j) ?_ ?_
 ·refine Zd (Za rfl rfl (Zm (v := errV 77 (o)) rfl rfl (Za rfl rfl (Exec.err_eql_nil (T := 77) Tryz.underlying36 rfl rfl rfl (Za rfl rfl (Zm (v := Value.bool (o.isNone)) rfl rfl ?_))))))
  rcases ite_some a with ⟨k, a⟩ | ⟨k, a⟩
  ·refine WL_run rfl (Zf rfl (Zx k)) rfl (Zp F34_3 rfl rfl rfl (WL_run rfl (Zf rfl (Zx k)) rfl (Zn (b) A3 rfl rfl rfl (WL_run rfl (Zf rfl (Zx k)) rfl (Exec.eql rfl rfl rfl ?_)))))
   refine WL_passes 2 (by rw [k]; rfl) ?_
   rcases ite_some a with ⟨g, a⟩ | ⟨g, a⟩
   ·refine WL_run rfl (Zf rfl (Zx g)) rfl (Zp F34_0 rfl rfl rfl (WL_run rfl (Zf rfl (Zx g)) rfl (Zn (b) A30 rfl rfl rfl (WL_run rfl (Zf rfl (Zx g)) rfl (Zr S30 rfl rfl y (WL_run rfl (Zf rfl (Zx g)) rfl (Exec.eql rfl rfl rfl ?_)))))))
    refine WL_passes 2 (by rw [g]; rfl) ?_
    rcases ite_some a with ⟨h, a⟩ | ⟨h, a⟩
    ·refine WL_run rfl (Zf rfl (Zx h)) rfl (Zp F34_1 rfl rfl rfl (WL_run rfl (Zf rfl (Zx h)) rfl (Zn (b) A31 rfl rfl rfl (WL_run rfl (Zf rfl (Zx h)) rfl (Zr S31 rfl rfl z (WL_run rfl (Zf rfl (Zx h)) rfl (Exec.eql rfl rfl rfl ?_)))))))
     refine WL_passes 2 (by rw [h]; rfl) ?_
     rcases ite_some a with ⟨i, a⟩ | ⟨i, a⟩
     ·refine WL_run rfl (Zf rfl (Zx i)) rfl (Zp F34_2 rfl rfl rfl (WL_run rfl (Zf rfl (Zx i)) rfl (Zn (b) A32 rfl rfl rfl (WL_run rfl (Zf rfl (Zx i)) rfl (Zr S32 rfl rfl x (WL_run rfl (Zf rfl (Zx i)) rfl (Exec.eql rfl rfl rfl ?_)))))))
      refine WL_passes 2 (by rw [i]; rfl) ?_
      rcases ite_some a with ⟨d, a⟩ | ⟨d, a⟩
      ·refine WL_run rfl (Zf rfl (Zx d)) rfl (Zp F34_2 rfl rfl rfl (WL_run rfl (Zf rfl (Zx d)) rfl (Zn (b) A32 rfl rfl rfl ?_)))
       obtain ⟨n, aq, a⟩ := Zg a
       refine WL_run rfl (Zf rfl (Zx d)) rfl (Exec.index_rep S32 rfl rfl rfl x aq ?_)
       intro a3 aC ac
       refine WL_run rfl (Zf rfl (Zx d)) rfl (Zw (E := encsimulate_Problem) b A52 rfl rfl rfl ac ?_)
       intro aJ ar
       obtain rfl := encsimulate_Problem_val.1 ar
       refine WL_run rfl (Zf rfl (Zx d)) rfl (Exec.build rfl (parts_cons (c := [Vi (1)]) (cells_of rfl rfl) (parts_cons (c := [Vi (16)]) (cells_of rfl rfl) (parts_cons (c := [Vi (0)]) (cells_of rfl rfl) (parts_cons (c := [Vi ((-1))]) (cells_of rfl rfl) (parts_cons (c := [Vi (0)]) (cells_of rfl rfl) parts_nil))))) (v := Value.agg #[Vi (1), Vi (16), Vi (0), Vi ((-1)), Vi (0)]) (fun _ => by kernel_rfl) (WL_run rfl (Zf rfl (Zx d)) rfl (Exec.ints_eql (xs := [n.At, n.Kind, n.Launch, n.Other, n.Var]) (ys := [1, 16, 0, (-1), 0]) IS52 rfl rfl rfl rfl rfl rfl rfl ?_)))
       refine WL_passes 2 (by rw [d]; rfl) ?_
       refine Zb (Ze ?_)
       have a4 := Zu a
       subst j
       exact ⟨l, (Zv _), (b).drop, rfl⟩
      replace d := Zk d
      refine WL_passes 8 (by rw [d]; rfl) ?_
      refine Zb (Ze ?_)
      have a5 := Zu a
      subst j
      exact ⟨l, (Zv _), (b).drop, rfl⟩
     replace i := Zk i
     refine WL_passes 14 (by rw [i]; rfl) ?_
     refine Zb (Ze ?_)
     have a6 := Zu a
     subst j
     exact ⟨l, (Zv _), (b).drop, rfl⟩
    replace h := Zk h
    refine WL_passes 20 (by rw [h]; rfl) ?_
    refine Zb (Ze ?_)
    have a7 := Zu a
    subst j
    exact ⟨l, (Zv _), (b).drop, rfl⟩
   replace g := Zk g
   refine WL_passes 26 (by rw [g]; rfl) ?_
   refine Zb (Ze ?_)
   have a8 := Zu a
   subst j
   exact ⟨l, (Zv _), (b).drop, rfl⟩
  replace k := Zk k
  refine WL_passes 31 (by rw [k]; rfl) ?_
  refine Zb (Ze ?_)
  have a9 := Zu a
  subst j
  exact ⟨l, (Zv _), (b).drop, rfl⟩
 intro aB aP ad
 obtain ⟨az, an, ak, ao⟩ := ad
 refine (Ze (W_ret ?_))
 have aA := Zu hm
 subst r
 refine ⟨_, ret1 rfl, ?_⟩
 exact ⟨az, (Zt (Zt (Zt al m) am) an), ak, ao⟩
theorem law58_few_sim {w0 w : World} {s : PHeap} {H : List Res} {b : Temporal} {u : (List Launch)} {y : Value} {z : Value} {aa : Value} {n : Value} {ah : Value} {r : Bool} (hm : law58_few_p b u = some r) (hS : St w0 s (H) w) (aB : SliceRep (encInt .i64) s y b.Vars) (bj : SliceRep (encInt .i64) s z b.Init) (aC : SliceRep encFact s aa b.Goal) (t : SliceRep encJob s n b.Jobs) (aD : SliceRep encLaunch s ah u) :
  Calls Tryz.prog 6 #[Value.agg #[y, z, aa, n], ah] w fun e w' => ∃ v, e = .returned v ∧ ((fun (bi : Bool) => ∃ (a0 : PHeap) , PHeap.le s a0 ∧ St w0 a0 (H) w' ∧ v = Value.bool (bi)) r) := by
 unfold law58_few_p at hm
 refine calls_of_W Tryz.func6 rfl rfl (Zc (Zd (Za rfl rfl (Exec.box (cs := [y, z, aa, n]) hS rfl rfl rfl ?_))))
 intro ai b4 l
 refine Za rfl rfl (Zo (v := Value.bool (false)) rfl rfl (Zb (Ze (Zc (Zc (W_mid (M := fun f' w' => ∃ (a1 : PHeap) , PHeap.le s a1 ∧ St w0 a1 (Res.box ai 26 [y, z, aa, n] :: H) w' ∧ f' 2 = Value.pointer (some ⟨ai, 0, none⟩) ∧ f' 27 = Value.bool (((decide (70 < (b.Vars.length : Int))) || ((decide (30 < (b.Jobs.length : Int))) || ((decide (20 < (u.length : Int))) || decide (80 < (b.Goal.length : Int))))))) ?_ ?_))))))
 ·refine Zd (Za rfl rfl (Zp F26_0 rfl rfl rfl (Za rfl rfl (Zn (l) A22 rfl rfl rfl (Za rfl rfl (Zr S22 rfl rfl aB (Za rfl rfl (Exec.gtr rfl rfl rfl (Za rfl rfl (Zm (v := Value.bool (decide (70 < (b.Vars.length : Int)))) rfl rfl ?_))))))))))
  by_cases c : (decide (70 < (b.Vars.length : Int))) = true
  ·refine WL_passes 16 (by rw [c]; rfl) ?_
   refine Zb (Ze ?_)
   exact ⟨s, (Zv _), l, rfl, (Zx (or_t c)).symm⟩
  replace c := Zk c
  refine WL_run rfl (Zf rfl (Zx c)) rfl (Zp F26_3 rfl rfl rfl (WL_run rfl (Zf rfl (Zx c)) rfl (Zn (l) A24 rfl rfl rfl (WL_run rfl (Zf rfl (Zx c)) rfl (Zr S24 rfl rfl t (WL_run rfl (Zf rfl (Zx c)) rfl (Exec.gtr rfl rfl rfl ?_)))))))
  refine WL_passes 2 (by rw [c]; rfl) ?_
  by_cases d : (decide (30 < (b.Jobs.length : Int))) = true
  ·refine WL_passes 10 (by rw [d]; rfl) ?_
   refine Zb (Ze ?_)
   exact ⟨s, (Zv _), l, rfl, (Zx (Eq.trans (or_f c) (or_t d))).symm⟩
  replace d := Zk d
  refine WL_run rfl (Zf rfl (Zx d)) rfl (Zm (v := ah) rfl rfl (WL_run rfl (Zf rfl (Zx d)) rfl (Zr S27 rfl rfl aD (WL_run rfl (Zf rfl (Zx d)) rfl (Exec.gtr rfl rfl rfl ?_)))))
  refine WL_passes 2 (by rw [d]; rfl) ?_
  by_cases g : (decide (20 < (u.length : Int))) = true
  ·refine WL_passes 5 (by rw [g]; rfl) ?_
   refine Zb (Ze ?_)
   exact ⟨s, (Zv _), l, rfl, (Zx (Eq.trans (or_f c) (Eq.trans (or_f d) (or_t g)))).symm⟩
  replace g := Zk g
  refine WL_run rfl (Zf rfl (Zx g)) rfl (Zp F26_2 rfl rfl rfl (WL_run rfl (Zf rfl (Zx g)) rfl (Zn (l) A23 rfl rfl rfl (WL_run rfl (Zf rfl (Zx g)) rfl (Zr S23 rfl rfl aC (WL_run rfl (Zf rfl (Zx g)) rfl (Exec.gtr rfl rfl rfl (Za rfl rfl (Exec.pick_f (v := Value.bool (decide (80 < (b.Goal.length : Int)))) rfl (Zx g) rfl (Zb (Ze ?_)))))))))))
  exact ⟨s, (Zv _), l, rfl, (Zx (Eq.trans (or_f c) (Eq.trans (or_f d) (or_f g)))).symm⟩
 intro br b5 aI
 obtain ⟨x, o, ac, aY, aq⟩ := aI
 refine (Ze ?_)
 rcases ite_some hm with ⟨p, hm⟩ | ⟨p, hm⟩
 ·refine W_cond_t aq p (Zc (Zd (Za rfl rfl (Zo (v := Value.bool (false)) rfl rfl (Zb (Ze (W_ret (at_ret ?_))))))))
  have bm := Zu hm
  subst r
  refine ⟨_, ret1 rfl, ?_⟩
  exact ⟨x, o, (ac).drop, rfl⟩
 refine W_cond_f aq p ?_
 replace p := Zk p
 refine W_skip (Ze (Zc (Zc (Zd (Za rfl rfl (Zp F26_3 rfl aY rfl (Za rfl rfl (Zn (ac) A24 rfl rfl rfl (Za rfl rfl (Zr S24 rfl rfl (t.mono o) (Za rfl rfl (Zm (v := Vi (0)) rfl rfl (Zb (Ze ?_))))))))))))))
 obtain ⟨aj, aF, aT, aR, aP⟩ := ctl_some hm
 refine W_mid (M := fun f' w' => ∃ s', (aj = .next s' ∨ aj = .brk s') ∧ (fun (_ : Unit) => ∃ (a2 : PHeap) , PHeap.le x a2 ∧ St w0 a2 (H) w' ∧ f' 29 = n ∧ f' 30 = Vi ((b.Jobs.length : Int))) s') ?_ ?_
 ·refine W_block (W_forC (fun k' s' f' w' => (fun (_ : Unit) => ∃ (a3 : PHeap) , PHeap.le x a3 ∧ St w0 a3 (H) w' ∧ f' 29 = n ∧ f' 30 = Vi ((b.Jobs.length : Int)) ∧ f' 31 = Vi (k' : Int)) s') aF ?_ ?_ ?_)
  ·have aL := (ac).drop
   exact ⟨x, (Zv _), aL, rfl, rfl, rfl⟩
  ·intro ao b0 ak bs b6 aQ aG m aU
   obtain ⟨ag, ad, al, ae, af, ab⟩ := aG
   refine Zc (Zd (Za rfl rfl (Zq rfl ab af (Zb (Ze (Zc (W_true (Zx (decide_eq_true (by omega))) (W_skip (Ze (Zc (W_block (Zc (Zd ?_)))))))))))))
   obtain ⟨a, bd, m⟩ := Zg m
   refine Za rfl rfl (Exec.index_rep S24 rfl ae ab (t.mono (Zt o ad)) bd ?_)
   intro bk bw aE
   refine Za rfl rfl (Zw (E := encJob) al A59 rfl rfl rfl aE ?_)
   intro b3 be
   obtain ⟨a6, a7, a8, a9, aA, rfl, av, aw, ax, ay, az⟩ := encJob_val.1 be
   refine Za rfl rfl (Exec.alloc (cs := [Value.string (⟨#[]⟩), Vi (0), Value.slice none 0 0, Value.slice none 0 0, Value.slice none 0 0, Value.slice none 0 0, Value.slice none 0 0]) al Z59 rfl rfl ?_)
   intro bl b7 aM
   refine Za rfl rfl (Exec.store_box (ds := [Value.string (a.Name), Vi (a.Duration), a6, a7, a8, a9, aA]) (es := [Value.string (a.Name), Vi (a.Duration), a6, a7, a8, a9, aA]) aM A59 rfl rfl rfl rfl (Zj rfl (Zj rfl (Zj (av).one (Zj (aw).one (Zj (ax).one (Zj (ay).one (Zj (az).one one_nil))))))) (Nat.le_of_ble_eq_true rfl) rfl ?_)
   intro b8 j
   refine Zb (Ze (Zc (W_mid (M := fun f' w' => ∃ (a4 : PHeap) , PHeap.le ag a4 ∧ St w0 a4 (H) w' ∧ f' 29 = n ∧ f' 30 = Vi ((b.Jobs.length : Int)) ∧ f' 31 = Vi ((ao : Int)) ∧ f' 60 = Value.bool (((decide (100 < (IntKind.i64.wrap ((IntKind.i64.wrap ((IntKind.i64.wrap ((IntKind.i64.wrap ((a.Start.length : Int) + (a.Over.length : Int))) + (a.End.length : Int))) + (a.AtStart.length : Int))) + (a.AtEnd.length : Int))))) || decide (300 < (a.Name.size : Int))))) ?_ ?_)))
   ·refine Zd (Za rfl rfl (Zp F59_2 rfl rfl rfl (Za rfl rfl (Zn (j) A23 rfl rfl rfl (Za rfl rfl (Zr S23 rfl rfl av (Za rfl rfl (Zp F59_3 rfl rfl rfl (Za rfl rfl (Zn (j) A23 rfl rfl rfl (Za rfl rfl (Zr S23 rfl rfl aw (Za rfl rfl (Exec.add rfl rfl rfl (Za rfl rfl (Zp F59_4 rfl rfl rfl (Za rfl rfl (Zn (j) A23 rfl rfl rfl (Za rfl rfl (Zr S23 rfl rfl ax (Za rfl rfl (Exec.add rfl rfl rfl (Za rfl rfl (Zp F59_5 rfl rfl rfl (Za rfl rfl (Zn (j) A23 rfl rfl rfl (Za rfl rfl (Zr S23 rfl rfl ay (Za rfl rfl (Exec.add rfl rfl rfl (Za rfl rfl (Zp F59_6 rfl rfl rfl (Za rfl rfl (Zn (j) A23 rfl rfl rfl (Za rfl rfl (Zr S23 rfl rfl az (Za rfl rfl (Exec.add rfl rfl rfl (Za rfl rfl (Exec.gtr rfl rfl rfl (Za rfl rfl (Zm (v := Value.bool (decide (100 < (IntKind.i64.wrap ((IntKind.i64.wrap ((IntKind.i64.wrap ((IntKind.i64.wrap ((a.Start.length : Int) + (a.Over.length : Int))) + (a.End.length : Int))) + (a.AtStart.length : Int))) + (a.AtEnd.length : Int)))))) rfl rfl ?_))))))))))))))))))))))))))))))))))))))))))
    by_cases i : (decide (100 < (IntKind.i64.wrap ((IntKind.i64.wrap ((IntKind.i64.wrap ((IntKind.i64.wrap ((a.Start.length : Int) + (a.Over.length : Int))) + (a.End.length : Int))) + (a.AtStart.length : Int))) + (a.AtEnd.length : Int))))) = true
    ·refine WL_passes 5 (by rw [i]; rfl) ?_
     refine Zb (Ze ?_)
     exact ⟨ag, (Zv _), (j).drop, ae, af, ab, (Zx (or_t i)).symm⟩
    replace i := Zk i
    refine WL_run rfl (Zf rfl (Zx i)) rfl (Zp F59_0 rfl rfl rfl (WL_run rfl (Zf rfl (Zx i)) rfl (Zn (j) A9 rfl rfl rfl (WL_run rfl (Zf rfl (Zx i)) rfl (Exec.len_str Tryz.underlying9 rfl rfl (WL_run rfl (Zf rfl (Zx i)) rfl (Exec.gtr rfl rfl rfl (Za rfl rfl (Exec.pick_f (v := Value.bool (decide (300 < (a.Name.size : Int)))) rfl (Zx i) rfl (Zb (Ze ?_)))))))))))
    exact ⟨ag, (Zv _), (j).drop, ae, af, ab, (Zx (or_f i)).symm⟩
   intro bt b9 aJ
   obtain ⟨a5, ap, am, aZ, ba, bb, ar⟩ := aJ
   refine (Ze ?_)
   rcases ite_some m with ⟨q, m⟩ | ⟨q, m⟩
   ·refine W_cond_t ar q (Zc (Zd (Za rfl rfl (Zo (v := Value.bool (false)) rfl rfl (Zb (Ze (W_ret (ib_ret (at_ret (at_ret (ib_ret (at_ret (at_ret ?_)))))))))))))
    have bn := Zu m
    subst ak
    have aS := aT _ (aU (by intro _ h; cases h))
    have bo := Zu aS
    subst r
    refine ⟨_, ret1 rfl, ?_⟩
    exact ⟨a5, (Zt (Zt o ad) ap), am, rfl⟩
   refine W_cond_f ar q ?_
   replace q := Zk q
   refine W_skip (ib_normal (Ze (Zd (Za rfl rfl (Exec.add rfl bb rfl (Za rfl rfl (Zm (v := Vi (IntKind.i64.wrap ((ao : Int) + 1))) rfl rfl (Zb (Ze ?_)))))))))
   have bp := Zu m
   subst ak
   refine ⟨_, rfl, ?_⟩; exact ⟨a5, (Zt ad ap), am, aZ, ba, (Eq.trans rfl (wrap_up aQ (SliceRep.le (t.mono o))))⟩
  intro b1 bu bA aH aV
  obtain ⟨bf, aW, aN, bc, au, bh⟩ := aH
  refine Zc (Zd (Za rfl rfl (Zq rfl bh au (Zb (Ze (Zc (W_false (Zx (decide_eq_false (by omega))) (W_exit (at_exit (at_exit (ib_here (Ze ?_))))))))))))
  refine ⟨_, .inl aV, ?_⟩; exact ⟨bf, aW, aN, bc, au⟩
 rintro bv bB ⟨b2, an, aK⟩
 have hm := an.elim (aR _) (aP _)
 clear an
 obtain ⟨bg, aX, aO, bx, bz⟩ := aK
 refine (Ze (Zc (Zd (Za rfl rfl (Zo (v := Value.bool (true)) rfl rfl (Zb (Ze (W_ret ?_))))))))
 have bq := Zu hm
 subst r
 refine ⟨_, ret1 rfl, ?_⟩
 exact ⟨bg, (Zt o aX), aO, rfl⟩
theorem ref55_lists_sim {w0 w : World} {s : PHeap} {H : List Res} {h : Temporal} {ac : Value} {ad : Value} {m : Value} {p : Value} {r : (List (List Fact))} (hm : ref55_lists_p h = some r) (hS : St w0 s (H) w) (aI : SliceRep (encInt .i64) s ac h.Vars) (aJ : SliceRep (encInt .i64) s ad h.Init) (af : SliceRep encFact s m h.Goal) (q : SliceRep encJob s p h.Jobs) :
  Calls Tryz.prog 22 #[Value.agg #[ac, ad, m, p]] w fun e w' => ∃ v, e = .returned v ∧ ((fun (aH : (List (List Fact))) => ∃ (ab : PHeap) (ao : Value), PHeap.le s ab ∧ St w0 ab (H) w' ∧ v = ao ∧ SliceRep (encSlice encFact) ab ao aH) r) := by
 unfold ref55_lists_p at hm
 refine calls_of_W Tryz.func22 rfl rfl (Zc (Zd (Za rfl rfl (Exec.box (cs := [ac, ad, m, p]) hS rfl rfl rfl ?_))))
 intro aK aX ah
 refine Za rfl rfl (Zo (v := Value.slice none 0 0) rfl rfl (Zb (Ze (Zc (Zd (Za rfl rfl (Zp F26_2 rfl rfl rfl (Za rfl rfl (Zn (ah) A23 rfl rfl rfl (Za rfl rfl (Exec.buildSlice (Te := 23) (cs := [m]) ah rfl (parts_cons (c := [m]) (cells_of rfl (cells_one (af).one)) parts_nil) (fun _ => by kernel_rfl) ?_)))))))))))
 intro ag aY ai
 refine Za rfl rfl (Zo (v := Value.slice (some ⟨ag, 0, none⟩) 1 1) rfl rfl (Zb (Ze (Zc (Zc (Zd (Za rfl rfl (Zp F26_3 rfl rfl rfl (Za rfl rfl (Zn ((ai).f1) A24 rfl rfl rfl (Za rfl rfl (Zr S24 rfl rfl q (Za rfl rfl (Zm (v := Vi (0)) rfl rfl (Zb (Ze ?_))))))))))))))))
 obtain ⟨t, ar, hm⟩ := Zg hm
 refine W_block (W_forS (fun k' s' f' w' => (fun (t : (List (List Fact))) => ∃ (an : PHeap) (g : Value), PHeap.le s an ∧ St w0 an (Res.arr (encSlice encFact) 23 g t :: H) w' ∧ f' 3 = g ∧ f' 10 = p ∧ f' 11 = Vi ((h.Jobs.length : Int)) ∧ f' 12 = Vi (k' : Int)) s') ar ?_ ?_ ?_)
 ·have aw := St.boxArr (E := (encSlice encFact)) (xs := [h.Goal]) ai ⟨[m], [], rfl, ⟨_, rfl, af⟩, rfl⟩ (by simp [maxLen])
  exact ⟨s, (Value.slice (some ⟨ag, 0, none⟩) 1 1), (Zv _), ((aw).f1).drop, rfl, rfl, rfl, rfl⟩
 ·intro a3 t aD aQ aZ a2 au n
  obtain ⟨aE, g, ak, aj, a6, al, am, ae⟩ := au
  refine Zc (Zd (Za rfl rfl (Zq rfl ae am (Zb (Ze (Zc (W_true (Zx (decide_eq_true (by omega))) (W_skip (Ze (Zc (W_block (Zc (Zd ?_)))))))))))))
  obtain ⟨b, a9, n⟩ := Zg n
  refine Za rfl rfl (Exec.index_rep S24 rfl al ae (q.mono ak) a9 ?_)
  intro aL aT aq
  refine Za rfl rfl (Zw (E := encJob) aj A59 rfl rfl rfl aq ?_)
  intro aW aA
  obtain ⟨o, l, i, d, a, rfl, u, x, y, z, aa⟩ := encJob_val.1 aA
  refine Za rfl rfl (Exec.alloc (cs := [Value.string (⟨#[]⟩), Vi (0), Value.slice none 0 0, Value.slice none 0 0, Value.slice none 0 0, Value.slice none 0 0, Value.slice none 0 0]) aj Z59 rfl rfl ?_)
  intro aM ba ax
  refine Za rfl rfl (Exec.store_box (ds := [Value.string (b.Name), Vi (b.Duration), o, l, i, d, a]) (es := [Value.string (b.Name), Vi (b.Duration), o, l, i, d, a]) ax A59 rfl rfl rfl rfl (Zj rfl (Zj rfl (Zj (u).one (Zj (x).one (Zj (y).one (Zj (z).one (Zj (aa).one one_nil))))))) (Nat.le_of_ble_eq_true rfl) rfl ?_)
  intro bb j
  refine Zb (Ze (Zd (Za rfl rfl (Zm (v := g) rfl a6 (Za rfl rfl (Zp F59_2 rfl rfl rfl (Za rfl rfl (Zn (j) A23 rfl rfl rfl (Za rfl rfl (Zp F59_3 rfl rfl rfl (Za rfl rfl (Zn (j) A23 rfl rfl rfl (Za rfl rfl (Zp F59_4 rfl rfl rfl (Za rfl rfl (Zn (j) A23 rfl rfl rfl (Za rfl rfl (Zp F59_5 rfl rfl rfl (Za rfl rfl (Zn (j) A23 rfl rfl rfl (Za rfl rfl (Zp F59_6 rfl rfl rfl (Za rfl rfl (Zn (j) A23 rfl rfl rfl (Za rfl rfl (Exec.buildSlice (Te := 23) (cs := [o, l, i, d, a]) j rfl (parts_cons (c := [o]) (cells_of rfl (cells_one (u).one)) (parts_cons (c := [l]) (cells_of rfl (cells_one (x).one)) (parts_cons (c := [i]) (cells_of rfl (cells_one (y).one)) (parts_cons (c := [d]) (cells_of rfl (cells_one (z).one)) (parts_cons (c := [a]) (cells_of rfl (cells_one (aa).one)) parts_nil))))) (fun _ => by kernel_rfl) ?_))))))))))))))))))))))))))
  intro aN bc ay
  obtain ⟨aS, aB, n⟩ := Zg n
  refine Za rfl rfl (Exec.append_box (E := (encSlice encFact)) (ys := [b.Start, b.Over, b.End, b.AtStart, b.AtEnd]) (ay).f2 S78 Z23 rfl (by decide) rfl rfl rfl rfl ⟨[o], [l, i, d, a], rfl, ⟨_, rfl, u⟩, ⟨[l], [i, d, a], rfl, ⟨_, rfl, x⟩, ⟨[i], [d, a], rfl, ⟨_, rfl, y⟩, ⟨[d], [a], rfl, ⟨_, rfl, z⟩, ⟨[a], [], rfl, ⟨_, rfl, aa⟩, rfl⟩⟩⟩⟩⟩ rfl aB ?_)
  intro ap bd az
  refine Za rfl rfl (Zo (v := ap) rfl rfl (Zb (ib_normal (Ze (Zd (Za rfl rfl (Exec.add rfl ae rfl (Za rfl rfl (Zm (v := Vi (IntKind.i64.wrap ((a3 : Int) + 1))) rfl rfl (Zb (Ze ?_)))))))))))
  have aO := Zu n
  subst aD
  exact ⟨aE, ap, ak, ((az).f1).drop, rfl, al, am, (Eq.trans rfl (wrap_up a2 (SliceRep.le q)))⟩
 intro aR be av
 obtain ⟨aV, g, a4, a0, a7, aU, a8, aG⟩ := av
 refine Zc (Zd (Za rfl rfl (Zq rfl aG a8 (Zb (Ze (Zc (W_false (Zx (decide_eq_false (by omega))) (W_exit (at_exit (at_exit (ib_here (Ze (Zc (Zd (Za rfl rfl (Zm (v := g) rfl a7 (Za rfl rfl (Zo (v := g) rfl rfl (Zb (Ze (W_ret ?_)))))))))))))))))))))
 have aP := Zu hm
 subst r
 refine ⟨_, ret1 rfl, ?_⟩
 obtain ⟨aF, a5, a1, aC⟩ := a0.freezeArr
 exact ⟨aF, g, (Zt a4 a5), a1, rfl, aC⟩
theorem base_State_sim {w0 w : World} {s : PHeap} {H : List Res} {ao : (List Int)} {p : (List Int)} {i : Value} {c : Value} {r : Bool} (hm : base_State_p ao p = some r) (hS : St w0 s (H) w) (aa : SliceRep (encInt .i64) s i ao) (j : SliceRep (encInt .i64) s c p) :
  Calls Tryz.prog 23 #[i, c] w fun e w' => ∃ v, e = .returned v ∧ ((fun (aP : Bool) => ∃ (aj : PHeap) , PHeap.le s aj ∧ St w0 aj (H) w' ∧ v = Value.bool (aP)) r) := by
 unfold base_State_p at hm
 refine calls_of_W Tryz.func23 rfl rfl (Zc (Zd (Za rfl rfl (Zo (v := Value.bool (false)) rfl rfl (Zb (Ze (Zc (Zc (Zd (Za rfl rfl (Zm (v := c) rfl rfl (Za rfl rfl (Zr S22 rfl rfl j (Za rfl rfl (Zm (v := i) rfl rfl (Za rfl rfl (Zr S22 rfl rfl aa (Za rfl rfl (Exec.neq rfl rfl rfl (Zb (Ze ?_)))))))))))))))))))))
 rcases ite_some hm with ⟨m, hm⟩ | ⟨m, hm⟩
 ·refine W_cond_t rfl m (Zc (Zd (Za rfl rfl (Zo (v := Value.bool (false)) rfl rfl (Zb (Ze (W_ret (at_ret ?_))))))))
  have aT := Zu hm
  subst r
  refine ⟨_, ret1 rfl, ?_⟩
  exact ⟨s, (Zv _), hS, rfl⟩
 refine W_cond_f rfl m ?_
 replace m := Zk m
 refine W_skip (Ze (Zc (Zc (Zd (Za rfl rfl (Zm (v := c) rfl rfl (Za rfl rfl (Zr S22 rfl rfl j (Za rfl rfl (Zm (v := Vi (0)) rfl rfl (Zb (Ze ?_))))))))))))
 obtain ⟨ab, av, a6, a4, a2⟩ := ctl_some hm
 refine W_mid (M := fun f' w' => ∃ s', (ab = .next s' ∨ ab = .brk s') ∧ (fun (_ : Unit) => ∃ (ak : PHeap) , PHeap.le s ak ∧ St w0 ak (H) w' ∧ f' 0 = i ∧ f' 1 = c ∧ f' 12 = Vi ((p.length : Int))) s') ?_ ?_
 ·refine W_block (W_forC (fun k' s' f' w' => (fun (_ : Unit) => ∃ (al : PHeap) , PHeap.le s al ∧ St w0 al (H) w' ∧ f' 0 = i ∧ f' 1 = c ∧ f' 12 = Vi ((p.length : Int)) ∧ f' 13 = Vi (k' : Int)) s') av ?_ ?_ ?_)
  ·exact ⟨s, (Zv _), hS, rfl, rfl, rfl, rfl⟩
  ·intro g bn ac bd bt a3 aw d a7
   obtain ⟨z, o, l, x, t, y, u⟩ := aw
   refine Zc (Zd (Za rfl rfl (Zq rfl u y (Zb (Ze (Zc (W_true (Zx (decide_eq_true (by omega))) (W_skip (Ze (Zc (W_block (Zc (Zd (Za rfl rfl (Zm (v := Vi ((g : Int))) rfl u (Za rfl rfl (Zo (v := Vi ((g : Int))) rfl rfl (Zb (Ze (Zc ?_))))))))))))))))))))
   obtain ⟨q, b, d⟩ := Zg d
   refine W_mid (M := fun f' w' => (fun (q : Bool) => ∃ (am : PHeap) , PHeap.le z am ∧ St w0 am (H) w' ∧ f' 0 = i ∧ f' 1 = c ∧ f' 12 = Vi ((p.length : Int)) ∧ f' 13 = Vi ((g : Int)) ∧ f' 31 = Value.bool (q)) q) ?_ ?_
   ·refine W_dl (n0 := 16) (qs 0 16 .done) hmix (by kernel_rfl) (by kernel_rfl) (DL_q rfl rfl (Zm (v := c) rfl t ⟨rfl, ?_⟩))
    refine DL_q rfl rfl (Zm (v := Vi ((g : Int))) rfl rfl ⟨rfl, ?_⟩)
    obtain ⟨ap, ai, b⟩ := Zg b
    refine DL_q rfl rfl (Exec.index_repE S22 rfl rfl rfl (j.mono o) ai ?_)
    intro aQ bh aq aU
    refine ⟨rfl, ?_⟩
    refine DL_q rfl rfl (Zw (E := (encInt .i64)) l.drew A3 rfl rfl rfl aq ?_)
    intro bq aH
    obtain rfl := encInt_val.1 aH
    refine ⟨rfl, ?_⟩
    refine DL_q rfl rfl (Zq rfl rfl rfl ⟨rfl, ?_⟩)
    refine DL_q rfl rfl (Zm (v := Value.bool (decide (ap < 0))) rfl rfl ⟨rfl, ?_⟩)
    rcases ite_some b with ⟨a, b⟩ | ⟨a, b⟩
    ·refine DL_passes 10 (by rw [a]; rfl) ?_
     refine DL_done (Zb (Ze ?_))
     have aV := Zu b
     subst q
     exact ⟨z, (Zv _), l.drew, x, t, y, u, rfl⟩
    replace a := Zk a
    refine DL_qg rfl rfl (Zf rfl (Zx a)) (Zm (v := c) rfl t ⟨rfl, ?_⟩)
    refine DL_qg rfl rfl (Zf rfl (Zx a)) (Zm (v := Vi ((g : Int))) rfl rfl ⟨rfl, ?_⟩)
    refine DL_qg rfl rfl (Zf rfl (Zx a)) (Exec.index_repE S22 rfl rfl rfl (j.mono o) ai ?_)
    intro aR bi ar aW
    refine ⟨rfl, ?_⟩
    refine DL_qg rfl rfl (Zf rfl (Zx a)) (Zw (E := (encInt .i64)) l.drew A3 rfl rfl rfl ar ?_)
    intro br aI
    obtain rfl := encInt_val.1 aI
    refine ⟨rfl, ?_⟩
    refine DL_qg rfl rfl (Zf rfl (Zx a)) (Zm (v := i) rfl x ⟨rfl, ?_⟩)
    refine DL_qg rfl rfl (Zf rfl (Zx a)) (Zm (v := Vi ((g : Int))) rfl rfl ⟨rfl, ?_⟩)
    obtain ⟨aN, aJ, b⟩ := Zg b
    refine DL_qg rfl rfl (Zf rfl (Zx a)) (Exec.index_repE S22 rfl rfl rfl (aa.mono o) aJ ?_)
    intro aS bj au aX
    refine ⟨rfl, ?_⟩
    refine DL_qg rfl rfl (Zf rfl (Zx a)) (Zw (E := (encInt .i64)) l.drew A3 rfl rfl rfl au ?_)
    intro bs aK
    obtain rfl := encInt_val.1 aK
    refine ⟨rfl, ?_⟩
    refine DL_qg rfl rfl (Zf rfl (Zx a)) (Exec.geq rfl rfl rfl ⟨rfl, ?_⟩)
    refine DL_q rfl rfl (Exec.pick_f (v := Value.bool (decide (aN ≤ ap))) rfl (Zx a) rfl ⟨rfl, ?_⟩)
    refine DL_done (Zb (Ze ?_))
    have aY := Zu b
    subst q
    exact ⟨z, (Zv _), l.drew, x, t, y, u, rfl⟩
   intro be bu ay
   obtain ⟨an, af, ad, aB, aC, aD, aE, ag⟩ := ay
   refine (Ze ?_)
   rcases ite_some d with ⟨n, d⟩ | ⟨n, d⟩
   ·refine W_cond_t ag n (Zc (Zd (Za rfl rfl (Zo (v := Value.bool (false)) rfl rfl (Zb (Ze (W_ret (ib_ret (at_ret (at_ret (ib_ret (at_ret (at_ret ?_)))))))))))))
    have aZ := Zu d
    subst ac
    have a5 := a6 _ (a7 (by intro _ h; cases h))
    have ba := Zu a5
    subst r
    refine ⟨_, ret1 rfl, ?_⟩
    exact ⟨an, (Zt o af), ad, rfl⟩
   refine W_cond_f ag n ?_
   replace n := Zk n
   refine W_skip (ib_normal (Ze (Zd (Za rfl rfl (Exec.add rfl aE rfl (Za rfl rfl (Zm (v := Vi (IntKind.i64.wrap ((g : Int) + 1))) rfl rfl (Zb (Ze ?_)))))))))
   have bb := Zu d
   subst ac
   refine ⟨_, rfl, ?_⟩; exact ⟨an, (Zt o af), ad, aB, aC, aD, (Eq.trans rfl (wrap_up a3 (SliceRep.le j)))⟩
  intro bo bf bv ax a8
  obtain ⟨aL, a9, a0, aF, aG, ah, aO⟩ := ax
  refine Zc (Zd (Za rfl rfl (Zq rfl aO ah (Zb (Ze (Zc (W_false (Zx (decide_eq_false (by omega))) (W_exit (at_exit (at_exit (ib_here (Ze ?_))))))))))))
  refine ⟨_, .inl a8, ?_⟩; exact ⟨aL, a9, a0, aF, aG, ah⟩
 rintro bg bw ⟨bp, ae, az⟩
 have hm := ae.elim (a4 _) (a2 _)
 clear ae
 obtain ⟨aM, aA, a1, bk, bl, bm⟩ := az
 refine (Ze (Zc (Zd (Za rfl rfl (Zo (v := Value.bool (true)) rfl rfl (Zb (Ze (W_ret ?_))))))))
 have bc := Zu hm
 subst r
 refine ⟨_, ret1 rfl, ?_⟩
 exact ⟨aM, aA, a1, rfl⟩
theorem base_Proper_sim {w0 w : World} {s : PHeap} {H : List Res} {af : (List Int)} {ac : (List Fact)} {aa : Value} {j : Value} {r : Bool} (hm : base_Proper_p af ac = some r) (hS : St w0 s (H) w) (ah : SliceRep (encInt .i64) s aa af) (ae : SliceRep encFact s j ac) :
  Calls Tryz.prog 24 #[aa, j] w fun e w' => ∃ v, e = .returned v ∧ ((fun (ba : Bool) => ∃ (aq : PHeap) , PHeap.le s aq ∧ St w0 aq (H) w' ∧ v = Value.bool (ba)) r) := by
 unfold base_Proper_p at hm
 refine calls_of_W Tryz.func24 rfl rfl (Zc (Zd (Za rfl rfl (Zo (v := Value.bool (false)) rfl rfl (Zb (Ze (Zc (Zc (Zd (Za rfl rfl (Zm (v := j) rfl rfl (Za rfl rfl (Zr S23 rfl rfl ae (Za rfl rfl (Zm (v := Vi (0)) rfl rfl (Zb (Ze ?_)))))))))))))))))
 obtain ⟨ai, a0, aD, aB, a9⟩ := ctl_some hm
 refine W_mid (M := fun f' w' => ∃ s', (ai = .next s' ∨ ai = .brk s') ∧ (fun (_ : Unit) => ∃ (ar : PHeap) , PHeap.le s ar ∧ St w0 ar (H) w' ∧ f' 0 = aa ∧ f' 1 = j ∧ f' 7 = j ∧ f' 8 = Vi ((ac.length : Int))) s') ?_ ?_
 ·refine W_block (W_forC (fun k' s' f' w' => (fun (_ : Unit) => ∃ (au : PHeap) , PHeap.le s au ∧ St w0 au (H) w' ∧ f' 0 = aa ∧ f' 1 = j ∧ f' 7 = j ∧ f' 8 = Vi ((ac.length : Int)) ∧ f' 9 = Vi (k' : Int)) s') a0 ?_ ?_ ?_)
  ·exact ⟨s, (Zv _), hS, rfl, rfl, rfl, rfl, rfl⟩
  ·intro t b3 aj br b8 aA a1 l aE
   obtain ⟨z, ab, ak, q, u, x, y, m⟩ := a1
   refine Zc (Zd (Za rfl rfl (Zq rfl m y (Zb (Ze (Zc (W_true (Zx (decide_eq_true (by omega))) (W_skip (Ze (Zc (W_block (Zc (Zd (Za rfl rfl (Zm (v := Vi ((t : Int))) rfl m ?_)))))))))))))))
   obtain ⟨n, aQ, l⟩ := Zg l
   refine Za rfl rfl (Exec.index_rep S23 rfl x m (ae.mono ab) aQ ?_)
   intro bb bv ax
   refine Za rfl rfl (Zw (E := encFact) ak A75 rfl rfl rfl ax ?_)
   intro b6 aR
   obtain rfl := encFact_val.1 aR
   refine Za rfl rfl (Exec.alloc (cs := [Vi (0), Vi (0)]) ak Z75 rfl rfl ?_)
   intro bc b9 a5
   refine Za rfl rfl (Zo (v := Vi ((t : Int))) rfl rfl (Za rfl rfl (Exec.store_box (ds := [Vi (n.Var), Vi (n.Val)]) (es := [Vi (n.Var), Vi (n.Val)]) a5 A75 rfl rfl rfl rfl (Zj rfl (Zj rfl one_nil)) (Nat.le_of_ble_eq_true rfl) rfl ?_)))
   intro bA a6
   refine Zb (Ze (Zc ?_))
   obtain ⟨o, a, l⟩ := Zg l
   refine W_mid (M := fun f' w' => (fun (o : Bool) => ∃ (av : PHeap) , PHeap.le z av ∧ St w0 av (H) w' ∧ f' 0 = aa ∧ f' 1 = j ∧ f' 7 = j ∧ f' 8 = Vi ((ac.length : Int)) ∧ f' 9 = Vi ((t : Int)) ∧ f' 53 = Value.bool (o)) o) ?_ ?_
   ·refine W_dl (n0 := 40) (qs 0 40 .done) hmix (by kernel_rfl) (by kernel_rfl) ?_
    have b := a6.drew
    refine DL_q rfl rfl (Zp F75_0 rfl rfl rfl ⟨rfl, ?_⟩)
    refine DL_q rfl rfl (Zn (b) A3 rfl rfl rfl ⟨rfl, ?_⟩)
    refine DL_q rfl rfl (Zq rfl rfl rfl ⟨rfl, ?_⟩)
    refine DL_q rfl rfl (Zm (v := Value.bool (decide (n.Var < 0))) rfl rfl ⟨rfl, ?_⟩)
    rcases ite_some a with ⟨i, a⟩ | ⟨i, a⟩
    ·refine DL_passes 36 (by rw [i]; rfl) ?_
     refine DL_done (Zb (Ze ?_))
     have bf := Zu a
     subst o
     exact ⟨z, (Zv _), (b).drop, q, u, x, y, m, rfl⟩
    replace i := Zk i
    refine DL_qg rfl rfl (Zf rfl (Zx i)) (Zp F75_0 rfl rfl rfl ⟨rfl, ?_⟩)
    refine DL_qg rfl rfl (Zf rfl (Zx i)) (Zn (b) A3 rfl rfl rfl ⟨rfl, ?_⟩)
    refine DL_qg rfl rfl (Zf rfl (Zx i)) (Zm (v := aa) rfl q ⟨rfl, ?_⟩)
    refine DL_qg rfl rfl (Zf rfl (Zx i)) (Zr S22 rfl rfl (ah.mono ab) ⟨rfl, ?_⟩)
    refine DL_qg rfl rfl (Zf rfl (Zx i)) (Exec.geq rfl rfl rfl ⟨rfl, ?_⟩)
    refine DL_q rfl rfl (Exec.pick_f (v := Value.bool (decide ((af.length : Int) ≤ n.Var))) rfl (Zx i) rfl ⟨rfl, ?_⟩)
    refine DL_q rfl rfl (Zm (v := Value.bool (decide ((af.length : Int) ≤ n.Var))) rfl rfl ⟨rfl, ?_⟩)
    rcases ite_some a with ⟨p, a⟩ | ⟨p, a⟩
    ·refine DL_passes 29 (by rw [p]; rfl) ?_
     refine DL_done (Zb (Ze ?_))
     have bg := Zu a
     subst o
     exact ⟨z, (Zv _), (b).drop, q, u, x, y, m, rfl⟩
    replace p := Zk p
    refine DL_qg rfl rfl (Zf rfl (Zx p)) (Zp F75_1 rfl rfl rfl ⟨rfl, ?_⟩)
    refine DL_qg rfl rfl (Zf rfl (Zx p)) (Zn (b) A3 rfl rfl rfl ⟨rfl, ?_⟩)
    refine DL_qg rfl rfl (Zf rfl (Zx p)) (Zq rfl rfl rfl ⟨rfl, ?_⟩)
    refine DL_passes 2 (by rw [p]; rfl) ?_
    rcases ite_some a with ⟨d, a⟩ | ⟨d, a⟩
    ·refine DL_passes 24 (by rw [d]; rfl) ?_
     refine DL_done (Zb (Ze ?_))
     have bh := Zu a
     subst o
     exact ⟨z, (Zv _), (b).drop, q, u, x, y, m, rfl⟩
    replace d := Zk d
    refine DL_qg rfl rfl (Zf rfl (Zx d)) (Zp F75_1 rfl rfl rfl ⟨rfl, ?_⟩)
    refine DL_qg rfl rfl (Zf rfl (Zx d)) (Zn (b) A3 rfl rfl rfl ⟨rfl, ?_⟩)
    refine DL_qg rfl rfl (Zf rfl (Zx d)) (Zm (v := aa) rfl q ⟨rfl, ?_⟩)
    refine DL_qg rfl rfl (Zf rfl (Zx d)) (Zp F75_0 rfl rfl rfl ⟨rfl, ?_⟩)
    refine DL_qg rfl rfl (Zf rfl (Zx d)) (Zn (b) A3 rfl rfl rfl ⟨rfl, ?_⟩)
    obtain ⟨bE, aS, a⟩ := Zg a
    refine DL_qg rfl rfl (Zf rfl (Zx d)) (Exec.index_repE S22 rfl rfl rfl (ah.mono ab) aS ?_)
    intro bd bw ay bi
    refine ⟨rfl, ?_⟩
    refine DL_qg rfl rfl (Zf rfl (Zx d)) (Zw (E := (encInt .i64)) b A3 rfl rfl rfl ay ?_)
    intro b7 aT
    obtain rfl := encInt_val.1 aT
    refine ⟨rfl, ?_⟩
    refine DL_qg rfl rfl (Zf rfl (Zx d)) (Exec.geq rfl rfl rfl ⟨rfl, ?_⟩)
    refine DL_passes 2 (by rw [d]; rfl) ?_
    rcases ite_some a with ⟨g, a⟩ | ⟨g, a⟩
    ·refine DL_passes 14 (by rw [g]; rfl) ?_
     refine DL_done (Zb (Ze ?_))
     have bj := Zu a
     subst o
     exact ⟨z, (Zv _), (b).drop, q, u, x, y, m, rfl⟩
    replace g := Zk g
    refine DL_qg rfl rfl (Zf rfl (Zx g)) (Zm (v := Vi ((t : Int))) rfl rfl ⟨rfl, ?_⟩)
    refine DL_qg rfl rfl (Zf rfl (Zx g)) (Exec.gtr rfl rfl rfl ⟨rfl, ?_⟩)
    refine DL_qg rfl rfl (Zf rfl (Zx g)) (Zm (v := Value.bool (decide (0 < (t : Int)))) rfl rfl ⟨rfl, ?_⟩)
    rcases ite_some a with ⟨c, a⟩ | ⟨c, a⟩
    ·refine DL_qg rfl rfl (Zf rfl (Zx c)) (Zm (v := j) rfl u ⟨rfl, ?_⟩)
     refine DL_qg rfl rfl (Zf rfl (Zx c)) (Zm (v := Vi ((t : Int))) rfl rfl ⟨rfl, ?_⟩)
     refine DL_qg rfl rfl (Zf rfl (Zx c)) (Exec.sub rfl rfl rfl ⟨rfl, ?_⟩)
     obtain ⟨ag, aU, a⟩ := Zg a
     refine DL_qg rfl rfl (Zf rfl (Zx c)) (Exec.index_repE S23 rfl rfl rfl (ae.mono ab) aU ?_)
     intro be bx az bk
     refine ⟨rfl, ?_⟩
     refine DL_qg rfl rfl (Zf rfl (Zx c)) (Zp F75_0 rfl rfl rfl ⟨rfl, ?_⟩)
     refine DL_qg rfl rfl (Zf rfl (Zx c)) (Zw (E := (encInt .i64)) b A3 rfl rfl rfl (az.sub (Sub.iso (Sub.fst (Sub.refl _))) rfl) ?_)
     intro aY aV
     obtain rfl : aY = Vi (ag.Var) := encInt_val.1 aV
     refine ⟨rfl, ?_⟩
     refine DL_qg rfl rfl (Zf rfl (Zx c)) (Zp F75_0 rfl rfl rfl ⟨rfl, ?_⟩)
     refine DL_qg rfl rfl (Zf rfl (Zx c)) (Zn (b) A3 rfl rfl rfl ⟨rfl, ?_⟩)
     refine DL_qg rfl rfl (Zf rfl (Zx c)) (Exec.geq rfl rfl rfl ⟨rfl, ?_⟩)
     refine DL_qg rfl rfl (Zf rfl (Zx g)) (Zs (v := Value.bool (decide (n.Var ≤ ag.Var))) rfl (Zx c) rfl ⟨rfl, ?_⟩)
     refine DL_q rfl rfl (Exec.pick_f (v := Value.bool (decide (n.Var ≤ ag.Var))) rfl (Zx g) rfl ⟨rfl, ?_⟩)
     refine DL_done (Zb (Ze ?_))
     have bl := Zu a
     subst o
     exact ⟨z, (Zv _), (b).drop, q, u, x, y, m, rfl⟩
    replace c := Zk c
    refine DL_passes 9 (by rw [c]; rfl) ?_
    refine DL_qg rfl rfl (Zf rfl (Zx g)) (Exec.pick_f (v := Value.bool (false)) rfl rfl rfl ⟨rfl, ?_⟩)
    refine DL_q rfl rfl (Exec.pick_f (v := Value.bool (false)) rfl (Zx g) rfl ⟨rfl, ?_⟩)
    refine DL_done (Zb (Ze ?_))
    have bm := Zu a
    subst o
    exact ⟨z, (Zv _), (b).drop, q, u, x, y, m, rfl⟩
   intro bs bB a3
   obtain ⟨aw, an, al, aI, aJ, aK, aL, aM, ao⟩ := a3
   refine (Ze ?_)
   rcases ite_some l with ⟨ad, l⟩ | ⟨ad, l⟩
   ·refine W_cond_t ao ad (Zc (Zd (Za rfl rfl (Zo (v := Value.bool (false)) rfl rfl (Zb (Ze (W_ret (ib_ret (at_ret (at_ret (ib_ret (at_ret (at_ret ?_)))))))))))))
    have bn := Zu l
    subst aj
    have aC := aD _ (aE (by intro _ h; cases h))
    have bo := Zu aC
    subst r
    refine ⟨_, ret1 rfl, ?_⟩
    exact ⟨aw, (Zt ab an), al, rfl⟩
   refine W_cond_f ao ad ?_
   replace ad := Zk ad
   refine W_skip (ib_normal (Ze (Zd (Za rfl rfl (Exec.add rfl aM rfl (Za rfl rfl (Zm (v := Vi (IntKind.i64.wrap ((t : Int) + 1))) rfl rfl (Zb (Ze ?_)))))))))
   have bp := Zu l
   subst aj
   refine ⟨_, rfl, ?_⟩; exact ⟨aw, (Zt ab an), al, aI, aJ, aK, aL, (Eq.trans rfl (wrap_up aA (SliceRep.le ae)))⟩
  intro b4 bt bC a2 aF
  obtain ⟨aW, aG, a7, aN, aO, aP, ap, aZ⟩ := a2
  refine Zc (Zd (Za rfl rfl (Zq rfl aZ ap (Zb (Ze (Zc (W_false (Zx (decide_eq_false (by omega))) (W_exit (at_exit (at_exit (ib_here (Ze ?_))))))))))))
  refine ⟨_, .inl aF, ?_⟩; exact ⟨aW, aG, a7, aN, aO, aP, ap⟩
 rintro bu bD ⟨b5, am, a4⟩
 have hm := am.elim (aB _) (a9 _)
 clear am
 obtain ⟨aX, aH, a8, bz, b0, b1, b2⟩ := a4
 refine (Ze (Zc (Zd (Za rfl rfl (Zo (v := Value.bool (true)) rfl rfl (Zb (Ze (W_ret ?_))))))))
 have bq := Zu hm
 subst r
 refine ⟨_, ret1 rfl, ?_⟩
 exact ⟨aX, aH, a8, rfl⟩
theorem ref55_named_sim {w0 w : World} {s : PHeap} {H : List Res} {a : ByteArray}  {r : Bool} (hm : ref55_named_p a = some r) (hS : St w0 s (H) w)  :
  Calls Tryz.prog 25 #[Value.string (a)] w fun e w' => ∃ v, e = .returned v ∧ ((fun (aA : Bool) => ∃ (ad : PHeap) , PHeap.le s ad ∧ St w0 ad (H) w' ∧ v = Value.bool (aA)) r) := by
 unfold ref55_named_p at hm
 refine calls_of_W Tryz.func25 rfl rfl (Zc (Zd (Za rfl rfl (Zo (v := Value.bool (false)) rfl rfl (Zb (Ze (Zc (Zc (Zd (Za rfl rfl (Zm (v := Value.string (a)) rfl rfl (Za rfl rfl (Exec.len_str Tryz.underlying9 rfl rfl (Za rfl rfl (Zm (v := Vi (0)) rfl rfl (Zb (Ze ?_)))))))))))))))))
 obtain ⟨aP, a6, hm⟩ := Zg hm
 obtain ⟨p, aj, aw, au, aq⟩ := ctl_some hm
 refine W_mid (M := fun f' w' => ∃ s', (p = .next s' ∨ p = .brk s') ∧ (fun (_ : Unit) => ∃ (ae : PHeap) , PHeap.le s ae ∧ St w0 ae (H) w' ∧ f' 0 = Value.string (a) ∧ f' 5 = Vi ((a.size : Int))) s') ?_ ?_
 ·refine W_block (W_forC (fun k' s' f' w' => (fun (_ : Unit) => ∃ (af : PHeap) , PHeap.le s af ∧ St w0 af (H) w' ∧ f' 0 = Value.string (a) ∧ f' 5 = Vi ((a.size : Int)) ∧ f' 6 = Vi (k' : Int)) s') aj ?_ ?_ ?_)
  ·exact ⟨s, (Zv _), hS, rfl, rfl, rfl⟩
  ·intro g aM q aH aQ ar ak c ax
   obtain ⟨o, y, t, l, n, m⟩ := ak
   refine Zc (Zd (Za rfl rfl (Zq rfl m n (Zb (Ze (Zc (W_true (Zx (decide_eq_true (by omega))) (W_skip (Ze (Zc (W_block (Zc (Zd (Za rfl rfl (Zm (v := Vi ((g : Int))) rfl m (Za rfl rfl (Zo (v := Vi ((g : Int))) rfl rfl (Zb (Ze (Zc ?_))))))))))))))))))))
   obtain ⟨j, d, c⟩ := Zg c
   refine W_mid (M := fun f' w' => (fun (j : Bool) => ∃ (ag : PHeap) , PHeap.le o ag ∧ St w0 ag (H) w' ∧ f' 0 = Value.string (a) ∧ f' 5 = Vi ((a.size : Int)) ∧ f' 6 = Vi ((g : Int)) ∧ f' 18 = Value.bool (j)) j) ?_ ?_
   ·refine Zd (Za rfl rfl (Zm (v := Value.string (a)) rfl l (Za rfl rfl (Zm (v := Vi ((g : Int))) rfl rfl ?_))))
    obtain ⟨ai, ac, d⟩ := Zg d
    refine Za rfl rfl (Exec.index_str Tryz.underlying9 rfl rfl rfl ac (Za rfl rfl (Zq rfl rfl rfl (Za rfl rfl (Zm (v := Value.bool (decide (ai < 32))) rfl rfl ?_)))))
    rcases ite_some d with ⟨b, d⟩ | ⟨b, d⟩
    ·refine WL_passes 5 (by rw [b]; rfl) ?_
     refine Zb (Ze ?_)
     have aB := Zu d
     subst j
     exact ⟨o, (Zv _), t, l, n, m, rfl⟩
    replace b := Zk b
    refine WL_run rfl (Zf rfl (Zx b)) rfl (Zm (v := Value.string (a)) rfl l (WL_run rfl (Zf rfl (Zx b)) rfl (Zm (v := Vi ((g : Int))) rfl rfl (WL_run rfl (Zf rfl (Zx b)) rfl (Exec.index_str Tryz.underlying9 rfl rfl rfl ac (WL_run rfl (Zf rfl (Zx b)) rfl (Exec.gtr rfl rfl rfl (Za rfl rfl (Exec.pick_f (v := Value.bool (decide (126 < ai))) rfl (Zx b) rfl (Zb (Ze ?_)))))))))))
    have aC := Zu d
    subst j
    exact ⟨o, (Zv _), t, l, n, m, rfl⟩
   intro aI aR am
   obtain ⟨ah, z, u, a1, a2, a3, aa⟩ := am
   refine (Ze ?_)
   rcases ite_some c with ⟨i, c⟩ | ⟨i, c⟩
   ·refine W_cond_t aa i (Zc (Zd (Za rfl rfl (Zo (v := Value.bool (false)) rfl rfl (Zb (Ze (W_ret (ib_ret (at_ret (at_ret (ib_ret (at_ret (at_ret ?_)))))))))))))
    have aD := Zu c
    subst q
    have av := aw _ (ax (by intro _ h; cases h))
    have aE := Zu av
    subst r
    refine ⟨_, ret1 rfl, ?_⟩
    exact ⟨ah, (Zt y z), u, rfl⟩
   refine W_cond_f aa i ?_
   replace i := Zk i
   refine W_skip (ib_normal (Ze (Zd (Za rfl rfl (Exec.add rfl a3 rfl (Za rfl rfl (Zm (v := Vi (IntKind.i64.wrap ((g : Int) + 1))) rfl rfl (Zb (Ze ?_)))))))))
   have aF := Zu c
   subst q
   refine ⟨_, rfl, ?_⟩; exact ⟨ah, (Zt y z), u, a1, a2, (Eq.trans rfl (wrap_up ar (by have h := must_some a6; simp at h; simp only [maxLen]; omega)))⟩
  intro aN aJ aS al ay
  obtain ⟨a7, az, ao, a4, ab, a9⟩ := al
  refine Zc (Zd (Za rfl rfl (Zq rfl a9 ab (Zb (Ze (Zc (W_false (Zx (decide_eq_false (by omega))) (W_exit (at_exit (at_exit (ib_here (Ze ?_))))))))))))
  refine ⟨_, .inl ay, ?_⟩; exact ⟨a7, az, ao, a4, ab⟩
 rintro aK aT ⟨aO, x, an⟩
 have hm := x.elim (au _) (aq _)
 clear x
 obtain ⟨a8, a0, ap, a5, aL⟩ := an
 refine (Ze (Zc (Zd (Za rfl rfl (Zm (v := Value.string (a)) rfl a5 (Za rfl rfl (Exec.len_str Tryz.underlying9 rfl rfl (Za rfl rfl (Exec.leq rfl rfl rfl (Za rfl rfl (Zo (v := Value.bool (decide ((a.size : Int) ≤ 256))) rfl rfl (Zb (Ze (W_ret ?_))))))))))))))
 have aG := Zu hm
 subst r
 refine ⟨_, ret1 rfl, ?_⟩
 exact ⟨a8, a0, ap, rfl⟩
theorem ref55_Check_sim {w0 w : World} {s : PHeap} {H : List Res} {l : Temporal} {i : Value} {m : Value} {n : Value} {g : Value} {r : Int} (hm : ref55_Check_p l = some r) (hS : St w0 s (H) w) (aa : SliceRep (encInt .i64) s i l.Vars) (ay : SliceRep (encInt .i64) s m l.Init) (aP : SliceRep encFact s n l.Goal) (t : SliceRep encJob s g l.Jobs) :
  Calls Tryz.prog 8 #[Value.agg #[i, m, n, g]] w fun e w' => ∃ v, e = .returned v ∧ ((fun (eC : Int) => ∃ (bG : PHeap) , PHeap.le s bG ∧ St w0 bG (H) w' ∧ v = Vi (eC)) r) := by
 unfold ref55_Check_p at hm
 refine calls_of_W Tryz.func8 rfl rfl (Zc (Zd (Za rfl rfl (Exec.box (cs := [i, m, n, g]) hS rfl rfl rfl ?_))))
 intro c fU ap
 refine Za rfl rfl (Zo (v := Vi (0)) rfl rfl (Zb (Ze (Zc (Zc (W_mid (M := fun f' w' => ∃ (bH : PHeap) , PHeap.le s bH ∧ St w0 bH (Res.box c 26 [i, m, n, g] :: H) w' ∧ f' 1 = Value.pointer (some ⟨c, 0, none⟩) ∧ f' 22 = Value.bool (((decide (64 < (l.Vars.length : Int))) || decide (24 < (l.Jobs.length : Int))))) ?_ ?_))))))
 ·refine Zd (Za rfl rfl (Zp F26_0 rfl rfl rfl (Za rfl rfl (Zn (ap) A22 rfl rfl rfl (Za rfl rfl (Zr S22 rfl rfl aa (Za rfl rfl (Exec.gtr rfl rfl rfl (Za rfl rfl (Zm (v := Value.bool (decide (64 < (l.Vars.length : Int)))) rfl rfl ?_))))))))))
  by_cases q : (decide (64 < (l.Vars.length : Int))) = true
  ·refine WL_passes 5 (by rw [q]; rfl) ?_
   refine Zb (Ze ?_)
   exact ⟨s, (Zv _), ap, rfl, (Zx (or_t q)).symm⟩
  replace q := Zk q
  refine WL_run rfl (Zf rfl (Zx q)) rfl (Zp F26_3 rfl rfl rfl (WL_run rfl (Zf rfl (Zx q)) rfl (Zn (ap) A24 rfl rfl rfl (WL_run rfl (Zf rfl (Zx q)) rfl (Zr S24 rfl rfl t (WL_run rfl (Zf rfl (Zx q)) rfl (Exec.gtr rfl rfl rfl (Za rfl rfl (Exec.pick_f (v := Value.bool (decide (24 < (l.Jobs.length : Int)))) rfl (Zx q) rfl (Zb (Ze ?_)))))))))))
  exact ⟨s, (Zv _), ap, rfl, (Zx (or_f q)).symm⟩
 intro fc fV cA
 obtain ⟨ez, a, az, bv, bw⟩ := cA
 refine (Ze ?_)
 rcases ite_some hm with ⟨ah, hm⟩ | ⟨ah, hm⟩
 ·refine W_cond_t bw ah (Zc (Zd (Za rfl rfl (Zo (v := Vi (5)) rfl rfl (Zb (Ze (W_ret (at_ret ?_))))))))
  have eK := Zu hm
  subst r
  refine ⟨_, ret1 rfl, ?_⟩
  exact ⟨ez, a, (az).drop, rfl⟩
 refine W_cond_f bw ah ?_
 replace ah := Zk ah
 refine W_skip (Ze (Zc (Zc (Zd (Za rfl rfl (Exec.load_box_agg (ds := [i, m, n, g]) (az) A26 rfl bv rfl ?_))))))
 obtain ⟨cn, dW, hm⟩ := Zg hm
 refine Za rfl rfl (Tc rfl rfl rfl (Zi rfl args_nil) (ref55_lists_sim dW az (aa.mono a) (ay.mono a) (aP.mono a) (t.mono a)).r ?_)
 rintro cj fW ⟨aF, _, b, cI, rfl, aD⟩
 refine Za rfl rfl (Zr S78 rfl rfl aD (Za rfl rfl (Zm (v := Vi (0)) rfl rfl (Zb (Ze ?_)))))
 obtain ⟨aQ, cv, dn, dd, cT⟩ := ctl_some hm
 refine W_mid (M := fun f' w' => ∃ s', (aQ = .next s' ∨ aQ = .brk s') ∧ (fun (_ : Unit) => ∃ (bI : PHeap) , PHeap.le aF bI ∧ St w0 bI (Res.box c 26 [i, m, n, g] :: H) w' ∧ f' 1 = Value.pointer (some ⟨c, 0, none⟩) ∧ f' 24 = cj ∧ f' 25 = Vi ((cn.length : Int))) s') ?_ ?_
 ·refine W_block (W_forC (fun k' s' f' w' => (fun (_ : Unit) => ∃ (bJ : PHeap) , PHeap.le aF bJ ∧ St w0 bJ (Res.box c 26 [i, m, n, g] :: H) w' ∧ f' 1 = Value.pointer (some ⟨c, 0, none⟩) ∧ f' 24 = cj ∧ f' 25 = Vi ((cn.length : Int)) ∧ f' 26 = Vi (k' : Int)) s') cv ?_ ?_ ?_)
  ·exact ⟨aF, (Zv _), cI, bv, rfl, rfl, rfl⟩
  ·intro d4 fC aR fd fX cY c0 ad du
   obtain ⟨bK, a5, a0, dD, bx, bz, aM⟩ := c0
   refine Zc (Zd (Za rfl rfl (Zq rfl aM bz (Zb (Ze (Zc (W_true (Zx (decide_eq_true (by omega))) (W_skip (Ze (Zc (W_block (Zc (Zd ?_)))))))))))))
   obtain ⟨gy, dX, ad⟩ := Zg ad
   refine Za rfl rfl (Exec.index_rep S78 rfl bx aM (aD.mono a5) dX ?_)
   intro eD fu cp
   refine Za rfl rfl (Zw (E := (encSlice encFact)) a0 A23 rfl rfl rfl cp ?_)
   intro ck dY
   have el := encSlice_val.1 dY
   refine Za rfl rfl (Zo (v := ck) rfl rfl (Zb (Ze (Zc (Zd (Za rfl rfl (Zm (v := ck) rfl rfl (Za rfl rfl (Zr S23 rfl rfl el (Za rfl rfl (Exec.gtr rfl rfl rfl (Zb (Ze ?_)))))))))))))
   rcases ite_some ad with ⟨ai, ad⟩ | ⟨ai, ad⟩
   ·refine W_cond_t rfl ai (Zc (Zd (Za rfl rfl (Zo (v := Vi (5)) rfl rfl (Zb (Ze (W_ret (ib_ret (at_ret (at_ret (ib_ret (at_ret (at_ret ?_)))))))))))))
    have eL := Zu ad
    subst aR
    have di := dn _ (du (by intro _ h; cases h))
    have eM := Zu di
    subst r
    refine ⟨_, ret1 rfl, ?_⟩
    exact ⟨bK, (Zt (Zt a b) a5), (a0).drop, rfl⟩
   refine W_cond_f rfl ai ?_
   replace ai := Zk ai
   refine W_skip (ib_normal (Ze (Zd (Za rfl rfl (Exec.add rfl aM rfl (Za rfl rfl (Zm (v := Vi (IntKind.i64.wrap ((d4 : Int) + 1))) rfl rfl (Zb (Ze ?_)))))))))
   have eN := Zu ad
   subst aR
   refine ⟨_, rfl, ?_⟩; exact ⟨bK, a5, a0, dD, bx, bz, (Eq.trans rfl (wrap_up cY (SliceRep.le aD)))⟩
  intro fD fe fY c1 dv
  obtain ⟨e0, d7, cJ, dE, dF, b0, e7⟩ := c1
  refine Zc (Zd (Za rfl rfl (Zq rfl e7 b0 (Zb (Ze (Zc (W_false (Zx (decide_eq_false (by omega))) (W_exit (at_exit (at_exit (ib_here (Ze ?_))))))))))))
  refine ⟨_, .inl dv, ?_⟩; exact ⟨e0, d7, cJ, dE, dF, b0⟩
 rintro ff fZ ⟨fE, bk, cB⟩
 have hm := bk.elim (dd _) (cT _)
 clear bk
 obtain ⟨aG, d, ba, b1, fz, f0⟩ := cB
 refine (Ze (Zc (Zc (Zd (Za rfl rfl (Zp F26_0 rfl b1 rfl (Za rfl rfl (Zn (ba) A22 rfl rfl rfl (Za rfl rfl (Zr S22 rfl rfl (aa.mono (Zt (Zt a b) d)) (Za rfl rfl (Zm (v := Vi (0)) rfl rfl (Zb (Ze ?_))))))))))))))
 obtain ⟨aS, cw, dp, de, cU⟩ := ctl_some hm
 refine W_mid (M := fun f' w' => ∃ s', (aS = .next s' ∨ aS = .brk s') ∧ (fun (_ : Unit) => ∃ (bL : PHeap) , PHeap.le aG bL ∧ St w0 bL (Res.box c 26 [i, m, n, g] :: H) w' ∧ f' 1 = Value.pointer (some ⟨c, 0, none⟩) ∧ f' 35 = i ∧ f' 36 = Vi ((l.Vars.length : Int))) s') ?_ ?_
 ·refine W_block (W_forC (fun k' s' f' w' => (fun (_ : Unit) => ∃ (bM : PHeap) , PHeap.le aG bM ∧ St w0 bM (Res.box c 26 [i, m, n, g] :: H) w' ∧ f' 1 = Value.pointer (some ⟨c, 0, none⟩) ∧ f' 35 = i ∧ f' 36 = Vi ((l.Vars.length : Int)) ∧ f' 37 = Vi (k' : Int)) s') cw ?_ ?_ ?_)
  ·exact ⟨aG, (Zv _), ba, b1, rfl, rfl, rfl⟩
  ·intro bp fF aT fg ga cZ c2 ae dw
   obtain ⟨aH, a6, a1, b2, a9, aA, av⟩ := c2
   refine Zc (Zd (Za rfl rfl (Zq rfl av aA (Zb (Ze (Zc (W_true (Zx (decide_eq_true (by omega))) (W_skip (Ze (Zc (W_block (Zc (Zd ?_)))))))))))))
   obtain ⟨ac, dZ, ae⟩ := Zg ae
   refine Za rfl rfl (Exec.index_rep S22 rfl a9 av (aa.mono (Zt (Zt (Zt a b) d) a6)) dZ ?_)
   intro eE fv cq
   refine Za rfl rfl (Zw (E := (encInt .i64)) a1 A3 rfl rfl rfl cq ?_)
   intro fR ea
   obtain rfl := encInt_val.1 ea
   refine Za rfl rfl (Zo (v := Vi (ac)) rfl rfl (Zb (Ze (Zc (W_mid (M := fun f' w' => ∃ (bN : PHeap) , PHeap.le aH bN ∧ St w0 bN (Res.box c 26 [i, m, n, g] :: H) w' ∧ f' 1 = Value.pointer (some ⟨c, 0, none⟩) ∧ f' 35 = i ∧ f' 36 = Vi ((l.Vars.length : Int)) ∧ f' 37 = Vi ((bp : Int)) ∧ f' 46 = Value.bool (((decide (ac < 1)) || decide (64 < ac)))) ?_ ?_)))))
   ·refine Zd (Za rfl rfl (Zm (v := Vi (ac)) rfl rfl (Za rfl rfl (Zq rfl rfl rfl (Za rfl rfl (Zm (v := Value.bool (decide (ac < 1))) rfl rfl ?_))))))
    by_cases ab : (decide (ac < 1)) = true
    ·refine WL_passes 3 (by rw [ab]; rfl) ?_
     refine Zb (Ze ?_)
     exact ⟨aH, (Zv _), a1, b2, a9, aA, av, (Zx (or_t ab)).symm⟩
    replace ab := Zk ab
    refine WL_run rfl (Zf rfl (Zx ab)) rfl (Zm (v := Vi (ac)) rfl rfl (WL_run rfl (Zf rfl (Zx ab)) rfl (Exec.gtr rfl rfl rfl (Za rfl rfl (Exec.pick_f (v := Value.bool (decide (64 < ac))) rfl (Zx ab) rfl (Zb (Ze ?_)))))))
    exact ⟨aH, (Zv _), a1, b2, a9, aA, av, (Zx (or_f ab)).symm⟩
   intro fh gb cC
   obtain ⟨bO, br, bb, dG, dH, dI, dJ, b3⟩ := cC
   refine (Ze ?_)
   rcases ite_some ae with ⟨aj, ae⟩ | ⟨aj, ae⟩
   ·refine W_cond_t b3 aj (Zc (Zd (Za rfl rfl (Zo (v := Vi (1)) rfl rfl (Zb (Ze (W_ret (ib_ret (at_ret (at_ret (ib_ret (at_ret (at_ret ?_)))))))))))))
    have eO := Zu ae
    subst aT
    have dj := dp _ (dw (by intro _ h; cases h))
    have eP := Zu dj
    subst r
    refine ⟨_, ret1 rfl, ?_⟩
    exact ⟨bO, (Zt (Zt (Zt (Zt a b) d) a6) br), (bb).drop, rfl⟩
   refine W_cond_f b3 aj ?_
   replace aj := Zk aj
   refine W_skip (ib_normal (Ze (Zd (Za rfl rfl (Exec.add rfl dJ rfl (Za rfl rfl (Zm (v := Vi (IntKind.i64.wrap ((bp : Int) + 1))) rfl rfl (Zb (Ze ?_)))))))))
   have eQ := Zu ae
   subst aT
   refine ⟨_, rfl, ?_⟩; exact ⟨bO, (Zt a6 br), bb, dG, dH, dI, (Eq.trans rfl (wrap_up cZ (SliceRep.le (aa.mono (Zt (Zt a b) d)))))⟩
  intro fG fi gc c3 dx
  obtain ⟨e1, d8, cK, dK, dL, b4, e8⟩ := c3
  refine Zc (Zd (Za rfl rfl (Zq rfl e8 b4 (Zb (Ze (Zc (W_false (Zx (decide_eq_false (by omega))) (W_exit (at_exit (at_exit (ib_here (Ze ?_))))))))))))
  refine ⟨_, .inl dx, ?_⟩; exact ⟨e1, d8, cK, dK, dL, b4⟩
 rintro fj gd ⟨fH, bl, cD⟩
 have hm := bl.elim (de _) (cU _)
 clear bl
 obtain ⟨aI, j, bc, b5, f1, f2⟩ := cD
 refine (Ze (Zc (Zc (Zd (Za rfl rfl (Zp F26_3 rfl b5 rfl (Za rfl rfl (Zn (bc) A24 rfl rfl rfl (Za rfl rfl (Zr S24 rfl rfl (t.mono (Zt (Zt (Zt a b) d) j)) (Za rfl rfl (Zm (v := Vi (0)) rfl rfl (Zb (Ze ?_))))))))))))))
 obtain ⟨aU, cx, dq, df, cV⟩ := ctl_some hm
 refine W_mid (M := fun f' w' => ∃ s', (aU = .next s' ∨ aU = .brk s') ∧ (fun (_ : Unit) => ∃ (bP : PHeap) , PHeap.le aI bP ∧ St w0 bP (Res.box c 26 [i, m, n, g] :: H) w' ∧ f' 1 = Value.pointer (some ⟨c, 0, none⟩) ∧ f' 49 = g ∧ f' 50 = Vi ((l.Jobs.length : Int))) s') ?_ ?_
 ·refine W_block (W_forC (fun k' s' f' w' => (fun (_ : Unit) => ∃ (bQ : PHeap) , PHeap.le aI bQ ∧ St w0 bQ (Res.box c 26 [i, m, n, g] :: H) w' ∧ f' 1 = Value.pointer (some ⟨c, 0, none⟩) ∧ f' 49 = g ∧ f' 50 = Vi ((l.Jobs.length : Int)) ∧ f' 51 = Vi (k' : Int)) s') cx ?_ ?_ ?_)
  ·exact ⟨aI, (Zv _), bc, b5, rfl, rfl, rfl⟩
  ·intro bq fI aV fk gf da c4 af dy
   obtain ⟨aJ, a7, bd, b6, aB, aC, aw⟩ := c4
   refine Zc (Zd (Za rfl rfl (Zq rfl aw aC (Zb (Ze (Zc (W_true (Zx (decide_eq_true (by omega))) (W_skip (Ze (Zc (W_block (Zc (Zd ?_)))))))))))))
   obtain ⟨z, eb, af⟩ := Zg af
   refine Za rfl rfl (Exec.index_rep S24 rfl aB aw (t.mono (Zt (Zt (Zt (Zt a b) d) j) a7)) eb ?_)
   intro eF fw cr
   refine Za rfl rfl (Zw (E := encJob) bd A59 rfl rfl rfl cr ?_)
   intro fS ec
   obtain ⟨bZ, ca, cb, cc, cd, rfl, em, en, eo, ep, er⟩ := encJob_val.1 ec
   refine Za rfl rfl (Exec.alloc (cs := [Value.string (⟨#[]⟩), Vi (0), Value.slice none 0 0, Value.slice none 0 0, Value.slice none 0 0, Value.slice none 0 0, Value.slice none 0 0]) bd Z59 rfl rfl ?_)
   intro eG gg cL
   refine Za rfl rfl (Exec.store_box (ds := [Value.string (z.Name), Vi (z.Duration), bZ, ca, cb, cc, cd]) (es := [Value.string (z.Name), Vi (z.Duration), bZ, ca, cb, cc, cd]) cL A59 rfl rfl rfl rfl (Zj rfl (Zj rfl (Zj (em).one (Zj (en).one (Zj (eo).one (Zj (ep).one (Zj (er).one one_nil))))))) (Nat.le_of_ble_eq_true rfl) rfl ?_)
   intro gh aq
   refine Zb (Ze (Zc (W_mid (M := fun f' w' => ∃ (bR : PHeap) , PHeap.le aJ bR ∧ St w0 bR (Res.box c 26 [i, m, n, g] :: H) w' ∧ f' 1 = Value.pointer (some ⟨c, 0, none⟩) ∧ f' 49 = g ∧ f' 50 = Vi ((l.Jobs.length : Int)) ∧ f' 51 = Vi ((bq : Int)) ∧ f' 62 = Value.bool (((decide (z.Duration < 1)) || decide (62 < z.Duration)))) ?_ ?_)))
   ·refine Zd (Za rfl rfl (Zp F59_1 rfl rfl rfl (Za rfl rfl (Zn (aq) A3 rfl rfl rfl (Za rfl rfl (Zq rfl rfl rfl (Za rfl rfl (Zm (v := Value.bool (decide (z.Duration < 1))) rfl rfl ?_))))))))
    by_cases u : (decide (z.Duration < 1)) = true
    ·refine WL_passes 4 (by rw [u]; rfl) ?_
     refine Zb (Ze ?_)
     exact ⟨aJ, (Zv _), (aq).drop, b6, aB, aC, aw, (Zx (or_t u)).symm⟩
    replace u := Zk u
    refine WL_run rfl (Zf rfl (Zx u)) rfl (Zp F59_1 rfl rfl rfl (WL_run rfl (Zf rfl (Zx u)) rfl (Zn (aq) A3 rfl rfl rfl (WL_run rfl (Zf rfl (Zx u)) rfl (Exec.gtr rfl rfl rfl (Za rfl rfl (Exec.pick_f (v := Value.bool (decide (62 < z.Duration))) rfl (Zx u) rfl (Zb (Ze ?_)))))))))
    exact ⟨aJ, (Zv _), (aq).drop, b6, aB, aC, aw, (Zx (or_f u)).symm⟩
   intro fl gi cE
   obtain ⟨bS, bs, be, dM, dN, dO, dP, b7⟩ := cE
   refine (Ze ?_)
   rcases ite_some af with ⟨ak, af⟩ | ⟨ak, af⟩
   ·refine W_cond_t b7 ak (Zc (Zd (Za rfl rfl (Zo (v := Vi (1)) rfl rfl (Zb (Ze (W_ret (ib_ret (at_ret (at_ret (ib_ret (at_ret (at_ret ?_)))))))))))))
    have eR := Zu af
    subst aV
    have dk := dq _ (dy (by intro _ h; cases h))
    have eS := Zu dk
    subst r
    refine ⟨_, ret1 rfl, ?_⟩
    exact ⟨bS, (Zt (Zt (Zt (Zt (Zt a b) d) j) a7) bs), (be).drop, rfl⟩
   refine W_cond_f b7 ak ?_
   replace ak := Zk ak
   refine W_skip (ib_normal (Ze (Zd (Za rfl rfl (Exec.add rfl dP rfl (Za rfl rfl (Zm (v := Vi (IntKind.i64.wrap ((bq : Int) + 1))) rfl rfl (Zb (Ze ?_)))))))))
   have eT := Zu af
   subst aV
   refine ⟨_, rfl, ?_⟩; exact ⟨bS, (Zt a7 bs), be, dM, dN, dO, (Eq.trans rfl (wrap_up da (SliceRep.le (t.mono (Zt (Zt (Zt a b) d) j)))))⟩
  intro fJ fm gj c5 dz
  obtain ⟨e2, d9, cM, dQ, dR, b8, e9⟩ := c5
  refine Zc (Zd (Za rfl rfl (Zq rfl e9 b8 (Zb (Ze (Zc (W_false (Zx (decide_eq_false (by omega))) (W_exit (at_exit (at_exit (ib_here (Ze ?_))))))))))))
  refine ⟨_, .inl dz, ?_⟩; exact ⟨e2, d9, cM, dQ, dR, b8⟩
 rintro fn gk ⟨fK, bm, cF⟩
 have hm := bm.elim (df _) (cV _)
 clear bm
 obtain ⟨f9, o, a2, au, f3, f4⟩ := cF
 refine (Ze (Zc (Zc (Zd (Za rfl rfl (Zp F26_0 rfl au rfl (Za rfl rfl (Zn (a2) A22 rfl rfl rfl (Za rfl rfl (Zp F26_1 rfl au rfl (Za rfl rfl (Zn (a2) A22 rfl rfl rfl ?_))))))))))))
 obtain ⟨g0, ed, hm⟩ := Zg hm
 refine Za rfl rfl (Tc rfl rfl rfl (Zi rfl (Zi rfl args_nil)) (base_State_sim ed a2 (aa.mono (Zt (Zt (Zt (Zt a b) d) j) o)) (ay.mono (Zt (Zt (Zt (Zt a b) d) j) o))).r ?_)
 rintro _ gl ⟨e3, p, a3, rfl⟩
 refine Za rfl rfl (Exec.not rfl rfl (Zb (Ze ?_)))
 rcases ite_some hm with ⟨al, hm⟩ | ⟨al, hm⟩
 ·refine W_cond_t rfl al (Zc (Zd (Za rfl rfl (Zo (v := Vi (2)) rfl rfl (Zb (Ze (W_ret (at_ret ?_))))))))
  have eU := Zu hm
  subst r
  refine ⟨_, ret1 rfl, ?_⟩
  exact ⟨e3, (Zt (Zt (Zt (Zt (Zt a b) d) j) o) p), (a3).drop, rfl⟩
 refine W_cond_f rfl al ?_
 replace al := Zk al
 refine W_skip (Ze (Zc (Zc (Zd (Za rfl rfl (Exec.load_box_agg (ds := [i, m, n, g]) (a3) A26 rfl au rfl ?_))))))
 obtain ⟨co, ee, hm⟩ := Zg hm
 refine Za rfl rfl (Tc rfl rfl rfl (Zi rfl args_nil) (ref55_lists_sim ee a3 (aa.mono (Zt (Zt (Zt (Zt (Zt a b) d) j) o) p)) (ay.mono (Zt (Zt (Zt (Zt (Zt a b) d) j) o) p)) (aP.mono (Zt (Zt (Zt (Zt (Zt a b) d) j) o) p)) (t.mono (Zt (Zt (Zt (Zt (Zt a b) d) j) o) p))).r ?_)
 rintro cl gm ⟨aK, _, ag, cN, rfl, aE⟩
 refine Za rfl rfl (Zr S78 rfl rfl aE (Za rfl rfl (Zm (v := Vi (0)) rfl rfl (Zb (Ze ?_)))))
 obtain ⟨aW, cy, dr, dg, cW⟩ := ctl_some hm
 refine W_mid (M := fun f' w' => ∃ s', (aW = .next s' ∨ aW = .brk s') ∧ (fun (_ : Unit) => ∃ (bT : PHeap) , PHeap.le aK bT ∧ St w0 bT (Res.box c 26 [i, m, n, g] :: H) w' ∧ f' 1 = Value.pointer (some ⟨c, 0, none⟩) ∧ f' 71 = cl ∧ f' 72 = Vi ((co.length : Int))) s') ?_ ?_
 ·refine W_block (W_forC (fun k' s' f' w' => (fun (_ : Unit) => ∃ (bU : PHeap) , PHeap.le aK bU ∧ St w0 bU (Res.box c 26 [i, m, n, g] :: H) w' ∧ f' 1 = Value.pointer (some ⟨c, 0, none⟩) ∧ f' 71 = cl ∧ f' 72 = Vi ((co.length : Int)) ∧ f' 73 = Vi (k' : Int)) s') cy ?_ ?_ ?_)
  ·exact ⟨aK, (Zv _), cN, au, rfl, rfl, rfl⟩
  ·intro d5 fL aX fo gn db c6 x d0
   obtain ⟨fA, ar, a4, b9, bA, bB, aN⟩ := c6
   refine Zc (Zd (Za rfl rfl (Zq rfl aN bB (Zb (Ze (Zc (W_true (Zx (decide_eq_true (by omega))) (W_skip (Ze (Zc (W_block (Zc (Zd ?_)))))))))))))
   obtain ⟨gz, ef, x⟩ := Zg x
   refine Za rfl rfl (Exec.index_rep S78 rfl bA aN (aE.mono ar) ef ?_)
   intro eH fx ct
   refine Za rfl rfl (Zw (E := (encSlice encFact)) a4 A23 rfl rfl rfl ct ?_)
   intro cm eg
   have et := encSlice_val.1 eg
   refine Za rfl rfl (Zo (v := cm) rfl rfl (Zb (Ze (Zc (Zd (Za rfl rfl (Zp F26_0 rfl b9 rfl (Za rfl rfl (Zn (a4) A22 rfl rfl rfl (Za rfl rfl (Zm (v := cm) rfl rfl ?_)))))))))))
   obtain ⟨g1, eh, x⟩ := Zg x
   refine Za rfl rfl (Tc rfl rfl rfl (Zi rfl (Zi rfl args_nil)) (base_Proper_sim eh a4 (aa.mono (Zt (Zt (Zt (Zt (Zt (Zt (Zt a b) d) j) o) p) ag) ar)) et).r ?_)
   rintro _ go ⟨bV, bt, bf, rfl⟩
   refine Za rfl rfl (Exec.not rfl rfl (Zb (Ze ?_)))
   rcases ite_some x with ⟨am, x⟩ | ⟨am, x⟩
   ·refine W_cond_t rfl am (Zc (Zd (Za rfl rfl (Zo (v := Vi (2)) rfl rfl (Zb (Ze (W_ret (ib_ret (at_ret (at_ret (ib_ret (at_ret (at_ret ?_)))))))))))))
    have eV := Zu x
    subst aX
    have dl := dr _ (d0 (by intro _ h; cases h))
    have eW := Zu dl
    subst r
    refine ⟨_, ret1 rfl, ?_⟩
    exact ⟨bV, (Zt (Zt (Zt (Zt (Zt (Zt (Zt (Zt a b) d) j) o) p) ag) ar) bt), (bf).drop, rfl⟩
   refine W_cond_f rfl am ?_
   replace am := Zk am
   refine W_skip (ib_normal (Ze (Zd (Za rfl rfl (Exec.add rfl aN rfl (Za rfl rfl (Zm (v := Vi (IntKind.i64.wrap ((d5 : Int) + 1))) rfl rfl (Zb (Ze ?_)))))))))
   have eX := Zu x
   subst aX
   refine ⟨_, rfl, ?_⟩; exact ⟨bV, (Zt ar bt), bf, b9, bA, bB, (Eq.trans rfl (wrap_up db (SliceRep.le aE)))⟩
  intro fM fp gp c7 d1
  obtain ⟨e4, dA, cO, dS, dT, bC, eA⟩ := c7
  refine Zc (Zd (Za rfl rfl (Zq rfl eA bC (Zb (Ze (Zc (W_false (Zx (decide_eq_false (by omega))) (W_exit (at_exit (at_exit (ib_here (Ze ?_))))))))))))
  refine ⟨_, .inl d1, ?_⟩; exact ⟨e4, dA, cO, dS, dT, bC⟩
 rintro fq gq ⟨fN, bn, cG⟩
 have hm := bn.elim (dg _) (cW _)
 clear bn
 obtain ⟨aL, ao, bg, dU, f5, f6⟩ := cG
 refine (Ze (Zc (Zc (Zd (Za rfl rfl (Zp F26_3 rfl dU rfl (Za rfl rfl (Zn (bg) A24 rfl rfl rfl (Za rfl rfl (Zr S24 rfl rfl (t.mono (Zt (Zt (Zt (Zt (Zt (Zt (Zt a b) d) j) o) p) ag) ao)) (Za rfl rfl (Zm (v := Vi (0)) rfl rfl (Zb (Ze ?_))))))))))))))
 obtain ⟨aY, cz, dt, dh, cX⟩ := ctl_some hm
 refine W_mid (M := fun f' w' => ∃ s', (aY = .next s' ∨ aY = .brk s') ∧ (fun (_ : Unit) => ∃ (bW : PHeap) , PHeap.le aL bW ∧ St w0 bW (H) w' ∧ f' 84 = g ∧ f' 85 = Vi ((l.Jobs.length : Int))) s') ?_ ?_
 ·refine W_block (W_forC (fun k' s' f' w' => (fun (_ : Unit) => ∃ (bX : PHeap) , PHeap.le aL bX ∧ St w0 bX (H) w' ∧ f' 84 = g ∧ f' 85 = Vi ((l.Jobs.length : Int)) ∧ f' 86 = Vi (k' : Int)) s') cz ?_ ?_ ?_)
  ·have cP := (bg).drop
   exact ⟨aL, (Zv _), cP, rfl, rfl, rfl⟩
  ·intro d6 fO aZ fr gr dc c8 y d2
   obtain ⟨fB, a8, bh, bD, bE, aO⟩ := c8
   refine Zc (Zd (Za rfl rfl (Zq rfl aO bE (Zb (Ze (Zc (W_true (Zx (decide_eq_true (by omega))) (W_skip (Ze (Zc (W_block (Zc (Zd ?_)))))))))))))
   obtain ⟨ax, ei, y⟩ := Zg y
   refine Za rfl rfl (Exec.index_rep S24 rfl bD aO (t.mono (Zt (Zt (Zt (Zt (Zt (Zt (Zt (Zt a b) d) j) o) p) ag) ao) a8)) ei ?_)
   intro eI fy cu
   refine Za rfl rfl (Zw (E := encJob) bh A59 rfl rfl rfl cu ?_)
   intro fT ej
   obtain ⟨ce, cf, cg, ch, ci, rfl, eu, ev, ew, ex, ey⟩ := encJob_val.1 ej
   refine Za rfl rfl (Exec.alloc (cs := [Value.string (⟨#[]⟩), Vi (0), Value.slice none 0 0, Value.slice none 0 0, Value.slice none 0 0, Value.slice none 0 0, Value.slice none 0 0]) bh Z59 rfl rfl ?_)
   intro eJ gs cQ
   refine Za rfl rfl (Exec.store_box (ds := [Value.string (ax.Name), Vi (ax.Duration), ce, cf, cg, ch, ci]) (es := [Value.string (ax.Name), Vi (ax.Duration), ce, cf, cg, ch, ci]) cQ A59 rfl rfl rfl rfl (Zj rfl (Zj rfl (Zj (eu).one (Zj (ev).one (Zj (ew).one (Zj (ex).one (Zj (ey).one one_nil))))))) (Nat.le_of_ble_eq_true rfl) rfl ?_)
   intro gu bi
   refine Zb (Ze (Zc (Zd (Za rfl rfl (Zp F59_0 rfl rfl rfl (Za rfl rfl (Zn (bi) A9 rfl rfl rfl ?_)))))))
   obtain ⟨g2, ek, y⟩ := Zg y
   refine Za rfl rfl (Tc rfl rfl rfl (Zi rfl args_nil) (ref55_named_sim ek bi ).r ?_)
   rintro _ gv ⟨bY, bu, bj, rfl⟩
   refine Za rfl rfl (Exec.not rfl rfl (Zb (Ze ?_)))
   rcases ite_some y with ⟨an, y⟩ | ⟨an, y⟩
   ·refine W_cond_t rfl an (Zc (Zd (Za rfl rfl (Zo (v := Vi (8)) rfl rfl (Zb (Ze (W_ret (ib_ret (at_ret (at_ret (ib_ret (at_ret (at_ret ?_)))))))))))))
    have eY := Zu y
    subst aZ
    have dm := dt _ (d2 (by intro _ h; cases h))
    have eZ := Zu dm
    subst r
    refine ⟨_, ret1 rfl, ?_⟩
    exact ⟨bY, (Zt (Zt (Zt (Zt (Zt (Zt (Zt (Zt (Zt a b) d) j) o) p) ag) ao) a8) bu), (bj).drop, rfl⟩
   refine W_cond_f rfl an ?_
   replace an := Zk an
   refine W_skip (ib_normal (Ze (Zd (Za rfl rfl (Exec.add rfl aO rfl (Za rfl rfl (Zm (v := Vi (IntKind.i64.wrap ((d6 : Int) + 1))) rfl rfl (Zb (Ze ?_)))))))))
   have fa := Zu y
   subst aZ
   refine ⟨_, rfl, ?_⟩; exact ⟨bY, (Zt a8 bu), (bj).drop, bD, bE, (Eq.trans rfl (wrap_up dc (SliceRep.le (t.mono (Zt (Zt (Zt (Zt (Zt (Zt (Zt a b) d) j) o) p) ag) ao)))))⟩
  intro fP fs gw c9 d3
  obtain ⟨e5, dB, cR, dV, bF, eB⟩ := c9
  refine Zc (Zd (Za rfl rfl (Zq rfl eB bF (Zb (Ze (Zc (W_false (Zx (decide_eq_false (by omega))) (W_exit (at_exit (at_exit (ib_here (Ze ?_))))))))))))
  refine ⟨_, .inl d3, ?_⟩; exact ⟨e5, dB, cR, dV, bF⟩
 rintro ft gx ⟨fQ, bo, cH⟩
 have hm := bo.elim (dh _) (cX _)
 clear bo
 obtain ⟨e6, dC, cS, f7, f8⟩ := cH
 refine (Ze (Zc (Zd (Za rfl rfl (Zo (v := Vi (0)) rfl rfl (Zb (Ze (W_ret ?_))))))))
 have fb := Zu hm
 subst r
 refine ⟨_, ret1 rfl, ?_⟩
 exact ⟨e6, (Zt (Zt (Zt (Zt (Zt (Zt (Zt (Zt a b) d) j) o) p) ag) ao) dC), cS, rfl⟩
theorem ZZ77 : (Tryz.prog.info? 77).map (·.zero) = some (some (.int .i64 0)) := by kernel_rfl
theorem base_Num_sim {w0 w : World} {s : PHeap} {H : List Res} {a : (Option Int)}  {r : Int} (hm : base_Num_p a = some r) (hS : St w0 s (H) w)  :
  Calls Tryz.prog 9 #[errV 77 (a)] w fun e w' => ∃ v, e = .returned v ∧ ((fun (f : Int) => ∃ (d : PHeap) , PHeap.le s d ∧ St w0 d (H) w' ∧ v = Vi (f)) r) := by
 unfold base_Num_p at hm
 refine calls_of_W Tryz.func9 rfl rfl (Zc (Zd (Za rfl rfl (Zo (v := Vi (0)) rfl rfl (Zb (Ze (Zc (Zc (Zd (Za rfl rfl (Zm (v := errV 77 (a)) rfl rfl (Za rfl rfl (Exec.err_eql_nil (T := 77) Tryz.underlying36 rfl rfl rfl (Zb (Ze ?_)))))))))))))))
 rcases ite_some hm with ⟨b, hm⟩ | ⟨b, hm⟩
 ·refine W_cond_t rfl b (Zc (Zd (Za rfl rfl (Zo (v := Vi (0)) rfl rfl (Zb (Ze (W_ret (at_ret ?_))))))))
  have g := Zu hm
  subst r
  refine ⟨_, ret1 rfl, ?_⟩
  exact ⟨s, (Zv _), hS, rfl⟩
 refine W_cond_f rfl b ?_
 replace b := Zk b
 refine W_skip (Ze (Zc (Zc (Zd (Za rfl rfl (Zm (v := errV 77 (a)) rfl rfl (Za rfl rfl (Exec.err_assert Tryz.underlying77 ZZ77 rfl rfl (Za rfl rfl (Zm (v := Value.tuple #[Vi (a.getD 0), Value.bool (a.isSome)]) rfl rfl (Za rfl rfl (Exec.extract (v := Vi (a.getD 0)) rfl rfl rfl (Za rfl rfl (Exec.extract (v := Value.bool (a.isSome)) rfl rfl rfl (Za rfl rfl (Zo (v := Vi (a.getD 0)) rfl rfl (Za rfl rfl (Zo (v := Value.bool (a.isSome)) rfl rfl (Zb (Ze (Zc (Zd (Za rfl rfl (Zm (v := Value.bool (a.isSome)) rfl rfl (Zb (Ze ?_))))))))))))))))))))))))))
 rcases ite_some hm with ⟨c, hm⟩ | ⟨c, hm⟩
 ·refine W_cond_t rfl c (Zc (Zd (Za rfl rfl (Zm (v := Vi (a.getD 0)) rfl rfl (Za rfl rfl (Zo (v := Vi (a.getD 0)) rfl rfl (Zb (Ze (W_ret (at_ret ?_))))))))))
  have h := Zu hm
  subst r
  refine ⟨_, ret1 rfl, ?_⟩
  exact ⟨s, (Zv _), hS, rfl⟩
 refine W_cond_f rfl c ?_
 replace c := Zk c
 refine W_skip (Ze (Zc (Zd (Za rfl rfl (Zo (v := Vi ((-1))) rfl rfl (Zb (Ze (W_ret ?_))))))))
 have i := Zu hm
 subst r
 refine ⟨_, ret1 rfl, ?_⟩
 exact ⟨s, (Zv _), hS, rfl⟩
theorem ref55_Writes_sim {w0 w : World} {s : PHeap} {H : List Res} {a : Job} {g : Bool} {i : Value} {j : Value} {k : Value} {c : Value} {d : Value} {r : (List Fact)} (hm : ref55_Writes_p a g = some r) (hS : St w0 s (H) w) (p : SliceRep encFact s i a.Start) (q : SliceRep encFact s j a.Over) (t : SliceRep encFact s k a.End) (m : SliceRep encFact s c a.AtStart) (n : SliceRep encFact s d a.AtEnd) :
  Calls Tryz.prog 56 #[Value.agg #[Value.string (a.Name), Vi (a.Duration), i, j, k, c, d], Value.bool (g)] w fun e w' => ∃ v, e = .returned v ∧ ((fun (o : (List Fact)) => ∃ (h : PHeap) (l : Value), PHeap.le s h ∧ St w0 h (H) w' ∧ v = l ∧ SliceRep encFact h l o) r) := by
 unfold ref55_Writes_p at hm
 refine calls_of_W Tryz.func56 rfl rfl (Zc (Zd (Za rfl rfl (Exec.box (cs := [Value.string (a.Name), Vi (a.Duration), i, j, k, c, d]) hS rfl rfl rfl ?_))))
 intro u z f
 refine Za rfl rfl (Zo (v := Value.slice none 0 0) rfl rfl (Zb (Ze (Zc (Zc (Zd (Za rfl rfl (Zm (v := Value.bool (g)) rfl rfl (Zb (Ze ?_))))))))))
 rcases ite_some hm with ⟨b, hm⟩ | ⟨b, hm⟩
 ·refine W_cond_t rfl b (Zc (Zd (Za rfl rfl (Zp F59_6 rfl rfl rfl (Za rfl rfl (Zn (f) A23 rfl rfl rfl (Za rfl rfl (Zo (v := d) rfl rfl (Zb (Ze (W_ret (at_ret ?_))))))))))))
  have x := Zu hm
  subst r
  refine ⟨_, ret1 rfl, ?_⟩
  exact ⟨s, d, (Zv _), (f).drop, rfl, n⟩
 refine W_cond_f rfl b ?_
 replace b := Zk b
 refine W_skip (Ze (Zc (Zd (Za rfl rfl (Zp F59_5 rfl rfl rfl (Za rfl rfl (Zn (f) A23 rfl rfl rfl (Za rfl rfl (Zo (v := c) rfl rfl (Zb (Ze (W_ret ?_))))))))))))
 have y := Zu hm
 subst r
 refine ⟨_, ret1 rfl, ?_⟩
 exact ⟨s, c, (Zv _), (f).drop, rfl, m⟩
theorem ref58_touches_sim {w0 w : World} {s : PHeap} {H : List Res} {g : (List Fact)} {c : Int} {d : Value} {r : Bool} (hm : ref58_touches_p g c = some r) (hS : St w0 s (H) w) (j : SliceRep encFact s d g) :
  Calls Tryz.prog 68 #[d, Vi (c)] w fun e w' => ∃ v, e = .returned v ∧ ((fun (a5 : Bool) => ∃ (aa : PHeap) , PHeap.le s aa ∧ St w0 aa (H) w' ∧ v = Value.bool (a5)) r) := by
 unfold ref58_touches_p at hm
 refine calls_of_W Tryz.func68 rfl rfl (Zc (Zd (Za rfl rfl (Zo (v := Value.bool (false)) rfl rfl (Zb (Ze (Zc (Zc (Zd (Za rfl rfl (Zm (v := d) rfl rfl (Za rfl rfl (Zr S23 rfl rfl j (Za rfl rfl (Zm (v := Vi (0)) rfl rfl (Zb (Ze ?_)))))))))))))))))
 obtain ⟨o, af, aq, ao, am⟩ := ctl_some hm
 refine W_mid (M := fun f' w' => ∃ s', (o = .next s' ∨ o = .brk s') ∧ (fun (_ : Unit) => ∃ (ab : PHeap) , PHeap.le s ab ∧ St w0 ab (H) w' ∧ f' 1 = Vi (c) ∧ f' 7 = d ∧ f' 8 = Vi ((g.length : Int))) s') ?_ ?_
 ·refine W_block (W_forC (fun k' s' f' w' => (fun (_ : Unit) => ∃ (ac : PHeap) , PHeap.le s ac ∧ St w0 ac (H) w' ∧ f' 1 = Vi (c) ∧ f' 7 = d ∧ f' 8 = Vi ((g.length : Int)) ∧ f' 9 = Vi (k' : Int)) s') af ?_ ?_ ?_)
  ·exact ⟨s, (Zv _), hS, rfl, rfl, rfl, rfl⟩
  ·intro av aJ p aC aN an ag a ar
   obtain ⟨ad, m, q, u, x, y, n⟩ := ag
   refine Zc (Zd (Za rfl rfl (Zq rfl n y (Zb (Ze (Zc (W_true (Zx (decide_eq_true (by omega))) (W_skip (Ze (Zc (W_block (Zc (Zd ?_)))))))))))))
   obtain ⟨i, a0, a⟩ := Zg a
   refine Za rfl rfl (Exec.index_rep S23 rfl x n (j.mono m) a0 ?_)
   intro a6 aF ae
   refine Za rfl rfl (Zw (E := encFact) q A75 rfl rfl rfl ae ?_)
   intro aM a1
   obtain rfl := encFact_val.1 a1
   refine Za rfl rfl (Exec.alloc (cs := [Vi (0), Vi (0)]) q Z75 rfl rfl ?_)
   intro a7 aO aj
   refine Za rfl rfl (Exec.store_box (ds := [Vi (i.Var), Vi (i.Val)]) (es := [Vi (i.Var), Vi (i.Val)]) aj A75 rfl rfl rfl rfl (Zj rfl (Zj rfl one_nil)) (Nat.le_of_ble_eq_true rfl) rfl ?_)
   intro aP l
   refine Zb (Ze (Zc (Zd (Za rfl rfl (Zp F75_0 rfl rfl rfl (Za rfl rfl (Zn (l) A3 rfl rfl rfl (Za rfl rfl (Zm (v := Vi (c)) rfl u (Za rfl rfl (Exec.eql rfl rfl rfl (Zb (Ze ?_)))))))))))))
   rcases ite_some a with ⟨b, a⟩ | ⟨b, a⟩
   ·refine W_cond_t rfl b (Zc (Zd (Za rfl rfl (Zo (v := Value.bool (true)) rfl rfl (Zb (Ze (W_ret (ib_ret (at_ret (at_ret (ib_ret (at_ret (at_ret ?_)))))))))))))
    have a8 := Zu a
    subst p
    have ap := aq _ (ar (by intro _ h; cases h))
    have a9 := Zu ap
    subst r
    refine ⟨_, ret1 rfl, ?_⟩
    exact ⟨ad, m, (l).drop, rfl⟩
   refine W_cond_f rfl b ?_
   replace b := Zk b
   refine W_skip (ib_normal (Ze (Zd (Za rfl rfl (Exec.add rfl n rfl (Za rfl rfl (Zm (v := Vi (IntKind.i64.wrap ((av : Int) + 1))) rfl rfl (Zb (Ze ?_)))))))))
   have aA := Zu a
   subst p
   refine ⟨_, rfl, ?_⟩; exact ⟨ad, m, (l).drop, u, x, y, (Eq.trans rfl (wrap_up an (SliceRep.le j)))⟩
  intro aK aD aQ ah au
  obtain ⟨a2, aw, ak, ay, az, z, a4⟩ := ah
  refine Zc (Zd (Za rfl rfl (Zq rfl a4 z (Zb (Ze (Zc (W_false (Zx (decide_eq_false (by omega))) (W_exit (at_exit (at_exit (ib_here (Ze ?_))))))))))))
  refine ⟨_, .inl au, ?_⟩; exact ⟨a2, aw, ak, ay, az, z⟩
 rintro aE aR ⟨aL, t, ai⟩
 have hm := t.elim (ao _) (am _)
 clear t
 obtain ⟨a3, ax, al, aG, aH, aI⟩ := ai
 refine (Ze (Zc (Zd (Za rfl rfl (Zo (v := Value.bool (false)) rfl rfl (Zb (Ze (W_ret ?_))))))))
 have aB := Zu hm
 subst r
 refine ⟨_, ret1 rfl, ?_⟩
 exact ⟨a3, ax, al, rfl⟩
theorem ref55_Reads_sim {w0 w : World} {s : PHeap} {H : List Res} {a : Job} {g : Bool} {c : Value} {i : Value} {d : Value} {j : Value} {k : Value} {r : (List Fact)} (hm : ref55_Reads_p a g = some r) (hS : St w0 s (H) w) (m : SliceRep encFact s c a.Start) (p : SliceRep encFact s i a.Over) (n : SliceRep encFact s d a.End) (q : SliceRep encFact s j a.AtStart) (t : SliceRep encFact s k a.AtEnd) :
  Calls Tryz.prog 58 #[Value.agg #[Value.string (a.Name), Vi (a.Duration), c, i, d, j, k], Value.bool (g)] w fun e w' => ∃ v, e = .returned v ∧ ((fun (o : (List Fact)) => ∃ (h : PHeap) (l : Value), PHeap.le s h ∧ St w0 h (H) w' ∧ v = l ∧ SliceRep encFact h l o) r) := by
 unfold ref55_Reads_p at hm
 refine calls_of_W Tryz.func58 rfl rfl (Zc (Zd (Za rfl rfl (Exec.box (cs := [Value.string (a.Name), Vi (a.Duration), c, i, d, j, k]) hS rfl rfl rfl ?_))))
 intro u z f
 refine Za rfl rfl (Zo (v := Value.slice none 0 0) rfl rfl (Zb (Ze (Zc (Zc (Zd (Za rfl rfl (Zm (v := Value.bool (g)) rfl rfl (Zb (Ze ?_))))))))))
 rcases ite_some hm with ⟨b, hm⟩ | ⟨b, hm⟩
 ·refine W_cond_t rfl b (Zc (Zd (Za rfl rfl (Zp F59_4 rfl rfl rfl (Za rfl rfl (Zn (f) A23 rfl rfl rfl (Za rfl rfl (Zo (v := d) rfl rfl (Zb (Ze (W_ret (at_ret ?_))))))))))))
  have x := Zu hm
  subst r
  refine ⟨_, ret1 rfl, ?_⟩
  exact ⟨s, d, (Zv _), (f).drop, rfl, n⟩
 refine W_cond_f rfl b ?_
 replace b := Zk b
 refine W_skip (Ze (Zc (Zd (Za rfl rfl (Zp F59_2 rfl rfl rfl (Za rfl rfl (Zn (f) A23 rfl rfl rfl (Za rfl rfl (Zo (v := c) rfl rfl (Zb (Ze (W_ret ?_))))))))))))
 have y := Zu hm
 subst r
 refine ⟨_, ret1 rfl, ?_⟩
 exact ⟨s, c, (Zv _), (f).drop, rfl, m⟩
end Go.Pw
