/-
  The walks (printed by my generator).
-/
import Derived.Test.YthbgcahoknmmmaaGreatL29
import Derived.Test.YthbgcahoknmmmaaGreatL27
import Derived.Test.YthbgcahoknmmmaaGreatRz3
set_option maxRecDepth 100000
set_option maxHeartbeats 4000000
set_option linter.unusedVariables false
namespace Go.Pw
open Go.Proofs
theorem law58_awake_sim {w0 w : World} {s : PHeap} {H : List Res} {fu : Nat}  {r : Bool} (hm : law58_awake_p fu = some r) (hS : St w0 s (H) w)  :
  Calls Tryz.prog 5 #[] w fun e w' => ∃ v, e = .returned v ∧ ((fun (y22 : Bool) => ∃ (aa : PHeap) , PHeap.le s aa ∧ St w0 aa (H) w' ∧ v = Value.bool (y22)) r) := by
 unfold law58_awake_p at hm
 refine calls_of_W Tryz.func5 rfl rfl (Zc (Zd (Za rfl rfl (Zo (v := Value.bool (false)) rfl rfl (Zb (Ze (Zc (Zd (Za rfl rfl (Tc rfl rfl rfl args_nil (law58_lamp_sim law58_lamp_tot hS ).r ?_))))))))))
 rintro _ aK ⟨aD, aF, aG, aH, aI, al, ae, rfl, au, av, aw, ax⟩
 refine Za rfl rfl (Exec.build rfl (parts_cons (c := [Vi (0)]) (cells_of rfl rfl) parts_nil) (v := Value.agg #[Vi (0), Vi (0)]) (fun _ => by kernel_rfl) (Za rfl rfl (Exec.build rfl (parts_cons (c := [Vi (1)]) (cells_of rfl rfl) (parts_cons (c := [Vi (1)]) (cells_of rfl rfl) parts_nil)) (v := Value.agg #[Vi (1), Vi (1)]) (fun _ => by kernel_rfl) (Za rfl rfl (Exec.buildSlice (Te := 64) (cs := [Vi (0), Vi (0), Vi (1), Vi (1)]) ae rfl (parts_cons (c := [Vi (0), Vi (0)]) (cells_of rfl rfl) (parts_cons (c := [Vi (1), Vi (1)]) (cells_of rfl rfl) parts_nil)) (fun _ => by kernel_rfl) ?_)))))
 intro a1 aL af
 have ag := St.boxArr (E := encLaunch) (xs := [(⟨0, 0⟩ : Launch), (⟨1, 1⟩ : Launch)]) af ⟨[Vi (0), Vi (0)], [Vi (1), Vi (1)], rfl, ⟨[Vi (0)], [Vi (0)], rfl, rfl, rfl⟩, ⟨[Vi (1), Vi (1)], [], rfl, ⟨[Vi (1)], [Vi (1)], rfl, rfl, rfl⟩, rfl⟩⟩ (by simp [maxLen])
 obtain ⟨aE, m, ah, ay⟩ := ag.freezeArr
 obtain ⟨a0, ap, hm⟩ := Zg hm
 obtain ⟨o, u⟩ := a0
 replace hm := un2_eq hm
 refine Za rfl rfl (Tc rfl rfl rfl (Zi rfl (Zi rfl args_nil)) (simulate_Run_sim ap ah (au.mono m) (av.mono m) (aw.mono m) (ax.mono m) ay).r ?_)
 rintro _ aM ⟨l, p, q, t, am, ai, rfl, y, z, x⟩
 refine Za rfl rfl (Zm (v := Value.tuple #[Value.agg #[p, q, t, Vi (u.Makespan)], errV 77 (o)]) rfl rfl (Za rfl rfl (Exec.extract (v := Value.agg #[p, q, t, Vi (u.Makespan)]) rfl rfl rfl (Za rfl rfl (Exec.extract (v := errV 77 (o)) rfl rfl rfl (Za rfl rfl (Exec.alloc (cs := [Value.slice none 0 0, Value.slice none 0 0, Value.slice none 0 0, Vi (0)]) ai Z34 rfl rfl ?_)))))))
 intro a2 aN aj
 refine Za rfl rfl (Exec.store_box (ds := [p, q, t, Vi (u.Makespan)]) (es := [p, q, t, Vi (u.Makespan)]) aj A34 rfl rfl rfl rfl (Zj (y).one (Zj (z).one (Zj (x).one (Zj rfl one_nil)))) (Nat.le_of_ble_eq_true rfl) rfl ?_)
 intro aO b
 refine Za rfl rfl (Zo (v := errV 77 (o)) rfl rfl (Zb (Ze (Zc ?_))))
 obtain ⟨j, a, hm⟩ := Zg hm
 refine W_mid (M := fun f' w' => (fun (j : Bool) => ∃ (ab : PHeap) , PHeap.le l ab ∧ St w0 ab (H) w' ∧ f' 0 = Value.bool (j)) j) ?_ ?_
 ·refine Zd (Za rfl rfl (Zm (v := errV 77 (o)) rfl rfl (Za rfl rfl (Exec.err_eql_nil (T := 77) Tryz.underlying36 rfl rfl rfl (Za rfl rfl (Zm (v := Value.bool (o.isNone)) rfl rfl ?_))))))
  rcases ite_some a with ⟨k, a⟩ | ⟨k, a⟩
  ·refine WL_run rfl (Zf rfl (Zx k)) rfl (Zp F34_3 rfl rfl rfl (WL_run rfl (Zf rfl (Zx k)) rfl (Zn (b) A3 rfl rfl rfl (WL_run rfl (Zf rfl (Zx k)) rfl (Exec.eql rfl rfl rfl ?_)))))
   refine WL_passes 2 (by rw [k]; rfl) ?_
   rcases ite_some a with ⟨g, a⟩ | ⟨g, a⟩
   ·refine WL_run rfl (Zf rfl (Zx g)) rfl (Zp F34_0 rfl rfl rfl (WL_run rfl (Zf rfl (Zx g)) rfl (Zn (b) A30 rfl rfl rfl (WL_run rfl (Zf rfl (Zx g)) rfl (Zr S30 rfl rfl y (WL_run rfl (Zf rfl (Zx g)) rfl (Exec.eql rfl rfl rfl ?_)))))))
    refine WL_passes 2 (by rw [g]; rfl) ?_
    rcases ite_some a with ⟨h, a⟩ | ⟨h, a⟩
    ·refine WL_run rfl (Zf rfl (Zx h)) rfl (Zp F34_1 rfl rfl rfl (WL_run rfl (Zf rfl (Zx h)) rfl (Zn (b) A31 rfl rfl rfl (WL_run rfl (Zf rfl (Zx h)) rfl (Zr S31 rfl rfl z (WL_run rfl (Zf rfl (Zx h)) rfl (Exec.eql rfl rfl rfl ?_)))))))
     refine WL_passes 2 (by rw [h]; rfl) ?_
     rcases ite_some a with ⟨i, a⟩ | ⟨i, a⟩
     ·refine WL_run rfl (Zf rfl (Zx i)) rfl (Zp F34_2 rfl rfl rfl (WL_run rfl (Zf rfl (Zx i)) rfl (Zn (b) A32 rfl rfl rfl (WL_run rfl (Zf rfl (Zx i)) rfl (Zr S32 rfl rfl x (WL_run rfl (Zf rfl (Zx i)) rfl (Exec.eql rfl rfl rfl ?_)))))))
      refine WL_passes 2 (by rw [i]; rfl) ?_
      rcases ite_some a with ⟨d, a⟩ | ⟨d, a⟩
      ·refine WL_run rfl (Zf rfl (Zx d)) rfl (Zp F34_2 rfl rfl rfl (WL_run rfl (Zf rfl (Zx d)) rfl (Zn (b) A32 rfl rfl rfl ?_)))
       obtain ⟨n, aq, a⟩ := Zg a
       refine WL_run rfl (Zf rfl (Zx d)) rfl (Exec.index_rep S32 rfl rfl rfl x aq ?_)
       intro a3 aC ac
       refine WL_run rfl (Zf rfl (Zx d)) rfl (Zw (E := encsimulate_Problem) b A52 rfl rfl rfl ac ?_)
       intro aJ ar
       obtain rfl := encsimulate_Problem_val.1 ar
       refine WL_run rfl (Zf rfl (Zx d)) rfl (Exec.build rfl (parts_cons (c := [Vi (1)]) (cells_of rfl rfl) (parts_cons (c := [Vi (16)]) (cells_of rfl rfl) (parts_cons (c := [Vi (0)]) (cells_of rfl rfl) (parts_cons (c := [Vi ((-1))]) (cells_of rfl rfl) (parts_cons (c := [Vi (0)]) (cells_of rfl rfl) parts_nil))))) (v := Value.agg #[Vi (1), Vi (16), Vi (0), Vi ((-1)), Vi (0)]) (fun _ => by kernel_rfl) (WL_run rfl (Zf rfl (Zx d)) rfl (Exec.ints_eql (xs := [n.At, n.Kind, n.Launch, n.Other, n.Var]) (ys := [1, 16, 0, (-1), 0]) IS52 rfl rfl rfl rfl rfl rfl rfl ?_)))
       refine WL_passes 2 (by rw [d]; rfl) ?_
       refine Zb (Ze ?_)
       have a4 := Zu a
       subst j
       exact ⟨l, (Zv _), (b).drop, rfl⟩
      replace d := Zk d
      refine WL_passes 8 (by rw [d]; rfl) ?_
      refine Zb (Ze ?_)
      have a5 := Zu a
      subst j
      exact ⟨l, (Zv _), (b).drop, rfl⟩
     replace i := Zk i
     refine WL_passes 14 (by rw [i]; rfl) ?_
     refine Zb (Ze ?_)
     have a6 := Zu a
     subst j
     exact ⟨l, (Zv _), (b).drop, rfl⟩
    replace h := Zk h
    refine WL_passes 20 (by rw [h]; rfl) ?_
    refine Zb (Ze ?_)
    have a7 := Zu a
    subst j
    exact ⟨l, (Zv _), (b).drop, rfl⟩
   replace g := Zk g
   refine WL_passes 26 (by rw [g]; rfl) ?_
   refine Zb (Ze ?_)
   have a8 := Zu a
   subst j
   exact ⟨l, (Zv _), (b).drop, rfl⟩
  replace k := Zk k
  refine WL_passes 31 (by rw [k]; rfl) ?_
  refine Zb (Ze ?_)
  have a9 := Zu a
  subst j
  exact ⟨l, (Zv _), (b).drop, rfl⟩
 intro aB aP ad
 obtain ⟨az, an, ak, ao⟩ := ad
 refine (Ze (W_ret ?_))
 have aA := Zu hm
 subst r
 refine ⟨_, ret1 rfl, ?_⟩
 exact ⟨az, (Zt (Zt (Zt al m) am) an), ak, ao⟩
theorem law58_few_sim {w0 w : World} {s : PHeap} {H : List Res} {b : Temporal} {u : (List Launch)} {y : Value} {z : Value} {aa : Value} {n : Value} {ah : Value} {r : Bool} (hm : law58_few_p b u = some r) (hS : St w0 s (H) w) (aB : SliceRep (encInt .i64) s y b.Vars) (bj : SliceRep (encInt .i64) s z b.Init) (aC : SliceRep encFact s aa b.Goal) (t : SliceRep encJob s n b.Jobs) (aD : SliceRep encLaunch s ah u) :
  Calls Tryz.prog 6 #[Value.agg #[y, z, aa, n], ah] w fun e w' => ∃ v, e = .returned v ∧ ((fun (bi : Bool) => ∃ (a0 : PHeap) , PHeap.le s a0 ∧ St w0 a0 (H) w' ∧ v = Value.bool (bi)) r) := by
 unfold law58_few_p at hm
 refine calls_of_W Tryz.func6 rfl rfl (Zc (Zd (Za rfl rfl (Exec.box (cs := [y, z, aa, n]) hS rfl rfl rfl ?_))))
 intro ai b4 l
 refine Za rfl rfl (Zo (v := Value.bool (false)) rfl rfl (Zb (Ze (Zc (Zc (W_mid (M := fun f' w' => ∃ (a1 : PHeap) , PHeap.le s a1 ∧ St w0 a1 (Res.box ai 26 [y, z, aa, n] :: H) w' ∧ f' 2 = Value.pointer (some ⟨ai, 0, none⟩) ∧ f' 27 = Value.bool (((decide (70 < (b.Vars.length : Int))) || ((decide (30 < (b.Jobs.length : Int))) || ((decide (20 < (u.length : Int))) || decide (80 < (b.Goal.length : Int))))))) ?_ ?_))))))
 ·refine Zd (Za rfl rfl (Zp F26_0 rfl rfl rfl (Za rfl rfl (Zn (l) A22 rfl rfl rfl (Za rfl rfl (Zr S22 rfl rfl aB (Za rfl rfl (Exec.gtr rfl rfl rfl (Za rfl rfl (Zm (v := Value.bool (decide (70 < (b.Vars.length : Int)))) rfl rfl ?_))))))))))
  by_cases c : (decide (70 < (b.Vars.length : Int))) = true
  ·refine WL_passes 16 (by rw [c]; rfl) ?_
   refine Zb (Ze ?_)
   exact ⟨s, (Zv _), l, rfl, (Zx (or_t c)).symm⟩
  replace c := Zk c
  refine WL_run rfl (Zf rfl (Zx c)) rfl (Zp F26_3 rfl rfl rfl (WL_run rfl (Zf rfl (Zx c)) rfl (Zn (l) A24 rfl rfl rfl (WL_run rfl (Zf rfl (Zx c)) rfl (Zr S24 rfl rfl t (WL_run rfl (Zf rfl (Zx c)) rfl (Exec.gtr rfl rfl rfl ?_)))))))
  refine WL_passes 2 (by rw [c]; rfl) ?_
  by_cases d : (decide (30 < (b.Jobs.length : Int))) = true
  ·refine WL_passes 10 (by rw [d]; rfl) ?_
   refine Zb (Ze ?_)
   exact ⟨s, (Zv _), l, rfl, (Zx (Eq.trans (or_f c) (or_t d))).symm⟩
  replace d := Zk d
  refine WL_run rfl (Zf rfl (Zx d)) rfl (Zm (v := ah) rfl rfl (WL_run rfl (Zf rfl (Zx d)) rfl (Zr S27 rfl rfl aD (WL_run rfl (Zf rfl (Zx d)) rfl (Exec.gtr rfl rfl rfl ?_)))))
  refine WL_passes 2 (by rw [d]; rfl) ?_
  by_cases g : (decide (20 < (u.length : Int))) = true
  ·refine WL_passes 5 (by rw [g]; rfl) ?_
   refine Zb (Ze ?_)
   exact ⟨s, (Zv _), l, rfl, (Zx (Eq.trans (or_f c) (Eq.trans (or_f d) (or_t g)))).symm⟩
  replace g := Zk g
  refine WL_run rfl (Zf rfl (Zx g)) rfl (Zp F26_2 rfl rfl rfl (WL_run rfl (Zf rfl (Zx g)) rfl (Zn (l) A23 rfl rfl rfl (WL_run rfl (Zf rfl (Zx g)) rfl (Zr S23 rfl rfl aC (WL_run rfl (Zf rfl (Zx g)) rfl (Exec.gtr rfl rfl rfl (Za rfl rfl (Exec.pick_f (v := Value.bool (decide (80 < (b.Goal.length : Int)))) rfl (Zx g) rfl (Zb (Ze ?_)))))))))))
  exact ⟨s, (Zv _), l, rfl, (Zx (Eq.trans (or_f c) (Eq.trans (or_f d) (or_f g)))).symm⟩
 intro br b5 aI
 obtain ⟨x, o, ac, aY, aq⟩ := aI
 refine (Ze ?_)
 rcases ite_some hm with ⟨p, hm⟩ | ⟨p, hm⟩
 ·refine W_cond_t aq p (Zc (Zd (Za rfl rfl (Zo (v := Value.bool (false)) rfl rfl (Zb (Ze (W_ret (at_ret ?_))))))))
  have bm := Zu hm
  subst r
  refine ⟨_, ret1 rfl, ?_⟩
  exact ⟨x, o, (ac).drop, rfl⟩
 refine W_cond_f aq p ?_
 replace p := Zk p
 refine W_skip (Ze (Zc (Zc (Zd (Za rfl rfl (Zp F26_3 rfl aY rfl (Za rfl rfl (Zn (ac) A24 rfl rfl rfl (Za rfl rfl (Zr S24 rfl rfl (t.mono o) (Za rfl rfl (Zm (v := Vi (0)) rfl rfl (Zb (Ze ?_))))))))))))))
 obtain ⟨aj, aF, aT, aR, aP⟩ := ctl_some hm
 refine W_mid (M := fun f' w' => ∃ s', (aj = .next s' ∨ aj = .brk s') ∧ (fun (_ : Unit) => ∃ (a2 : PHeap) , PHeap.le x a2 ∧ St w0 a2 (H) w' ∧ f' 29 = n ∧ f' 30 = Vi ((b.Jobs.length : Int))) s') ?_ ?_
 ·refine W_block (W_forC (fun k' s' f' w' => (fun (_ : Unit) => ∃ (a3 : PHeap) , PHeap.le x a3 ∧ St w0 a3 (H) w' ∧ f' 29 = n ∧ f' 30 = Vi ((b.Jobs.length : Int)) ∧ f' 31 = Vi (k' : Int)) s') aF ?_ ?_ ?_)
  ·have aL := (ac).drop
   exact ⟨x, (Zv _), aL, rfl, rfl, rfl⟩
  ·intro ao b0 ak bs b6 aQ aG m aU
   obtain ⟨ag, ad, al, ae, af, ab⟩ := aG
   refine Zc (Zd (Za rfl rfl (Zq rfl ab af (Zb (Ze (Zc (W_true (Zx (decide_eq_true (by omega))) (W_skip (Ze (Zc (W_block (Zc (Zd ?_)))))))))))))
   obtain ⟨a, bd, m⟩ := Zg m
   refine Za rfl rfl (Exec.index_rep S24 rfl ae ab (t.mono (Zt o ad)) bd ?_)
   intro bk bw aE
   refine Za rfl rfl (Zw (E := encJob) al A59 rfl rfl rfl aE ?_)
   intro b3 be
   obtain ⟨a6, a7, a8, a9, aA, rfl, av, aw, ax, ay, az⟩ := encJob_val.1 be
   refine Za rfl rfl (Exec.alloc (cs := [Value.string (⟨#[]⟩), Vi (0), Value.slice none 0 0, Value.slice none 0 0, Value.slice none 0 0, Value.slice none 0 0, Value.slice none 0 0]) al Z59 rfl rfl ?_)
   intro bl b7 aM
   refine Za rfl rfl (Exec.store_box (ds := [Value.string (a.Name), Vi (a.Duration), a6, a7, a8, a9, aA]) (es := [Value.string (a.Name), Vi (a.Duration), a6, a7, a8, a9, aA]) aM A59 rfl rfl rfl rfl (Zj rfl (Zj rfl (Zj (av).one (Zj (aw).one (Zj (ax).one (Zj (ay).one (Zj (az).one one_nil))))))) (Nat.le_of_ble_eq_true rfl) rfl ?_)
   intro b8 j
   refine Zb (Ze (Zc (W_mid (M := fun f' w' => ∃ (a4 : PHeap) , PHeap.le ag a4 ∧ St w0 a4 (H) w' ∧ f' 29 = n ∧ f' 30 = Vi ((b.Jobs.length : Int)) ∧ f' 31 = Vi ((ao : Int)) ∧ f' 60 = Value.bool (((decide (100 < (IntKind.i64.wrap ((IntKind.i64.wrap ((IntKind.i64.wrap ((IntKind.i64.wrap ((a.Start.length : Int) + (a.Over.length : Int))) + (a.End.length : Int))) + (a.AtStart.length : Int))) + (a.AtEnd.length : Int))))) || decide (300 < (a.Name.size : Int))))) ?_ ?_)))
   ·refine Zd (Za rfl rfl (Zp F59_2 rfl rfl rfl (Za rfl rfl (Zn (j) A23 rfl rfl rfl (Za rfl rfl (Zr S23 rfl rfl av (Za rfl rfl (Zp F59_3 rfl rfl rfl (Za rfl rfl (Zn (j) A23 rfl rfl rfl (Za rfl rfl (Zr S23 rfl rfl aw (Za rfl rfl (Exec.add rfl rfl rfl (Za rfl rfl (Zp F59_4 rfl rfl rfl (Za rfl rfl (Zn (j) A23 rfl rfl rfl (Za rfl rfl (Zr S23 rfl rfl ax (Za rfl rfl (Exec.add rfl rfl rfl (Za rfl rfl (Zp F59_5 rfl rfl rfl (Za rfl rfl (Zn (j) A23 rfl rfl rfl (Za rfl rfl (Zr S23 rfl rfl ay (Za rfl rfl (Exec.add rfl rfl rfl (Za rfl rfl (Zp F59_6 rfl rfl rfl (Za rfl rfl (Zn (j) A23 rfl rfl rfl (Za rfl rfl (Zr S23 rfl rfl az (Za rfl rfl (Exec.add rfl rfl rfl (Za rfl rfl (Exec.gtr rfl rfl rfl (Za rfl rfl (Zm (v := Value.bool (decide (100 < (IntKind.i64.wrap ((IntKind.i64.wrap ((IntKind.i64.wrap ((IntKind.i64.wrap ((a.Start.length : Int) + (a.Over.length : Int))) + (a.End.length : Int))) + (a.AtStart.length : Int))) + (a.AtEnd.length : Int)))))) rfl rfl ?_))))))))))))))))))))))))))))))))))))))))))
    by_cases i : (decide (100 < (IntKind.i64.wrap ((IntKind.i64.wrap ((IntKind.i64.wrap ((IntKind.i64.wrap ((a.Start.length : Int) + (a.Over.length : Int))) + (a.End.length : Int))) + (a.AtStart.length : Int))) + (a.AtEnd.length : Int))))) = true
    ·refine WL_passes 5 (by rw [i]; rfl) ?_
     refine Zb (Ze ?_)
     exact ⟨ag, (Zv _), (j).drop, ae, af, ab, (Zx (or_t i)).symm⟩
    replace i := Zk i
    refine WL_run rfl (Zf rfl (Zx i)) rfl (Zp F59_0 rfl rfl rfl (WL_run rfl (Zf rfl (Zx i)) rfl (Zn (j) A9 rfl rfl rfl (WL_run rfl (Zf rfl (Zx i)) rfl (Exec.len_str Tryz.underlying9 rfl rfl (WL_run rfl (Zf rfl (Zx i)) rfl (Exec.gtr rfl rfl rfl (Za rfl rfl (Exec.pick_f (v := Value.bool (decide (300 < (a.Name.size : Int)))) rfl (Zx i) rfl (Zb (Ze ?_)))))))))))
    exact ⟨ag, (Zv _), (j).drop, ae, af, ab, (Zx (or_f i)).symm⟩
   intro bt b9 aJ
   obtain ⟨a5, ap, am, aZ, ba, bb, ar⟩ := aJ
   refine (Ze ?_)
   rcases ite_some m with ⟨q, m⟩ | ⟨q, m⟩
   ·refine W_cond_t ar q (Zc (Zd (Za rfl rfl (Zo (v := Value.bool (false)) rfl rfl (Zb (Ze (W_ret (ib_ret (at_ret (at_ret (ib_ret (at_ret (at_ret ?_)))))))))))))
    have bn := Zu m
    subst ak
    have aS := aT _ (aU (by intro _ h; cases h))
    have bo := Zu aS
    subst r
    refine ⟨_, ret1 rfl, ?_⟩
    exact ⟨a5, (Zt (Zt o ad) ap), am, rfl⟩
   refine W_cond_f ar q ?_
   replace q := Zk q
   refine W_skip (ib_normal (Ze (Zd (Za rfl rfl (Exec.add rfl bb rfl (Za rfl rfl (Zm (v := Vi (IntKind.i64.wrap ((ao : Int) + 1))) rfl rfl (Zb (Ze ?_)))))))))
   have bp := Zu m
   subst ak
   refine ⟨_, rfl, ?_⟩; exact ⟨a5, (Zt ad ap), am, aZ, ba, (Eq.trans rfl (wrap_up aQ (SliceRep.le (t.mono o))))⟩
  intro b1 bu bA aH aV
  obtain ⟨bf, aW, aN, bc, au, bh⟩ := aH
  refine Zc (Zd (Za rfl rfl (Zq rfl bh au (Zb (Ze (Zc (W_false (Zx (decide_eq_false (by omega))) (W_exit (at_exit (at_exit (ib_here (Ze ?_))))))))))))
  refine ⟨_, .inl aV, ?_⟩; exact ⟨bf, aW, aN, bc, au⟩
 rintro bv bB ⟨b2, an, aK⟩
 have hm := an.elim (aR _) (aP _)
 clear an
 obtain ⟨bg, aX, aO, bx, bz⟩ := aK
 refine (Ze (Zc (Zd (Za rfl rfl (Zo (v := Value.bool (true)) rfl rfl (Zb (Ze (W_ret ?_))))))))
 have bq := Zu hm
 subst r
 refine ⟨_, ret1 rfl, ?_⟩
 exact ⟨bg, (Zt o aX), aO, rfl⟩
theorem ref55_lists_sim {w0 w : World} {s : PHeap} {H : List Res} {h : Temporal} {ac : Value} {ad : Value} {m : Value} {p : Value} {r : (List (List Fact))} (hm : ref55_lists_p h = some r) (hS : St w0 s (H) w) (aI : SliceRep (encInt .i64) s ac h.Vars) (aJ : SliceRep (encInt .i64) s ad h.Init) (af : SliceRep encFact s m h.Goal) (q : SliceRep encJob s p h.Jobs) :
  Calls Tryz.prog 22 #[Value.agg #[ac, ad, m, p]] w fun e w' => ∃ v, e = .returned v ∧ ((fun (aH : (List (List Fact))) => ∃ (ab : PHeap) (ao : Value), PHeap.le s ab ∧ St w0 ab (H) w' ∧ v = ao ∧ SliceRep (encSlice encFact) ab ao aH) r) := by
 unfold ref55_lists_p at hm
 refine calls_of_W Tryz.func22 rfl rfl (Zc (Zd (Za rfl rfl (Exec.box (cs := [ac, ad, m, p]) hS rfl rfl rfl ?_))))
 intro aK aX ah
 refine Za rfl rfl (Zo (v := Value.slice none 0 0) rfl rfl (Zb (Ze (Zc (Zd (Za rfl rfl (Zp F26_2 rfl rfl rfl (Za rfl rfl (Zn (ah) A23 rfl rfl rfl (Za rfl rfl (Exec.buildSlice (Te := 23) (cs := [m]) ah rfl (parts_cons (c := [m]) (cells_of rfl (cells_one (af).one)) parts_nil) (fun _ => by kernel_rfl) ?_)))))))))))
 intro ag aY ai
 refine Za rfl rfl (Zo (v := Value.slice (some ⟨ag, 0, none⟩) 1 1) rfl rfl (Zb (Ze (Zc (Zc (Zd (Za rfl rfl (Zp F26_3 rfl rfl rfl (Za rfl rfl (Zn ((ai).f1) A24 rfl rfl rfl (Za rfl rfl (Zr S24 rfl rfl q (Za rfl rfl (Zm (v := Vi (0)) rfl rfl (Zb (Ze ?_))))))))))))))))
 obtain ⟨t, ar, hm⟩ := Zg hm
 refine W_block (W_forS (fun k' s' f' w' => (fun (t : (List (List Fact))) => ∃ (an : PHeap) (g : Value), PHeap.le s an ∧ St w0 an (Res.arr (encSlice encFact) 23 g t :: H) w' ∧ f' 3 = g ∧ f' 10 = p ∧ f' 11 = Vi ((h.Jobs.length : Int)) ∧ f' 12 = Vi (k' : Int)) s') ar ?_ ?_ ?_)
 ·have aw := St.boxArr (E := (encSlice encFact)) (xs := [h.Goal]) ai ⟨[m], [], rfl, ⟨_, rfl, af⟩, rfl⟩ (by simp [maxLen])
  exact ⟨s, (Value.slice (some ⟨ag, 0, none⟩) 1 1), (Zv _), ((aw).f1).drop, rfl, rfl, rfl, rfl⟩
 ·intro a3 t aD aQ aZ a2 au n
  obtain ⟨aE, g, ak, aj, a6, al, am, ae⟩ := au
  refine Zc (Zd (Za rfl rfl (Zq rfl ae am (Zb (Ze (Zc (W_true (Zx (decide_eq_true (by omega))) (W_skip (Ze (Zc (W_block (Zc (Zd ?_)))))))))))))
  obtain ⟨b, a9, n⟩ := Zg n
  refine Za rfl rfl (Exec.index_rep S24 rfl al ae (q.mono ak) a9 ?_)
  intro aL aT aq
  refine Za rfl rfl (Zw (E := encJob) aj A59 rfl rfl rfl aq ?_)
  intro aW aA
  obtain ⟨o, l, i, d, a, rfl, u, x, y, z, aa⟩ := encJob_val.1 aA
  refine Za rfl rfl (Exec.alloc (cs := [Value.string (⟨#[]⟩), Vi (0), Value.slice none 0 0, Value.slice none 0 0, Value.slice none 0 0, Value.slice none 0 0, Value.slice none 0 0]) aj Z59 rfl rfl ?_)
  intro aM ba ax
  refine Za rfl rfl (Exec.store_box (ds := [Value.string (b.Name), Vi (b.Duration), o, l, i, d, a]) (es := [Value.string (b.Name), Vi (b.Duration), o, l, i, d, a]) ax A59 rfl rfl rfl rfl (Zj rfl (Zj rfl (Zj (u).one (Zj (x).one (Zj (y).one (Zj (z).one (Zj (aa).one one_nil))))))) (Nat.le_of_ble_eq_true rfl) rfl ?_)
  intro bb j
  refine Zb (Ze (Zd (Za rfl rfl (Zm (v := g) rfl a6 (Za rfl rfl (Zp F59_2 rfl rfl rfl (Za rfl rfl (Zn (j) A23 rfl rfl rfl (Za rfl rfl (Zp F59_3 rfl rfl rfl (Za rfl rfl (Zn (j) A23 rfl rfl rfl (Za rfl rfl (Zp F59_4 rfl rfl rfl (Za rfl rfl (Zn (j) A23 rfl rfl rfl (Za rfl rfl (Zp F59_5 rfl rfl rfl (Za rfl rfl (Zn (j) A23 rfl rfl rfl (Za rfl rfl (Zp F59_6 rfl rfl rfl (Za rfl rfl (Zn (j) A23 rfl rfl rfl (Za rfl rfl (Exec.buildSlice (Te := 23) (cs := [o, l, i, d, a]) j rfl (parts_cons (c := [o]) (cells_of rfl (cells_one (u).one)) (parts_cons (c := [l]) (cells_of rfl (cells_one (x).one)) (parts_cons (c := [i]) (cells_of rfl (cells_one (y).one)) (parts_cons (c := [d]) (cells_of rfl (cells_one (z).one)) (parts_cons (c := [a]) (cells_of rfl (cells_one (aa).one)) parts_nil))))) (fun _ => by kernel_rfl) ?_))))))))))))))))))))))))))
  intro aN bc ay
  obtain ⟨aS, aB, n⟩ := Zg n
  refine Za rfl rfl (Exec.append_box (E := (encSlice encFact)) (ys := [b.Start, b.Over, b.End, b.AtStart, b.AtEnd]) (ay).f2 S78 Z23 rfl (by decide) rfl rfl rfl rfl ⟨[o], [l, i, d, a], rfl, ⟨_, rfl, u⟩, ⟨[l], [i, d, a], rfl, ⟨_, rfl, x⟩, ⟨[i], [d, a], rfl, ⟨_, rfl, y⟩, ⟨[d], [a], rfl, ⟨_, rfl, z⟩, ⟨[a], [], rfl, ⟨_, rfl, aa⟩, rfl⟩⟩⟩⟩⟩ rfl aB ?_)
  intro ap bd az
  refine Za rfl rfl (Zo (v := ap) rfl rfl (Zb (ib_normal (Ze (Zd (Za rfl rfl (Exec.add rfl ae rfl (Za rfl rfl (Zm (v := Vi (IntKind.i64.wrap ((a3 : Int) + 1))) rfl rfl (Zb (Ze ?_)))))))))))
  have aO := Zu n
  subst aD
  exact ⟨aE, ap, ak, ((az).f1).drop, rfl, al, am, (Eq.trans rfl (wrap_up a2 (SliceRep.le q)))⟩
 intro aR be av
 obtain ⟨aV, g, a4, a0, a7, aU, a8, aG⟩ := av
 refine Zc (Zd (Za rfl rfl (Zq rfl aG a8 (Zb (Ze (Zc (W_false (Zx (decide_eq_false (by omega))) (W_exit (at_exit (at_exit (ib_here (Ze (Zc (Zd (Za rfl rfl (Zm (v := g) rfl a7 (Za rfl rfl (Zo (v := g) rfl rfl (Zb (Ze (W_ret ?_)))))))))))))))))))))
 have aP := Zu hm
 subst r
 refine ⟨_, ret1 rfl, ?_⟩
 obtain ⟨aF, a5, a1, aC⟩ := a0.freezeArr
 exact ⟨aF, g, (Zt a4 a5), a1, rfl, aC⟩
theorem base_State_sim {w0 w : World} {s : PHeap} {H : List Res} {ao : (List Int)} {p : (List Int)} {i : Value} {c : Value} {r : Bool} (hm : base_State_p ao p = some r) (hS : St w0 s (H) w) (aa : SliceRep (encInt .i64) s i ao) (j : SliceRep (encInt .i64) s c p) :
  Calls Tryz.prog 23 #[i, c] w fun e w' => ∃ v, e = .returned v ∧ ((fun (aP : Bool) => ∃ (aj : PHeap) , PHeap.le s aj ∧ St w0 aj (H) w' ∧ v = Value.bool (aP)) r) := by
 unfold base_State_p at hm
 refine calls_of_W Tryz.func23 rfl rfl (Zc (Zd (Za rfl rfl (Zo (v := Value.bool (false)) rfl rfl (Zb (Ze (Zc (Zc (Zd (Za rfl rfl (Zm (v := c) rfl rfl (Za rfl rfl (Zr S22 rfl rfl j (Za rfl rfl (Zm (v := i) rfl rfl (Za rfl rfl (Zr S22 rfl rfl aa (Za rfl rfl (Exec.neq rfl rfl rfl (Zb (Ze ?_)))))))))))))))))))))
 rcases ite_some hm with ⟨m, hm⟩ | ⟨m, hm⟩
 ·refine W_cond_t rfl m (Zc (Zd (Za rfl rfl (Zo (v := Value.bool (false)) rfl rfl (Zb (Ze (W_ret (at_ret ?_))))))))
  have aT := Zu hm
  subst r
  refine ⟨_, ret1 rfl, ?_⟩
  exact ⟨s, (Zv _), hS, rfl⟩
 refine W_cond_f rfl m ?_
 replace m := Zk m
 refine W_skip (Ze (Zc (Zc (Zd (Za rfl rfl (Zm (v := c) rfl rfl (Za rfl rfl (Zr S22 rfl rfl j (Za rfl rfl (Zm (v := Vi (0)) rfl rfl (Zb (Ze ?_))))))))))))
 obtain ⟨ab, av, a6, a4, a2⟩ := ctl_some hm
 refine W_mid (M := fun f' w' => ∃ s', (ab = .next s' ∨ ab = .brk s') ∧ (fun (_ : Unit) => ∃ (ak : PHeap) , PHeap.le s ak ∧ St w0 ak (H) w' ∧ f' 0 = i ∧ f' 1 = c ∧ f' 12 = Vi ((p.length : Int))) s') ?_ ?_
 ·refine W_block (W_forC (fun k' s' f' w' => (fun (_ : Unit) => ∃ (al : PHeap) , PHeap.le s al ∧ St w0 al (H) w' ∧ f' 0 = i ∧ f' 1 = c ∧ f' 12 = Vi ((p.length : Int)) ∧ f' 13 = Vi (k' : Int)) s') av ?_ ?_ ?_)
  ·exact ⟨s, (Zv _), hS, rfl, rfl, rfl, rfl⟩
  ·intro g bn ac bd bt a3 aw d a7
   obtain ⟨z, o, l, x, t, y, u⟩ := aw
   refine Zc (Zd (Za rfl rfl (Zq rfl u y (Zb (Ze (Zc (W_true (Zx (decide_eq_true (by omega))) (W_skip (Ze (Zc (W_block (Zc (Zd (Za rfl rfl (Zm (v := Vi ((g : Int))) rfl u (Za rfl rfl (Zo (v := Vi ((g : Int))) rfl rfl (Zb (Ze (Zc ?_))))))))))))))))))))
   obtain ⟨q, b, d⟩ := Zg d
   refine W_mid (M := fun f' w' => (fun (q : Bool) => ∃ (am : PHeap) , PHeap.le z am ∧ St w0 am (H) w' ∧ f' 0 = i ∧ f' 1 = c ∧ f' 12 = Vi ((p.length : Int)) ∧ f' 13 = Vi ((g : Int)) ∧ f' 31 = Value.bool (q)) q) ?_ ?_
   ·refine W_dl (n0 := 16) (qs 0 16 .done) hmix (by kernel_rfl) (by kernel_rfl) (DL_q rfl rfl (Zm (v := c) rfl t ⟨rfl, ?_⟩))
    refine DL_q rfl rfl (Zm (v := Vi ((g : Int))) rfl rfl ⟨rfl, ?_⟩)
    obtain ⟨ap, ai, b⟩ := Zg b
    refine DL_q rfl rfl (Exec.index_repE S22 rfl rfl rfl (j.mono o) ai ?_)
    intro aQ bh aq aU
    refine ⟨rfl, ?_⟩
    refine DL_q rfl rfl (Zw (E := (encInt .i64)) l.drew A3 rfl rfl rfl aq ?_)
    intro bq aH
    obtain rfl := encInt_val.1 aH
    refine ⟨rfl, ?_⟩
    refine DL_q rfl rfl (Zq rfl rfl rfl ⟨rfl, ?_⟩)
    refine DL_q rfl rfl (Zm (v := Value.bool (decide (ap < 0))) rfl rfl ⟨rfl, ?_⟩)
    rcases ite_some b with ⟨a, b⟩ | ⟨a, b⟩
    ·refine DL_passes 10 (by rw [a]; rfl) ?_
     refine DL_done (Zb (Ze ?_))
     have aV := Zu b
     subst q
     exact ⟨z, (Zv _), l.drew, x, t, y, u, rfl⟩
    replace a := Zk a
    refine DL_qg rfl rfl (Zf rfl (Zx a)) (Zm (v := c) rfl t ⟨rfl, ?_⟩)
    refine DL_qg rfl rfl (Zf rfl (Zx a)) (Zm (v := Vi ((g : Int))) rfl rfl ⟨rfl, ?_⟩)
    refine DL_qg rfl rfl (Zf rfl (Zx a)) (Exec.index_repE S22 rfl rfl rfl (j.mono o) ai ?_)
    intro aR bi ar aW
    refine ⟨rfl, ?_⟩
    refine DL_qg rfl rfl (Zf rfl (Zx a)) (Zw (E := (encInt .i64)) l.drew A3 rfl rfl rfl ar ?_)
    intro br aI
    obtain rfl := encInt_val.1 aI
    refine ⟨rfl, ?_⟩
    refine DL_qg rfl rfl (Zf rfl (Zx a)) (Zm (v := i) rfl x ⟨rfl, ?_⟩)
    refine DL_qg rfl rfl (Zf rfl (Zx a)) (Zm (v := Vi ((g : Int))) rfl rfl ⟨rfl, ?_⟩)
    obtain ⟨aN, aJ, b⟩ := Zg b
    refine DL_qg rfl rfl (Zf rfl (Zx a)) (Exec.index_repE S22 rfl rfl rfl (aa.mono o) aJ ?_)
    intro aS bj au aX
    refine ⟨rfl, ?_⟩
    refine DL_qg rfl rfl (Zf rfl (Zx a)) (Zw (E := (encInt .i64)) l.drew A3 rfl rfl rfl au ?_)
    intro bs aK
    obtain rfl := encInt_val.1 aK
    refine ⟨rfl, ?_⟩
    refine DL_qg rfl rfl (Zf rfl (Zx a)) (Exec.geq rfl rfl rfl ⟨rfl, ?_⟩)
    refine DL_q rfl rfl (Exec.pick_f (v := Value.bool (decide (aN ≤ ap))) rfl (Zx a) rfl ⟨rfl, ?_⟩)
    refine DL_done (Zb (Ze ?_))
    have aY := Zu b
    subst q
    exact ⟨z, (Zv _), l.drew, x, t, y, u, rfl⟩
   intro be bu ay
   obtain ⟨an, af, ad, aB, aC, aD, aE, ag⟩ := ay
   refine (Ze ?_)
   rcases ite_some d with ⟨n, d⟩ | ⟨n, d⟩
   ·refine W_cond_t ag n (Zc (Zd (Za rfl rfl (Zo (v := Value.bool (false)) rfl rfl (Zb (Ze (W_ret (ib_ret (at_ret (at_ret (ib_ret (at_ret (at_ret ?_)))))))))))))
    have aZ := Zu d
    subst ac
    have a5 := a6 _ (a7 (by intro _ h; cases h))
    have ba := Zu a5
    subst r
    refine ⟨_, ret1 rfl, ?_⟩
    exact ⟨an, (Zt o af), ad, rfl⟩
   refine W_cond_f ag n ?_
   replace n := Zk n
   refine W_skip (ib_normal (Ze (Zd (Za rfl rfl (Exec.add rfl aE rfl (Za rfl rfl (Zm (v := Vi (IntKind.i64.wrap ((g : Int) + 1))) rfl rfl (Zb (Ze ?_)))))))))
   have bb := Zu d
   subst ac
   refine ⟨_, rfl, ?_⟩; exact ⟨an, (Zt o af), ad, aB, aC, aD, (Eq.trans rfl (wrap_up a3 (SliceRep.le j)))⟩
  intro bo bf bv ax a8
  obtain ⟨aL, a9, a0, aF, aG, ah, aO⟩ := ax
  refine Zc (Zd (Za rfl rfl (Zq rfl aO ah (Zb (Ze (Zc (W_false (Zx (decide_eq_false (by omega))) (W_exit (at_exit (at_exit (ib_here (Ze ?_))))))))))))
  refine ⟨_, .inl a8, ?_⟩; exact ⟨aL, a9, a0, aF, aG, ah⟩
 rintro bg bw ⟨bp, ae, az⟩
 have hm := ae.elim (a4 _) (a2 _)
 clear ae
 obtain ⟨aM, aA, a1, bk, bl, bm⟩ := az
 refine (Ze (Zc (Zd (Za rfl rfl (Zo (v := Value.bool (true)) rfl rfl (Zb (Ze (W_ret ?_))))))))
 have bc := Zu hm
 subst r
 refine ⟨_, ret1 rfl, ?_⟩
 exact ⟨aM, aA, a1, rfl⟩
theorem base_Proper_sim {w0 w : World} {s : PHeap} {H : List Res} {af : (List Int)} {ac : (List Fact)} {aa : Value} {j : Value} {r : Bool} (hm : base_Proper_p af ac = some r) (hS : St w0 s (H) w) (ah : SliceRep (encInt .i64) s aa af) (ae : SliceRep encFact s j ac) :
  Calls Tryz.prog 24 #[aa, j] w fun e w' => ∃ v, e = .returned v ∧ ((fun (ba : Bool) => ∃ (aq : PHeap) , PHeap.le s aq ∧ St w0 aq (H) w' ∧ v = Value.bool (ba)) r) := by
 unfold base_Proper_p at hm
 refine calls_of_W Tryz.func24 rfl rfl (Zc (Zd (Za rfl rfl (Zo (v := Value.bool (false)) rfl rfl (Zb (Ze (Zc (Zc (Zd (Za rfl rfl (Zm (v := j) rfl rfl (Za rfl rfl (Zr S23 rfl rfl ae (Za rfl rfl (Zm (v := Vi (0)) rfl rfl (Zb (Ze ?_)))))))))))))))))
 obtain ⟨ai, a0, aD, aB, a9⟩ := ctl_some hm
 refine W_mid (M := fun f' w' => ∃ s', (ai = .next s' ∨ ai = .brk s') ∧ (fun (_ : Unit) => ∃ (ar : PHeap) , PHeap.le s ar ∧ St w0 ar (H) w' ∧ f' 0 = aa ∧ f' 1 = j ∧ f' 7 = j ∧ f' 8 = Vi ((ac.length : Int))) s') ?_ ?_
 ·refine W_block (W_forC (fun k' s' f' w' => (fun (_ : Unit) => ∃ (au : PHeap) , PHeap.le s au ∧ St w0 au (H) w' ∧ f' 0 = aa ∧ f' 1 = j ∧ f' 7 = j ∧ f' 8 = Vi ((ac.length : Int)) ∧ f' 9 = Vi (k' : Int)) s') a0 ?_ ?_ ?_)
  ·exact ⟨s, (Zv _), hS, rfl, rfl, rfl, rfl, rfl⟩
  ·intro t b3 aj br b8 aA a1 l aE
   obtain ⟨z, ab, ak, q, u, x, y, m⟩ := a1
   refine Zc (Zd (Za rfl rfl (Zq rfl m y (Zb (Ze (Zc (W_true (Zx (decide_eq_true (by omega))) (W_skip (Ze (Zc (W_block (Zc (Zd (Za rfl rfl (Zm (v := Vi ((t : Int))) rfl m ?_)))))))))))))))
   obtain ⟨n, aQ, l⟩ := Zg l
   refine Za rfl rfl (Exec.index_rep S23 rfl x m (ae.mono ab) aQ ?_)
   intro bb bv ax
   refine Za rfl rfl (Zw (E := encFact) ak A75 rfl rfl rfl ax ?_)
   intro b6 aR
   obtain rfl := encFact_val.1 aR
   refine Za rfl rfl (Exec.alloc (cs := [Vi (0), Vi (0)]) ak Z75 rfl rfl ?_)
   intro bc b9 a5
   refine Za rfl rfl (Zo (v := Vi ((t : Int))) rfl rfl (Za rfl rfl (Exec.store_box (ds := [Vi (n.Var), Vi (n.Val)]) (es := [Vi (n.Var), Vi (n.Val)]) a5 A75 rfl rfl rfl rfl (Zj rfl (Zj rfl one_nil)) (Nat.le_of_ble_eq_true rfl) rfl ?_)))
   intro bA a6
   refine Zb (Ze (Zc ?_))
   obtain ⟨o, a, l⟩ := Zg l
   refine W_mid (M := fun f' w' => (fun (o : Bool) => ∃ (av : PHeap) , PHeap.le z av ∧ St w0 av (H) w' ∧ f' 0 = aa ∧ f' 1 = j ∧ f' 7 = j ∧ f' 8 = Vi ((ac.length : Int)) ∧ f' 9 = Vi ((t : Int)) ∧ f' 53 = Value.bool (o)) o) ?_ ?_
   ·refine W_dl (n0 := 40) (qs 0 40 .done) hmix (by kernel_rfl) (by kernel_rfl) ?_
    have b := a6.drew
    refine DL_q rfl rfl (Zp F75_0 rfl rfl rfl ⟨rfl, ?_⟩)
    refine DL_q rfl rfl (Zn (b) A3 rfl rfl rfl ⟨rfl, ?_⟩)
    refine DL_q rfl rfl (Zq rfl rfl rfl ⟨rfl, ?_⟩)
    refine DL_q rfl rfl (Zm (v := Value.bool (decide (n.Var < 0))) rfl rfl ⟨rfl, ?_⟩)
    rcases ite_some a with ⟨i, a⟩ | ⟨i, a⟩
    ·refine DL_passes 36 (by rw [i]; rfl) ?_
     refine DL_done (Zb (Ze ?_))
     have bf := Zu a
     subst o
     exact ⟨z, (Zv _), (b).drop, q, u, x, y, m, rfl⟩
    replace i := Zk i
    refine DL_qg rfl rfl (Zf rfl (Zx i)) (Zp F75_0 rfl rfl rfl ⟨rfl, ?_⟩)
    refine DL_qg rfl rfl (Zf rfl (Zx i)) (Zn (b) A3 rfl rfl rfl ⟨rfl, ?_⟩)
    refine DL_qg rfl rfl (Zf rfl (Zx i)) (Zm (v := aa) rfl q ⟨rfl, ?_⟩)
    refine DL_qg rfl rfl (Zf rfl (Zx i)) (Zr S22 rfl rfl (ah.mono ab) ⟨rfl, ?_⟩)
    refine DL_qg rfl rfl (Zf rfl (Zx i)) (Exec.geq rfl rfl rfl ⟨rfl, ?_⟩)
    refine DL_q rfl rfl (Exec.pick_f (v := Value.bool (decide ((af.length : Int) ≤ n.Var))) rfl (Zx i) rfl ⟨rfl, ?_⟩)
    refine DL_q rfl rfl (Zm (v := Value.bool (decide ((af.length : Int) ≤ n.Var))) rfl rfl ⟨rfl, ?_⟩)
    rcases ite_some a with ⟨p, a⟩ | ⟨p, a⟩
    ·refine DL_passes 29 (by rw [p]; rfl) ?_
     refine DL_done (Zb (Ze ?_))
     have bg := Zu a
     subst o
     exact ⟨z, (Zv _), (b).drop, q, u, x, y, m, rfl⟩
    replace p := Zk p
    refine DL_qg rfl rfl (Zf rfl (Zx p)) (Zp F75_1 rfl rfl rfl ⟨rfl, ?_⟩)
    refine DL_qg rfl rfl (Zf rfl (Zx p)) (Zn (b) A3 rfl rfl rfl ⟨rfl, ?_⟩)
    refine DL_qg rfl rfl (Zf rfl (Zx p)) (Zq rfl rfl rfl ⟨rfl, ?_⟩)
    refine DL_passes 2 (by rw [p]; rfl) ?_
    rcases ite_some a with ⟨d, a⟩ | ⟨d, a⟩
    ·refine DL_passes 24 (by rw [d]; rfl) ?_
     refine DL_done (Zb (Ze ?_))
     have bh := Zu a
     subst o
     exact ⟨z, (Zv _), (b).drop, q, u, x, y, m, rfl⟩
    replace d := Zk d
    refine DL_qg rfl rfl (Zf rfl (Zx d)) (Zp F75_1 rfl rfl rfl ⟨rfl, ?_⟩)
    refine DL_qg rfl rfl (Zf rfl (Zx d)) (Zn (b) A3 rfl rfl rfl ⟨rfl, ?_⟩)
    refine DL_qg rfl rfl (Zf rfl (Zx d)) (Zm (v := aa) rfl q ⟨rfl, ?_⟩)
    refine DL_qg rfl rfl (Zf rfl (Zx d)) (Zp F75_0 rfl rfl rfl ⟨rfl, ?_⟩)
    refine DL_qg rfl rfl (Zf rfl (Zx d)) (Zn (b) A3 rfl rfl rfl ⟨rfl, ?_⟩)
    obtain ⟨bE, aS, a⟩ := Zg a
    refine DL_qg rfl rfl (Zf rfl (Zx d)) (Exec.index_repE S22 rfl rfl rfl (ah.mono ab) aS ?_)
    intro bd bw ay bi
    refine ⟨rfl, ?_⟩
    refine DL_qg rfl rfl (Zf rfl (Zx d)) (Zw (E := (encInt .i64)) b A3 rfl rfl rfl ay ?_)
    intro b7 aT
    obtain rfl := encInt_val.1 aT
    refine ⟨rfl, ?_⟩
    refine DL_qg rfl rfl (Zf rfl (Zx d)) (Exec.geq rfl rfl rfl ⟨rfl, ?_⟩)
    refine DL_passes 2 (by rw [d]; rfl) ?_
    rcases ite_some a with ⟨g, a⟩ | ⟨g, a⟩
    ·refine DL_passes 14 (by rw [g]; rfl) ?_
     refine DL_done (Zb (Ze ?_))
     have bj := Zu a
     subst o
     exact ⟨z, (Zv _), (b).drop, q, u, x, y, m, rfl⟩
    replace g := Zk g
    refine DL_qg rfl rfl (Zf rfl (Zx g)) (Zm (v := Vi ((t : Int))) rfl rfl ⟨rfl, ?_⟩)
    refine DL_qg rfl rfl (Zf rfl (Zx g)) (Exec.gtr rfl rfl rfl ⟨rfl, ?_⟩)
    refine DL_qg rfl rfl (Zf rfl (Zx g)) (Zm (v := Value.bool (decide (0 < (t : Int)))) rfl rfl ⟨rfl, ?_⟩)
    rcases ite_some a with ⟨c, a⟩ | ⟨c, a⟩
    ·refine DL_qg rfl rfl (Zf rfl (Zx c)) (Zm (v := j) rfl u ⟨rfl, ?_⟩)
     refine DL_qg rfl rfl (Zf rfl (Zx c)) (Zm (v := Vi ((t : Int))) rfl rfl ⟨rfl, ?_⟩)
     refine DL_qg rfl rfl (Zf rfl (Zx c)) (Exec.sub rfl rfl rfl ⟨rfl, ?_⟩)
     obtain ⟨ag, aU, a⟩ := Zg a
     refine DL_qg rfl rfl (Zf rfl (Zx c)) (Exec.index_repE S23 rfl rfl rfl (ae.mono ab) aU ?_)
     intro be bx az bk
     refine ⟨rfl, ?_⟩
     refine DL_qg rfl rfl (Zf rfl (Zx c)) (Zp F75_0 rfl rfl rfl ⟨rfl, ?_⟩)
     refine DL_qg rfl rfl (Zf rfl (Zx c)) (Zw (E := (encInt .i64)) b A3 rfl rfl rfl (az.sub (Sub.iso (Sub.fst (Sub.refl _))) rfl) ?_)
     intro aY aV
     obtain rfl : aY = Vi (ag.Var) := encInt_val.1 aV
     refine ⟨rfl, ?_⟩
     refine DL_qg rfl rfl (Zf rfl (Zx c)) (Zp F75_0 rfl rfl rfl ⟨rfl, ?_⟩)
     refine DL_qg rfl rfl (Zf rfl (Zx c)) (Zn (b) A3 rfl rfl rfl ⟨rfl, ?_⟩)
     refine DL_qg rfl rfl (Zf rfl (Zx c)) (Exec.geq rfl rfl rfl ⟨rfl, ?_⟩)
     refine DL_qg rfl rfl (Zf rfl (Zx g)) (Zs (v := Value.bool (decide (n.Var ≤ ag.Var))) rfl (Zx c) rfl ⟨rfl, ?_⟩)
     refine DL_q rfl rfl (Exec.pick_f (v := Value.bool (decide (n.Var ≤ ag.Var))) rfl (Zx g) rfl ⟨rfl, ?_⟩)
     refine DL_done (Zb (Ze ?_))
     have bl := Zu a
     subst o
     exact ⟨z, (Zv _), (b).drop, q, u, x, y, m, rfl⟩
    replace c := Zk c
    refine DL_passes 9 (by rw [c]; rfl) ?_
    refine DL_qg rfl rfl (Zf rfl (Zx g)) (Exec.pick_f (v := Value.bool (false)) rfl rfl rfl ⟨rfl, ?_⟩)
    refine DL_q rfl rfl (Exec.pick_f (v := Value.bool (false)) rfl (Zx g) rfl ⟨rfl, ?_⟩)
    refine DL_done (Zb (Ze ?_))
    have bm := Zu a
    subst o
    exact ⟨z, (Zv _), (b).drop, q, u, x, y, m, rfl⟩
   intro bs bB a3
   obtain ⟨aw, an, al, aI, aJ, aK, aL, aM, ao⟩ := a3
   refine (Ze ?_)
   rcases ite_some l with ⟨ad, l⟩ | ⟨ad, l⟩
   ·refine W_cond_t ao ad (Zc (Zd (Za rfl rfl (Zo (v := Value.bool (false)) rfl rfl (Zb (Ze (W_ret (ib_ret (at_ret (at_ret (ib_ret (at_ret (at_ret ?_)))))))))))))
    have bn := Zu l
    subst aj
    have aC := aD _ (aE (by intro _ h; cases h))
    have bo := Zu aC
    subst r
    refine ⟨_, ret1 rfl, ?_⟩
    exact ⟨aw, (Zt ab an), al, rfl⟩
   refine W_cond_f ao ad ?_
   replace ad := Zk ad
   refine W_skip (ib_normal (Ze (Zd (Za rfl rfl (Exec.add rfl aM rfl (Za rfl rfl (Zm (v := Vi (IntKind.i64.wrap ((t : Int) + 1))) rfl rfl (Zb (Ze ?_)))))))))
   have bp := Zu l
   subst aj
   refine ⟨_, rfl, ?_⟩; exact ⟨aw, (Zt ab an), al, aI, aJ, aK, aL, (Eq.trans rfl (wrap_up aA (SliceRep.le ae)))⟩
  intro b4 bt bC a2 aF
  obtain ⟨aW, aG, a7, aN, aO, aP, ap, aZ⟩ := a2
  refine Zc (Zd (Za rfl rfl (Zq rfl aZ ap (Zb (Ze (Zc (W_false (Zx (decide_eq_false (by omega))) (W_exit (at_exit (at_exit (ib_here (Ze ?_))))))))))))
  refine ⟨_, .inl aF, ?_⟩; exact ⟨aW, aG, a7, aN, aO, aP, ap⟩
 rintro bu bD ⟨b5, am, a4⟩
 have hm := am.elim (aB _) (a9 _)
 clear am
 obtain ⟨aX, aH, a8, bz, b0, b1, b2⟩ := a4
 refine (Ze (Zc (Zd (Za rfl rfl (Zo (v := Value.bool (true)) rfl rfl (Zb (Ze (W_ret ?_))))))))
 have bq := Zu hm
 subst r
 refine ⟨_, ret1 rfl, ?_⟩
 exact ⟨aX, aH, a8, rfl⟩
theorem ref55_named_sim {w0 w : World} {s : PHeap} {H : List Res} {a : ByteArray}  {r : Bool} (hm : ref55_named_p a = some r) (hS : St w0 s (H) w)  :
  Calls Tryz.prog 25 #[Value.string (a)] w fun e w' => ∃ v, e = .returned v ∧ ((fun (aA : Bool) => ∃ (ad : PHeap) , PHeap.le s ad ∧ St w0 ad (H) w' ∧ v = Value.bool (aA)) r) := by
 unfold ref55_named_p at hm
 refine calls_of_W Tryz.func25 rfl rfl (Zc (Zd (Za rfl rfl (Zo (v := Value.bool (false)) rfl rfl (Zb (Ze (Zc (Zc (Zd (Za rfl rfl (Zm (v := Value.string (a)) rfl rfl (Za rfl rfl (Exec.len_str Tryz.underlying9 rfl rfl (Za rfl rfl (Zm (v := Vi (0)) rfl rfl (Zb (Ze ?_)))))))))))))))))
 obtain ⟨aP, a6, hm⟩ := Zg hm
 obtain ⟨p, aj, aw, au, aq⟩ := ctl_some hm
 refine W_mid (M := fun f' w' => ∃ s', (p = .next s' ∨ p = .brk s') ∧ (fun (_ : Unit) => ∃ (ae : PHeap) , PHeap.le s ae ∧ St w0 ae (H) w' ∧ f' 0 = Value.string (a) ∧ f' 5 = Vi ((a.size : Int))) s') ?_ ?_
 ·refine W_block (W_forC (fun k' s' f' w' => (fun (_ : Unit) => ∃ (af : PHeap) , PHeap.le s af ∧ St w0 af (H) w' ∧ f' 0 = Value.string (a) ∧ f' 5 = Vi ((a.size : Int)) ∧ f' 6 = Vi (k' : Int)) s') aj ?_ ?_ ?_)
  ·exact ⟨s, (Zv _), hS, rfl, rfl, rfl⟩
  ·intro g aM q aH aQ ar ak c ax
   obtain ⟨o, y, t, l, n, m⟩ := ak
   refine Zc (Zd (Za rfl rfl (Zq rfl m n (Zb (Ze (Zc (W_true (Zx (decide_eq_true (by omega))) (W_skip (Ze (Zc (W_block (Zc (Zd (Za rfl rfl (Zm (v := Vi ((g : Int))) rfl m (Za rfl rfl (Zo (v := Vi ((g : Int))) rfl rfl (Zb (Ze (Zc ?_))))))))))))))))))))
   obtain ⟨j, d, c⟩ := Zg c
   refine W_mid (M := fun f' w' => (fun (j : Bool) => ∃ (ag : PHeap) , PHeap.le o ag ∧ St w0 ag (H) w' ∧ f' 0 = Value.string (a) ∧ f' 5 = Vi ((a.size : Int)) ∧ f' 6 = Vi ((g : Int)) ∧ f' 18 = Value.bool (j)) j) ?_ ?_
   ·refine Zd (Za rfl rfl (Zm (v := Value.string (a)) rfl l (Za rfl rfl (Zm (v := Vi ((g : Int))) rfl rfl ?_))))
    obtain ⟨ai, ac, d⟩ := Zg d
    refine Za rfl rfl (Exec.index_str Tryz.underlying9 rfl rfl rfl ac (Za rfl rfl (Zq rfl rfl rfl (Za rfl rfl (Zm (v := Value.bool (decide (ai < 32))) rfl rfl ?_)))))
    rcases ite_some d with ⟨b, d⟩ | ⟨b, d⟩
    ·refine WL_passes 5 (by rw [b]; rfl) ?_
     refine Zb (Ze ?_)
     have aB := Zu d
     subst j
     exact ⟨o, (Zv _), t, l, n, m, rfl⟩
    replace b := Zk b
    refine WL_run rfl (Zf rfl (Zx b)) rfl (Zm (v := Value.string (a)) rfl l (WL_run rfl (Zf rfl (Zx b)) rfl (Zm (v := Vi ((g : Int))) rfl rfl (WL_run rfl (Zf rfl (Zx b)) rfl (Exec.index_str Tryz.underlying9 rfl rfl rfl ac (WL_run rfl (Zf rfl (Zx b)) rfl (Exec.gtr rfl rfl rfl (Za rfl rfl (Exec.pick_f (v := Value.bool (decide (126 < ai))) rfl (Zx b) rfl (Zb (Ze ?_)))))))))))
    have aC := Zu d
    subst j
    exact ⟨o, (Zv _), t, l, n, m, rfl⟩
   intro aI aR am
   obtain ⟨ah, z, u, a1, a2, a3, aa⟩ := am
   refine (Ze ?_)
   rcases ite_some c with ⟨i, c⟩ | ⟨i, c⟩
   ·refine W_cond_t aa i (Zc (Zd (Za rfl rfl (Zo (v := Value.bool (false)) rfl rfl (Zb (Ze (W_ret (ib_ret (at_ret (at_ret (ib_ret (at_ret (at_ret ?_)))))))))))))
    have aD := Zu c
    subst q
    have av := aw _ (ax (by intro _ h; cases h))
    have aE := Zu av
    subst r
    refine ⟨_, ret1 rfl, ?_⟩
    exact ⟨ah, (Zt y z), u, rfl⟩
   refine W_cond_f aa i ?_
   replace i := Zk i
   refine W_skip (ib_normal (Ze (Zd (Za rfl rfl (Exec.add rfl a3 rfl (Za rfl rfl (Zm (v := Vi (IntKind.i64.wrap ((g : Int) + 1))) rfl rfl (Zb (Ze ?_)))))))))
   have aF := Zu c
   subst q
   refine ⟨_, rfl, ?_⟩; exact ⟨ah, (Zt y z), u, a1, a2, (Eq.trans rfl (wrap_up ar (by have h := must_some a6; simp at h; simp only [maxLen]; omega)))⟩
  intro aN aJ aS al ay
  obtain ⟨a7, az, ao, a4, ab, a9⟩ := al
  refine Zc (Zd (Za rfl rfl (Zq rfl a9 ab (Zb (Ze (Zc (W_false (Zx (decide_eq_false (by omega))) (W_exit (at_exit (at_exit (ib_here (Ze ?_))))))))))))
  refine ⟨_, .inl ay, ?_⟩; exact ⟨a7, az, ao, a4, ab⟩
 rintro aK aT ⟨aO, x, an⟩
 have hm := x.elim (au _) (aq _)
 clear x
 obtain ⟨a8, a0, ap, a5, aL⟩ := an
 refine (Ze (Zc (Zd (Za rfl rfl (Zm (v := Value.string (a)) rfl a5 (Za rfl rfl (Exec.len_str Tryz.underlying9 rfl rfl (Za rfl rfl (Exec.leq rfl rfl rfl (Za rfl rfl (Zo (v := Value.bool (decide ((a.size : Int) ≤ 256))) rfl rfl (Zb (Ze (W_ret ?_))))))))))))))
 have aG := Zu hm
 subst r
 refine ⟨_, ret1 rfl, ?_⟩
 exact ⟨a8, a0, ap, rfl⟩
theorem ref55_Check_sim {w0 w : World} {s : PHeap} {H : List Res} {l : Temporal} {i : Value} {m : Value} {n : Value} {g : Value} {r : Int} (hm : ref55_Check_p l = some r) (hS : St w0 s (H) w) (aa : SliceRep (encInt .i64) s i l.Vars) (ay : SliceRep (encInt .i64) s m l.Init) (aP : SliceRep encFact s n l.Goal) (t : SliceRep encJob s g l.Jobs) :
  Calls Tryz.prog 8 #[Value.agg #[i, m, n, g]] w fun e w' => ∃ v, e = .returned v ∧ ((fun (eC : Int) => ∃ (bG : PHeap) , PHeap.le s bG ∧ St w0 bG (H) w' ∧ v = Vi (eC)) r) := by
 unfold ref55_Check_p at hm
 refine calls_of_W Tryz.func8 rfl rfl (Zc (Zd (Za rfl rfl (Exec.box (cs := [i, m, n, g]) hS rfl rfl rfl ?_))))
 intro c fU ap
 refine Za rfl rfl (Zo (v := Vi (0)) rfl rfl (Zb (Ze (Zc (Zc (W_mid (M := fun f' w' => ∃ (bH : PHeap) , PHeap.le s bH ∧ St w0 bH (Res.box c 26 [i, m, n, g] :: H) w' ∧ f' 1 = Value.pointer (some ⟨c, 0, none⟩) ∧ f' 22 = Value.bool (((decide (64 < (l.Vars.length : Int))) || decide (24 < (l.Jobs.length : Int))))) ?_ ?_))))))
 ·refine Zd (Za rfl rfl (Zp F26_0 rfl rfl rfl (Za rfl rfl (Zn (ap) A22 rfl rfl rfl (Za rfl rfl (Zr S22 rfl rfl aa (Za rfl rfl (Exec.gtr rfl rfl rfl (Za rfl rfl (Zm (v := Value.bool (decide (64 < (l.Vars.length : Int)))) rfl rfl ?_))))))))))
  by_cases q : (decide (64 < (l.Vars.length : Int))) = true
  ·refine WL_passes 5 (by rw [q]; rfl) ?_
   refine Zb (Ze ?_)
   exact ⟨s, (Zv _), ap, rfl, (Zx (or_t q)).symm⟩
  replace q := Zk q
  refine WL_run rfl (Zf rfl (Zx q)) rfl (Zp F26_3 rfl rfl rfl (WL_run rfl (Zf rfl (Zx q)) rfl (Zn (ap) A24 rfl rfl rfl (WL_run rfl (Zf rfl (Zx q)) rfl (Zr S24 rfl rfl t (WL_run rfl (Zf rfl (Zx q)) rfl (Exec.gtr rfl rfl rfl (Za rfl rfl (Exec.pick_f (v := Value.bool (decide (24 < (l.Jobs.length : Int)))) rfl (Zx q) rfl (Zb (Ze ?_)))))))))))
  exact ⟨s, (Zv _), ap, rfl, (Zx (or_f q)).symm⟩
 intro fc fV cA
 obtain ⟨ez, a, az, bv, bw⟩ := cA
 refine (Ze ?_)
 rcases ite_some hm with ⟨ah, hm⟩ | ⟨ah, hm⟩
 ·refine W_cond_t bw ah (Zc (Zd (Za rfl rfl (Zo (v := Vi (5)) rfl rfl (Zb (Ze (W_ret (at_ret ?_))))))))
  have eK := Zu hm
  subst r
  refine ⟨_, ret1 rfl, ?_⟩
  exact ⟨ez, a, (az).drop, rfl⟩
 refine W_cond_f bw ah ?_
 replace ah := Zk ah
 refine W_skip (Ze (Zc (Zc (Zd (Za rfl rfl (Exec.load_box_agg (ds := [i, m, n, g]) (az) A26 rfl bv rfl ?_))))))
 obtain ⟨cn, dW, hm⟩ := Zg hm
 refine Za rfl rfl (Tc rfl rfl rfl (Zi rfl args_nil) (ref55_lists_sim dW az (aa.mono a) (ay.mono a) (aP.mono a) (t.mono a)).r ?_)
 rintro cj fW ⟨aF, _, b, cI, rfl, aD⟩
 refine Za rfl rfl (Zr S78 rfl rfl aD (Za rfl rfl (Zm (v := Vi (0)) rfl rfl (Zb (Ze ?_)))))
 obtain ⟨aQ, cv, dn, dd, cT⟩ := ctl_some hm
 refine W_mid (M := fun f' w' => ∃ s', (aQ = .next s' ∨ aQ = .brk s') ∧ (fun (_ : Unit) => ∃ (bI : PHeap) , PHeap.le aF bI ∧ St w0 bI (Res.box c 26 [i, m, n, g] :: H) w' ∧ f' 1 = Value.pointer (some ⟨c, 0, none⟩) ∧ f' 24 = cj ∧ f' 25 = Vi ((cn.length : Int))) s') ?_ ?_
 ·refine W_block (W_forC (fun k' s' f' w' => (fun (_ : Unit) => ∃ (bJ : PHeap) , PHeap.le aF bJ ∧ St w0 bJ (Res.box c 26 [i, m, n, g] :: H) w' ∧ f' 1 = Value.pointer (some ⟨c, 0, none⟩) ∧ f' 24 = cj ∧ f' 25 = Vi ((cn.length : Int)) ∧ f' 26 = Vi (k' : Int)) s') cv ?_ ?_ ?_)
  ·exact ⟨aF, (Zv _), cI, bv, rfl, rfl, rfl⟩
  ·intro d4 fC aR fd fX cY c0 ad du
   obtain ⟨bK, a5, a0, dD, bx, bz, aM⟩ := c0
   refine Zc (Zd (Za rfl rfl (Zq rfl aM bz (Zb (Ze (Zc (W_true (Zx (decide_eq_true (by omega))) (W_skip (Ze (Zc (W_block (Zc (Zd ?_)))))))))))))
   obtain ⟨gy, dX, ad⟩ := Zg ad
   refine Za rfl rfl (Exec.index_rep S78 rfl bx aM (aD.mono a5) dX ?_)
   intro eD fu cp
   refine Za rfl rfl (Zw (E := (encSlice encFact)) a0 A23 rfl rfl rfl cp ?_)
   intro ck dY
   have el := encSlice_val.1 dY
   refine Za rfl rfl (Zo (v := ck) rfl rfl (Zb (Ze (Zc (Zd (Za rfl rfl (Zm (v := ck) rfl rfl (Za rfl rfl (Zr S23 rfl rfl el (Za rfl rfl (Exec.gtr rfl rfl rfl (Zb (Ze ?_)))))))))))))
   rcases ite_some ad with ⟨ai, ad⟩ | ⟨ai, ad⟩
   ·refine W_cond_t rfl ai (Zc (Zd (Za rfl rfl (Zo (v := Vi (5)) rfl rfl (Zb (Ze (W_ret (ib_ret (at_ret (at_ret (ib_ret (at_ret (at_ret ?_)))))))))))))
    have eL := Zu ad
    subst aR
    have di := dn _ (du (by intro _ h; cases h))
    have eM := Zu di
    subst r
    refine ⟨_, ret1 rfl, ?_⟩
    exact ⟨bK, (Zt (Zt a b) a5), (a0).drop, rfl⟩
   refine W_cond_f rfl ai ?_
   replace ai := Zk ai
   refine W_skip (ib_normal (Ze (Zd (Za rfl rfl (Exec.add rfl aM rfl (Za rfl rfl (Zm (v := Vi (IntKind.i64.wrap ((d4 : Int) + 1))) rfl rfl (Zb (Ze ?_)))))))))
   have eN := Zu ad
   subst aR
   refine ⟨_, rfl, ?_⟩; exact ⟨bK, a5, a0, dD, bx, bz, (Eq.trans rfl (wrap_up cY (SliceRep.le aD)))⟩
  intro fD fe fY c1 dv
  obtain ⟨e0, d7, cJ, dE, dF, b0, e7⟩ := c1
  refine Zc (Zd (Za rfl rfl (Zq rfl e7 b0 (Zb (Ze (Zc (W_false (Zx (decide_eq_false (by omega))) (W_exit (at_exit (at_exit (ib_here (Ze ?_))))))))))))
  refine ⟨_, .inl dv, ?_⟩; exact ⟨e0, d7, cJ, dE, dF, b0⟩
 rintro ff fZ ⟨fE, bk, cB⟩
 have hm := bk.elim (dd _) (cT _)
 clear bk
 obtain ⟨aG, d, ba, b1, fz, f0⟩ := cB
 refine (Ze (Zc (Zc (Zd (Za rfl rfl (Zp F26_0 rfl b1 rfl (Za rfl rfl (Zn (ba) A22 rfl rfl rfl (Za rfl rfl (Zr S22 rfl rfl (aa.mono (Zt (Zt a b) d)) (Za rfl rfl (Zm (v := Vi (0)) rfl rfl (Zb (Ze ?_))))))))))))))
 obtain ⟨aS, cw, dp, de, cU⟩ := ctl_some hm
 refine W_mid (M := fun f' w' => ∃ s', (aS = .next s' ∨ aS = .brk s') ∧ (fun (_ : Unit) => ∃ (bL : PHeap) , PHeap.le aG bL ∧ St w0 bL (Res.box c 26 [i, m, n, g] :: H) w' ∧ f' 1 = Value.pointer (some ⟨c, 0, none⟩) ∧ f' 35 = i ∧ f' 36 = Vi ((l.Vars.length : Int))) s') ?_ ?_
 ·refine W_block (W_forC (fun k' s' f' w' => (fun (_ : Unit) => ∃ (bM : PHeap) , PHeap.le aG bM ∧ St w0 bM (Res.box c 26 [i, m, n, g] :: H) w' ∧ f' 1 = Value.pointer (some ⟨c, 0, none⟩) ∧ f' 35 = i ∧ f' 36 = Vi ((l.Vars.length : Int)) ∧ f' 37 = Vi (k' : Int)) s') cw ?_ ?_ ?_)
  ·exact ⟨aG, (Zv _), ba, b1, rfl, rfl, rfl⟩
  ·intro bp fF aT fg ga cZ c2 ae dw
   obtain ⟨aH, a6, a1, b2, a9, aA, av⟩ := c2
   refine Zc (Zd (Za rfl rfl (Zq rfl av aA (Zb (Ze (Zc (W_true (Zx (decide_eq_true (by omega))) (W_skip (Ze (Zc (W_block (Zc (Zd ?_)))))))))))))
   obtain ⟨ac, dZ, ae⟩ := Zg ae
   refine Za rfl rfl (Exec.index_rep S22 rfl a9 av (aa.mono (Zt (Zt (Zt a b) d) a6)) dZ ?_)
   intro eE fv cq
   refine Za rfl rfl (Zw (E := (encInt .i64)) a1 A3 rfl rfl rfl cq ?_)
   intro fR ea
   obtain rfl := encInt_val.1 ea
   refine Za rfl rfl (Zo (v := Vi (ac)) rfl rfl (Zb (Ze (Zc (W_mid (M := fun f' w' => ∃ (bN : PHeap) , PHeap.le aH bN ∧ St w0 bN (Res.box c 26 [i, m, n, g] :: H) w' ∧ f' 1 = Value.pointer (some ⟨c, 0, none⟩) ∧ f' 35 = i ∧ f' 36 = Vi ((l.Vars.length : Int)) ∧ f' 37 = Vi ((bp : Int)) ∧ f' 46 = Value.bool (((decide (ac < 1)) || decide (64 < ac)))) ?_ ?_)))))
   ·refine Zd (Za rfl rfl (Zm (v := Vi (ac)) rfl rfl (Za rfl rfl (Zq rfl rfl rfl (Za rfl rfl (Zm (v := Value.bool (decide (ac < 1))) rfl rfl ?_))))))
    by_cases ab : (decide (ac < 1)) = true
    ·refine WL_passes 3 (by rw [ab]; rfl) ?_
     refine Zb (Ze ?_)
     exact ⟨aH, (Zv _), a1, b2, a9, aA, av, (Zx (or_t ab)).symm⟩
    replace ab := Zk ab
    refine WL_run rfl (Zf rfl (Zx ab)) rfl (Zm (v := Vi (ac)) rfl rfl (WL_run rfl (Zf rfl (Zx ab)) rfl (Exec.gtr rfl rfl rfl (Za rfl rfl (Exec.pick_f (v := Value.bool (decide (64 < ac))) rfl (Zx ab) rfl (Zb (Ze ?_)))))))
    exact ⟨aH, (Zv _), a1, b2, a9, aA, av, (Zx (or_f ab)).symm⟩
   intro fh gb cC
   obtain ⟨bO, br, bb, dG, dH, dI, dJ, b3⟩ := cC
   refine (Ze ?_)
   rcases ite_some ae with ⟨aj, ae⟩ | ⟨aj, ae⟩
   ·refine W_cond_t b3 aj (Zc (Zd (Za rfl rfl (Zo (v := Vi (1)) rfl rfl (Zb (Ze (W_ret (ib_ret (at_ret (at_ret (ib_ret (at_ret (at_ret ?_)))))))))))))
    have eO := Zu ae
    subst aT
    have dj := dp _ (dw (by intro _ h; cases h))
    have eP := Zu dj
    subst r
    refine ⟨_, ret1 rfl, ?_⟩
    exact ⟨bO, (Zt (Zt (Zt (Zt a b) d) a6) br), (bb).drop, rfl⟩
   refine W_cond_f b3 aj ?_
   replace aj := Zk aj
   refine W_skip (ib_normal (Ze (Zd (Za rfl rfl (Exec.add rfl dJ rfl (Za rfl rfl (Zm (v := Vi (IntKind.i64.wrap ((bp : Int) + 1))) rfl rfl (Zb (Ze ?_)))))))))
   have eQ := Zu ae
   subst aT
   refine ⟨_, rfl, ?_⟩; exact ⟨bO, (Zt a6 br), bb, dG, dH, dI, (Eq.trans rfl (wrap_up cZ (SliceRep.le (aa.mono (Zt (Zt a b) d)))))⟩
  intro fG fi gc c3 dx
  obtain ⟨e1, d8, cK, dK, dL, b4, e8⟩ := c3
  refine Zc (Zd (Za rfl rfl (Zq rfl e8 b4 (Zb (Ze (Zc (W_false (Zx (decide_eq_false (by omega))) (W_exit (at_exit (at_exit (ib_here (Ze ?_))))))))))))
  refine ⟨_, .inl dx, ?_⟩; exact ⟨e1, d8, cK, dK, dL, b4⟩
 rintro fj gd ⟨fH, bl, cD⟩
 have hm := bl.elim (de _) (cU _)
 clear bl
 obtain ⟨aI, j, bc, b5, f1, f2⟩ := cD
 refine (Ze (Zc (Zc (Zd (Za rfl rfl (Zp F26_3 rfl b5 rfl (Za rfl rfl (Zn (bc) A24 rfl rfl rfl (Za rfl rfl (Zr S24 rfl rfl (t.mono (Zt (Zt (Zt a b) d) j)) (Za rfl rfl (Zm (v := Vi (0)) rfl rfl (Zb (Ze ?_))))))))))))))
 obtain ⟨aU, cx, dq, df, cV⟩ := ctl_some hm
 refine W_mid (M := fun f' w' => ∃ s', (aU = .next s' ∨ aU = .brk s') ∧ (fun (_ : Unit) => ∃ (bP : PHeap) , PHeap.le aI bP ∧ St w0 bP (Res.box c 26 [i, m, n, g] :: H) w' ∧ f' 1 = Value.pointer (some ⟨c, 0, none⟩) ∧ f' 49 = g ∧ f' 50 = Vi ((l.Jobs.length : Int))) s') ?_ ?_
 ·refine W_block (W_forC (fun k' s' f' w' => (fun (_ : Unit) => ∃ (bQ : PHeap) , PHeap.le aI bQ ∧ St w0 bQ (Res.box c 26 [i, m, n, g] :: H) w' ∧ f' 1 = Value.pointer (some ⟨c, 0, none⟩) ∧ f' 49 = g ∧ f' 50 = Vi ((l.Jobs.length : Int)) ∧ f' 51 = Vi (k' : Int)) s') cx ?_ ?_ ?_)
  ·exact ⟨aI, (Zv _), bc, b5, rfl, rfl, rfl⟩
  ·intro bq fI aV fk gf da c4 af dy
   obtain ⟨aJ, a7, bd, b6, aB, aC, aw⟩ := c4
   refine Zc (Zd (Za rfl rfl (Zq rfl aw aC (Zb (Ze (Zc (W_true (Zx (decide_eq_true (by omega))) (W_skip (Ze (Zc (W_block (Zc (Zd ?_)))))))))))))
   obtain ⟨z, eb, af⟩ := Zg af
   refine Za rfl rfl (Exec.index_rep S24 rfl aB aw (t.mono (Zt (Zt (Zt (Zt a b) d) j) a7)) eb ?_)
   intro eF fw cr
   refine Za rfl rfl (Zw (E := encJob) bd A59 rfl rfl rfl cr ?_)
   intro fS ec
   obtain ⟨bZ, ca, cb, cc, cd, rfl, em, en, eo, ep, er⟩ := encJob_val.1 ec
   refine Za rfl rfl (Exec.alloc (cs := [Value.string (⟨#[]⟩), Vi (0), Value.slice none 0 0, Value.slice none 0 0, Value.slice none 0 0, Value.slice none 0 0, Value.slice none 0 0]) bd Z59 rfl rfl ?_)
   intro eG gg cL
   refine Za rfl rfl (Exec.store_box (ds := [Value.string (z.Name), Vi (z.Duration), bZ, ca, cb, cc, cd]) (es := [Value.string (z.Name), Vi (z.Duration), bZ, ca, cb, cc, cd]) cL A59 rfl rfl rfl rfl (Zj rfl (Zj rfl (Zj (em).one (Zj (en).one (Zj (eo).one (Zj (ep).one (Zj (er).one one_nil))))))) (Nat.le_of_ble_eq_true rfl) rfl ?_)
   intro gh aq
   refine Zb (Ze (Zc (W_mid (M := fun f' w' => ∃ (bR : PHeap) , PHeap.le aJ bR ∧ St w0 bR (Res.box c 26 [i, m, n, g] :: H) w' ∧ f' 1 = Value.pointer (some ⟨c, 0, none⟩) ∧ f' 49 = g ∧ f' 50 = Vi ((l.Jobs.length : Int)) ∧ f' 51 = Vi ((bq : Int)) ∧ f' 62 = Value.bool (((decide (z.Duration < 1)) || decide (62 < z.Duration)))) ?_ ?_)))
   ·refine Zd (Za rfl rfl (Zp F59_1 rfl rfl rfl (Za rfl rfl (Zn (aq) A3 rfl rfl rfl (Za rfl rfl (Zq rfl rfl rfl (Za rfl rfl (Zm (v := Value.bool (decide (z.Duration < 1))) rfl rfl ?_))))))))
    by_cases u : (decide (z.Duration < 1)) = true
    ·refine WL_passes 4 (by rw [u]; rfl) ?_
     refine Zb (Ze ?_)
     exact ⟨aJ, (Zv _), (aq).drop, b6, aB, aC, aw, (Zx (or_t u)).symm⟩
    replace u := Zk u
    refine WL_run rfl (Zf rfl (Zx u)) rfl (Zp F59_1 rfl rfl rfl (WL_run rfl (Zf rfl (Zx u)) rfl (Zn (aq) A3 rfl rfl rfl (WL_run rfl (Zf rfl (Zx u)) rfl (Exec.gtr rfl rfl rfl (Za rfl rfl (Exec.pick_f (v := Value.bool (decide (62 < z.Duration))) rfl (Zx u) rfl (Zb (Ze ?_)))))))))
    exact ⟨aJ, (Zv _), (aq).drop, b6, aB, aC, aw, (Zx (or_f u)).symm⟩
   intro fl gi cE
   obtain ⟨bS, bs, be, dM, dN, dO, dP, b7⟩ := cE
   refine (Ze ?_)
   rcases ite_some af with ⟨ak, af⟩ | ⟨ak, af⟩
   ·refine W_cond_t b7 ak (Zc (Zd (Za rfl rfl (Zo (v := Vi (1)) rfl rfl (Zb (Ze (W_ret (ib_ret (at_ret (at_ret (ib_ret (at_ret (at_ret ?_)))))))))))))
    have eR := Zu af
    subst aV
    have dk := dq _ (dy (by intro _ h; cases h))
    have eS := Zu dk
    subst r
    refine ⟨_, ret1 rfl, ?_⟩
    exact ⟨bS, (Zt (Zt (Zt (Zt (Zt a b) d) j) a7) bs), (be).drop, rfl⟩
   refine W_cond_f b7 ak ?_
   replace ak := Zk ak
   refine W_skip (ib_normal (Ze (Zd (Za rfl rfl (Exec.add rfl dP rfl (Za rfl rfl (Zm (v := Vi (IntKind.i64.wrap ((bq : Int) + 1))) rfl rfl (Zb (Ze ?_)))))))))
   have eT := Zu af
   subst aV
   refine ⟨_, rfl, ?_⟩; exact ⟨bS, (Zt a7 bs), be, dM, dN, dO, (Eq.trans rfl (wrap_up da (SliceRep.le (t.mono (Zt (Zt (Zt a b) d) j)))))⟩
  intro fJ fm gj c5 dz
  obtain ⟨e2, d9, cM, dQ, dR, b8, e9⟩ := c5
  refine Zc (Zd (Za rfl rfl (Zq rfl e9 b8 (Zb (Ze (Zc (W_false (Zx (decide_eq_false (by omega))) (W_exit (at_exit (at_exit (ib_here (Ze ?_))))))))))))
  refine ⟨_, .inl dz, ?_⟩; exact ⟨e2, d9, cM, dQ, dR, b8⟩
 rintro fn gk ⟨fK, bm, cF⟩
 have hm := bm.elim (df _) (cV _)
 clear bm
 obtain ⟨f9, o, a2, au, f3, f4⟩ := cF
 refine (Ze (Zc (Zc (Zd (Za rfl rfl (Zp F26_0 rfl au rfl (Za rfl rfl (Zn (a2) A22 rfl rfl rfl (Za rfl rfl (Zp F26_1 rfl au rfl (Za rfl rfl (Zn (a2) A22 rfl rfl rfl ?_))))))))))))
 obtain ⟨g0, ed, hm⟩ := Zg hm
 refine Za rfl rfl (Tc rfl rfl rfl (Zi rfl (Zi rfl args_nil)) (base_State_sim ed a2 (aa.mono (Zt (Zt (Zt (Zt a b) d) j) o)) (ay.mono (Zt (Zt (Zt (Zt a b) d) j) o))).r ?_)
 rintro _ gl ⟨e3, p, a3, rfl⟩
 refine Za rfl rfl (Exec.not rfl rfl (Zb (Ze ?_)))
 rcases ite_some hm with ⟨al, hm⟩ | ⟨al, hm⟩
 ·refine W_cond_t rfl al (Zc (Zd (Za rfl rfl (Zo (v := Vi (2)) rfl rfl (Zb (Ze (W_ret (at_ret ?_))))))))
  have eU := Zu hm
  subst r
  refine ⟨_, ret1 rfl, ?_⟩
  exact ⟨e3, (Zt (Zt (Zt (Zt (Zt a b) d) j) o) p), (a3).drop, rfl⟩
 refine W_cond_f rfl al ?_
 replace al := Zk al
 refine W_skip (Ze (Zc (Zc (Zd (Za rfl rfl (Exec.load_box_agg (ds := [i, m, n, g]) (a3) A26 rfl au rfl ?_))))))
 obtain ⟨co, ee, hm⟩ := Zg hm
 refine Za rfl rfl (Tc rfl rfl rfl (Zi rfl args_nil) (ref55_lists_sim ee a3 (aa.mono (Zt (Zt (Zt (Zt (Zt a b) d) j) o) p)) (ay.mono (Zt (Zt (Zt (Zt (Zt a b) d) j) o) p)) (aP.mono (Zt (Zt (Zt (Zt (Zt a b) d) j) o) p)) (t.mono (Zt (Zt (Zt (Zt (Zt a b) d) j) o) p))).r ?_)
 rintro cl gm ⟨aK, _, ag, cN, rfl, aE⟩
 refine Za rfl rfl (Zr S78 rfl rfl aE (Za rfl rfl (Zm (v := Vi (0)) rfl rfl (Zb (Ze ?_)))))
 obtain ⟨aW, cy, dr, dg, cW⟩ := ctl_some hm
 refine W_mid (M := fun f' w' => ∃ s', (aW = .next s' ∨ aW = .brk s') ∧ (fun (_ : Unit) => ∃ (bT : PHeap) , PHeap.le aK bT ∧ St w0 bT (Res.box c 26 [i, m, n, g] :: H) w' ∧ f' 1 = Value.pointer (some ⟨c, 0, none⟩) ∧ f' 71 = cl ∧ f' 72 = Vi ((co.length : Int))) s') ?_ ?_
 ·refine W_block (W_forC (fun k' s' f' w' => (fun (_ : Unit) => ∃ (bU : PHeap) , PHeap.le aK bU ∧ St w0 bU (Res.box c 26 [i, m, n, g] :: H) w' ∧ f' 1 = Value.pointer (some ⟨c, 0, none⟩) ∧ f' 71 = cl ∧ f' 72 = Vi ((co.length : Int)) ∧ f' 73 = Vi (k' : Int)) s') cy ?_ ?_ ?_)
  ·exact ⟨aK, (Zv _), cN, au, rfl, rfl, rfl⟩
  ·intro d5 fL aX fo gn db c6 x d0
   obtain ⟨fA, ar, a4, b9, bA, bB, aN⟩ := c6
   refine Zc (Zd (Za rfl rfl (Zq rfl aN bB (Zb (Ze (Zc (W_true (Zx (decide_eq_true (by omega))) (W_skip (Ze (Zc (W_block (Zc (Zd ?_)))))))))))))
   obtain ⟨gz, ef, x⟩ := Zg x
   refine Za rfl rfl (Exec.index_rep S78 rfl bA aN (aE.mono ar) ef ?_)
   intro eH fx ct
   refine Za rfl rfl (Zw (E := (encSlice encFact)) a4 A23 rfl rfl rfl ct ?_)
   intro cm eg
   have et := encSlice_val.1 eg
   refine Za rfl rfl (Zo (v := cm) rfl rfl (Zb (Ze (Zc (Zd (Za rfl rfl (Zp F26_0 rfl b9 rfl (Za rfl rfl (Zn (a4) A22 rfl rfl rfl (Za rfl rfl (Zm (v := cm) rfl rfl ?_)))))))))))
   obtain ⟨g1, eh, x⟩ := Zg x
   refine Za rfl rfl (Tc rfl rfl rfl (Zi rfl (Zi rfl args_nil)) (base_Proper_sim eh a4 (aa.mono (Zt (Zt (Zt (Zt (Zt (Zt (Zt a b) d) j) o) p) ag) ar)) et).r ?_)
   rintro _ go ⟨bV, bt, bf, rfl⟩
   refine Za rfl rfl (Exec.not rfl rfl (Zb (Ze ?_)))
   rcases ite_some x with ⟨am, x⟩ | ⟨am, x⟩
   ·refine W_cond_t rfl am (Zc (Zd (Za rfl rfl (Zo (v := Vi (2)) rfl rfl (Zb (Ze (W_ret (ib_ret (at_ret (at_ret (ib_ret (at_ret (at_ret ?_)))))))))))))
    have eV := Zu x
    subst aX
    have dl := dr _ (d0 (by intro _ h; cases h))
    have eW := Zu dl
    subst r
    refine ⟨_, ret1 rfl, ?_⟩
    exact ⟨bV, (Zt (Zt (Zt (Zt (Zt (Zt (Zt (Zt a b) d) j) o) p) ag) ar) bt), (bf).drop, rfl⟩
   refine W_cond_f rfl am ?_
   replace am := Zk am
   refine W_skip (ib_normal (Ze (Zd (Za rfl rfl (Exec.add rfl aN rfl (Za rfl rfl (Zm (v := Vi (IntKind.i64.wrap ((d5 : Int) + 1))) rfl rfl (Zb (Ze ?_)))))))))
   have eX := Zu x
   subst aX
   refine ⟨_, rfl, ?_⟩; exact ⟨bV, (Zt ar bt), bf, b9, bA, bB, (Eq.trans rfl (wrap_up db (SliceRep.le aE)))⟩
  intro fM fp gp c7 d1
  obtain ⟨e4, dA, cO, dS, dT, bC, eA⟩ := c7
  refine Zc (Zd (Za rfl rfl (Zq rfl eA bC (Zb (Ze (Zc (W_false (Zx (decide_eq_false (by omega))) (W_exit (at_exit (at_exit (ib_here (Ze ?_))))))))))))
  refine ⟨_, .inl d1, ?_⟩; exact ⟨e4, dA, cO, dS, dT, bC⟩
 rintro fq gq ⟨fN, bn, cG⟩
 have hm := bn.elim (dg _) (cW _)
 clear bn
 obtain ⟨aL, ao, bg, dU, f5, f6⟩ := cG
 refine (Ze (Zc (Zc (Zd (Za rfl rfl (Zp F26_3 rfl dU rfl (Za rfl rfl (Zn (bg) A24 rfl rfl rfl (Za rfl rfl (Zr S24 rfl rfl (t.mono (Zt (Zt (Zt (Zt (Zt (Zt (Zt a b) d) j) o) p) ag) ao)) (Za rfl rfl (Zm (v := Vi (0)) rfl rfl (Zb (Ze ?_))))))))))))))
 obtain ⟨aY, cz, dt, dh, cX⟩ := ctl_some hm
 refine W_mid (M := fun f' w' => ∃ s', (aY = .next s' ∨ aY = .brk s') ∧ (fun (_ : Unit) => ∃ (bW : PHeap) , PHeap.le aL bW ∧ St w0 bW (H) w' ∧ f' 84 = g ∧ f' 85 = Vi ((l.Jobs.length : Int))) s') ?_ ?_
 ·refine W_block (W_forC (fun k' s' f' w' => (fun (_ : Unit) => ∃ (bX : PHeap) , PHeap.le aL bX ∧ St w0 bX (H) w' ∧ f' 84 = g ∧ f' 85 = Vi ((l.Jobs.length : Int)) ∧ f' 86 = Vi (k' : Int)) s') cz ?_ ?_ ?_)
  ·have cP := (bg).drop
   exact ⟨aL, (Zv _), cP, rfl, rfl, rfl⟩
  ·intro d6 fO aZ fr gr dc c8 y d2
   obtain ⟨fB, a8, bh, bD, bE, aO⟩ := c8
   refine Zc (Zd (Za rfl rfl (Zq rfl aO bE (Zb (Ze (Zc (W_true (Zx (decide_eq_true (by omega))) (W_skip (Ze (Zc (W_block (Zc (Zd ?_)))))))))))))
   obtain ⟨ax, ei, y⟩ := Zg y
   refine Za rfl rfl (Exec.index_rep S24 rfl bD aO (t.mono (Zt (Zt (Zt (Zt (Zt (Zt (Zt (Zt a b) d) j) o) p) ag) ao) a8)) ei ?_)
   intro eI fy cu
   refine Za rfl rfl (Zw (E := encJob) bh A59 rfl rfl rfl cu ?_)
   intro fT ej
   obtain ⟨ce, cf, cg, ch, ci, rfl, eu, ev, ew, ex, ey⟩ := encJob_val.1 ej
   refine Za rfl rfl (Exec.alloc (cs := [Value.string (⟨#[]⟩), Vi (0), Value.slice none 0 0, Value.slice none 0 0, Value.slice none 0 0, Value.slice none 0 0, Value.slice none 0 0]) bh Z59 rfl rfl ?_)
   intro eJ gs cQ
   refine Za rfl rfl (Exec.store_box (ds := [Value.string (ax.Name), Vi (ax.Duration), ce, cf, cg, ch, ci]) (es := [Value.string (ax.Name), Vi (ax.Duration), ce, cf, cg, ch, ci]) cQ A59 rfl rfl rfl rfl (Zj rfl (Zj rfl (Zj (eu).one (Zj (ev).one (Zj (ew).one (Zj (ex).one (Zj (ey).one one_nil))))))) (Nat.le_of_ble_eq_true rfl) rfl ?_)
   intro gu bi
   refine Zb (Ze (Zc (Zd (Za rfl rfl (Zp F59_0 rfl rfl rfl (Za rfl rfl (Zn (bi) A9 rfl rfl rfl ?_)))))))
   obtain ⟨g2, ek, y⟩ := Zg y
   refine Za rfl rfl (Tc rfl rfl rfl (Zi rfl args_nil) (ref55_named_sim ek bi ).r ?_)
   rintro _ gv ⟨bY, bu, bj, rfl⟩
   refine Za rfl rfl (Exec.not rfl rfl (Zb (Ze ?_)))
   rcases ite_some y with ⟨an, y⟩ | ⟨an, y⟩
   ·refine W_cond_t rfl an (Zc (Zd (Za rfl rfl (Zo (v := Vi (8)) rfl rfl (Zb (Ze (W_ret (ib_ret (at_ret (at_ret (ib_ret (at_ret (at_ret ?_)))))))))))))
    have eY := Zu y
    subst aZ
    have dm := dt _ (d2 (by intro _ h; cases h))
    have eZ := Zu dm
    subst r
    refine ⟨_, ret1 rfl, ?_⟩
    exact ⟨bY, (Zt (Zt (Zt (Zt (Zt (Zt (Zt (Zt (Zt a b) d) j) o) p) ag) ao) a8) bu), (bj).drop, rfl⟩
   refine W_cond_f rfl an ?_
   replace an := Zk an
   refine W_skip (ib_normal (Ze (Zd (Za rfl rfl (Exec.add rfl aO rfl (Za rfl rfl (Zm (v := Vi (IntKind.i64.wrap ((d6 : Int) + 1))) rfl rfl (Zb (Ze ?_)))))))))
   have fa := Zu y
   subst aZ
   refine ⟨_, rfl, ?_⟩; exact ⟨bY, (Zt a8 bu), (bj).drop, bD, bE, (Eq.trans rfl (wrap_up dc (SliceRep.le (t.mono (Zt (Zt (Zt (Zt (Zt (Zt (Zt a b) d) j) o) p) ag) ao)))))⟩
  intro fP fs gw c9 d3
  obtain ⟨e5, dB, cR, dV, bF, eB⟩ := c9
  refine Zc (Zd (Za rfl rfl (Zq rfl eB bF (Zb (Ze (Zc (W_false (Zx (decide_eq_false (by omega))) (W_exit (at_exit (at_exit (ib_here (Ze ?_))))))))))))
  refine ⟨_, .inl d3, ?_⟩; exact ⟨e5, dB, cR, dV, bF⟩
 rintro ft gx ⟨fQ, bo, cH⟩
 have hm := bo.elim (dh _) (cX _)
 clear bo
 obtain ⟨e6, dC, cS, f7, f8⟩ := cH
 refine (Ze (Zc (Zd (Za rfl rfl (Zo (v := Vi (0)) rfl rfl (Zb (Ze (W_ret ?_))))))))
 have fb := Zu hm
 subst r
 refine ⟨_, ret1 rfl, ?_⟩
 exact ⟨e6, (Zt (Zt (Zt (Zt (Zt (Zt (Zt (Zt a b) d) j) o) p) ag) ao) dC), cS, rfl⟩
theorem ZZ77 : (Tryz.prog.info? 77).map (·.zero) = some (some (.int .i64 0)) := by kernel_rfl
theorem base_Num_sim {w0 w : World} {s : PHeap} {H : List Res} {a : (Option Int)}  {r : Int} (hm : base_Num_p a = some r) (hS : St w0 s (H) w)  :
  Calls Tryz.prog 9 #[errV 77 (a)] w fun e w' => ∃ v, e = .returned v ∧ ((fun (f : Int) => ∃ (d : PHeap) , PHeap.le s d ∧ St w0 d (H) w' ∧ v = Vi (f)) r) := by
 unfold base_Num_p at hm
 refine calls_of_W Tryz.func9 rfl rfl (Zc (Zd (Za rfl rfl (Zo (v := Vi (0)) rfl rfl (Zb (Ze (Zc (Zc (Zd (Za rfl rfl (Zm (v := errV 77 (a)) rfl rfl (Za rfl rfl (Exec.err_eql_nil (T := 77) Tryz.underlying36 rfl rfl rfl (Zb (Ze ?_)))))))))))))))
 rcases ite_some hm with ⟨b, hm⟩ | ⟨b, hm⟩
 ·refine W_cond_t rfl b (Zc (Zd (Za rfl rfl (Zo (v := Vi (0)) rfl rfl (Zb (Ze (W_ret (at_ret ?_))))))))
  have g := Zu hm
  subst r
  refine ⟨_, ret1 rfl, ?_⟩
  exact ⟨s, (Zv _), hS, rfl⟩
 refine W_cond_f rfl b ?_
 replace b := Zk b
 refine W_skip (Ze (Zc (Zc (Zd (Za rfl rfl (Zm (v := errV 77 (a)) rfl rfl (Za rfl rfl (Exec.err_assert Tryz.underlying77 ZZ77 rfl rfl (Za rfl rfl (Zm (v := Value.tuple #[Vi (a.getD 0), Value.bool (a.isSome)]) rfl rfl (Za rfl rfl (Exec.extract (v := Vi (a.getD 0)) rfl rfl rfl (Za rfl rfl (Exec.extract (v := Value.bool (a.isSome)) rfl rfl rfl (Za rfl rfl (Zo (v := Vi (a.getD 0)) rfl rfl (Za rfl rfl (Zo (v := Value.bool (a.isSome)) rfl rfl (Zb (Ze (Zc (Zd (Za rfl rfl (Zm (v := Value.bool (a.isSome)) rfl rfl (Zb (Ze ?_))))))))))))))))))))))))))
 rcases ite_some hm with ⟨c, hm⟩ | ⟨c, hm⟩
 ·refine W_cond_t rfl c (Zc (Zd (Za rfl rfl (Zm (v := Vi (a.getD 0)) rfl rfl (Za rfl rfl (Zo (v := Vi (a.getD 0)) rfl rfl (Zb (Ze (W_ret (at_ret ?_))))))))))
  have h := Zu hm
  subst r
  refine ⟨_, ret1 rfl, ?_⟩
  exact ⟨s, (Zv _), hS, rfl⟩
 refine W_cond_f rfl c ?_
 replace c := Zk c
 refine W_skip (Ze (Zc (Zd (Za rfl rfl (Zo (v := Vi ((-1))) rfl rfl (Zb (Ze (W_ret ?_))))))))
 have i := Zu hm
 subst r
 refine ⟨_, ret1 rfl, ?_⟩
 exact ⟨s, (Zv _), hS, rfl⟩
theorem Z44 : tyZero Tryz.prog 44 = some (Value.agg #[Value.slice none 0 0, Value.slice none 0 0, Value.slice none 0 0, Vi (0)]) := by kernel_rfl
theorem ref55_Launches_sim {w0 w : World} {s : PHeap} {H : List Res} {j : Temporal} {y : (List Launch)} {n : Value} {o : Value} {p : Value} {q : Value} {l : Value} {r : Int} (hm : ref55_Launches_p j y = some r) (hS : St w0 s (H) w) (aR : SliceRep (encInt .i64) s n j.Vars) (aS : SliceRep (encInt .i64) s o j.Init) (aT : SliceRep encFact s p j.Goal) (aw : SliceRep encJob s q j.Jobs) (ad : SliceRep encLaunch s l y) :
  Calls Tryz.prog 26 #[Value.agg #[n, o, p, q], l] w fun e w' => ∃ v, e = .returned v ∧ ((fun (aQ : Int) => ∃ (ap : PHeap) , PHeap.le s ap ∧ St w0 ap (H) w' ∧ v = Vi (aQ)) r) := by
 unfold ref55_Launches_p at hm
 refine calls_of_W Tryz.func26 rfl rfl (Zc (Zd (Za rfl rfl (Exec.box (cs := [n, o, p, q]) hS rfl rfl rfl ?_))))
 intro m bn ah
 refine Za rfl rfl (Zo (v := Vi (0)) rfl rfl (Zb (Ze (Zc (Zc (Zd (Za rfl rfl (Zm (v := l) rfl rfl (Za rfl rfl (Zr S27 rfl rfl ad (Za rfl rfl (Exec.gtr rfl rfl rfl (Zb (Ze ?_))))))))))))))
 rcases ite_some hm with ⟨u, hm⟩ | ⟨u, hm⟩
 ·refine W_cond_t rfl u (Zc (Zd (Za rfl rfl (Zo (v := Vi (5)) rfl rfl (Zb (Ze (W_ret (at_ret ?_))))))))
  have aW := Zu hm
  subst r
  refine ⟨_, ret1 rfl, ?_⟩
  exact ⟨s, (Zv _), (ah).drop, rfl⟩
 refine W_cond_f rfl u ?_
 replace u := Zk u
 refine W_skip (Ze (Zc (Zc (Zd (Za rfl rfl (Zm (v := l) rfl rfl (Za rfl rfl (Zr S27 rfl rfl ad (Za rfl rfl (Zm (v := Vi (0)) rfl rfl (Zb (Ze ?_))))))))))))
 obtain ⟨af, ay, aA, a8, a6⟩ := ctl_some hm
 refine W_mid (M := fun f' w' => ∃ s', (af = .next s' ∨ af = .brk s') ∧ (fun (_ : Unit) => ∃ (aq : PHeap) , PHeap.le s aq ∧ St w0 aq (Res.box m 26 [n, o, p, q] :: H) w' ∧ f' 2 = Value.pointer (some ⟨m, 0, none⟩) ∧ f' 10 = l ∧ f' 11 = Vi ((y.length : Int))) s') ?_ ?_
 ·refine W_block (W_forC (fun k' s' f' w' => (fun (_ : Unit) => ∃ (ar : PHeap) , PHeap.le s ar ∧ St w0 ar (Res.box m 26 [n, o, p, q] :: H) w' ∧ f' 2 = Value.pointer (some ⟨m, 0, none⟩) ∧ f' 10 = l ∧ f' 11 = Vi ((y.length : Int)) ∧ f' 12 = Vi (k' : Int)) s') ay ?_ ?_ ?_)
  ·exact ⟨s, (Zv _), ah, rfl, rfl, rfl, rfl⟩
  ·intro al bj ag bb bo a7 az i aB
   obtain ⟨ac, ae, ai, z, aa, ab, t⟩ := az
   refine Zc (Zd (Za rfl rfl (Zq rfl t ab (Zb (Ze (Zc (W_true (Zx (decide_eq_true (by omega))) (W_skip (Ze (Zc (W_block (Zc (Zd ?_)))))))))))))
   obtain ⟨b, aL, i⟩ := Zg i
   refine Za rfl rfl (Exec.index_rep S27 rfl aa t (ad.mono ae) aL ?_)
   intro aU bf ax
   refine Za rfl rfl (Zw (E := encLaunch) ai A64 rfl rfl rfl ax ?_)
   intro bm aM
   obtain rfl := encLaunch_val.1 aM
   refine Za rfl rfl (Exec.alloc (cs := [Vi (0), Vi (0)]) ai Z64 rfl rfl ?_)
   intro aV bp a3
   refine Za rfl rfl (Exec.store_box (ds := [Vi (b.At), Vi (b.Job)]) (es := [Vi (b.At), Vi (b.Job)]) a3 A64 rfl rfl rfl rfl (Zj rfl (Zj rfl one_nil)) (Nat.le_of_ble_eq_true rfl) rfl ?_)
   intro bq d
   refine Zb (Ze (Zc (W_mid (M := fun f' w' => ∃ (au : PHeap) , PHeap.le ac au ∧ St w0 au (Res.box m 26 [n, o, p, q] :: H) w' ∧ f' 2 = Value.pointer (some ⟨m, 0, none⟩) ∧ f' 10 = l ∧ f' 11 = Vi ((y.length : Int)) ∧ f' 12 = Vi ((al : Int)) ∧ f' 36 = Value.bool (((decide (b.Job < 0)) || ((decide ((j.Jobs.length : Int) ≤ b.Job)) || ((decide (b.At < 0)) || decide (1048576 < b.At)))))) ?_ ?_)))
   ·refine Zd (Za rfl rfl (Zp F64_1 rfl rfl rfl (Za rfl rfl (Zn (d) A3 rfl rfl rfl (Za rfl rfl (Zq rfl rfl rfl (Za rfl rfl (Zm (v := Value.bool (decide (b.Job < 0))) rfl rfl ?_))))))))
    by_cases a : (decide (b.Job < 0)) = true
    ·refine WL_passes 17 (by rw [a]; rfl) ?_
     refine Zb (Ze ?_)
     exact ⟨ac, (Zv _), (d).drop, z, aa, ab, t, (Zx (or_t a)).symm⟩
    replace a := Zk a
    refine WL_run rfl (Zf rfl (Zx a)) rfl (Zp F64_1 rfl rfl rfl (WL_run rfl (Zf rfl (Zx a)) rfl (Zn (d) A3 rfl rfl rfl (WL_run rfl (Zf rfl (Zx a)) rfl (Zp F26_3 rfl z rfl (WL_run rfl (Zf rfl (Zx a)) rfl (Zn ((d).f1) A24 rfl rfl rfl (WL_run rfl (Zf rfl (Zx a)) rfl (Zr S24 rfl rfl (aw.mono ae) (WL_run rfl (Zf rfl (Zx a)) rfl (Exec.geq rfl rfl rfl ?_)))))))))))
    refine WL_passes 2 (by rw [a]; rfl) ?_
    by_cases c : (decide ((j.Jobs.length : Int) ≤ b.Job)) = true
    ·refine WL_passes 9 (by rw [c]; rfl) ?_
     refine Zb (Ze ?_)
     exact ⟨ac, (Zv _), (d).drop, z, aa, ab, t, (Zx (Eq.trans (or_f a) (or_t c))).symm⟩
    replace c := Zk c
    refine WL_run rfl (Zf rfl (Zx c)) rfl (Zp F64_0 rfl rfl rfl (WL_run rfl (Zf rfl (Zx c)) rfl (Zn (d) A3 rfl rfl rfl (WL_run rfl (Zf rfl (Zx c)) rfl (Zq rfl rfl rfl ?_)))))
    refine WL_passes 2 (by rw [c]; rfl) ?_
    by_cases g : (decide (b.At < 0)) = true
    ·refine WL_passes 4 (by rw [g]; rfl) ?_
     refine Zb (Ze ?_)
     exact ⟨ac, (Zv _), (d).drop, z, aa, ab, t, (Zx (Eq.trans (or_f a) (Eq.trans (or_f c) (or_t g)))).symm⟩
    replace g := Zk g
    refine WL_run rfl (Zf rfl (Zx g)) rfl (Zp F64_0 rfl rfl rfl (WL_run rfl (Zf rfl (Zx g)) rfl (Zn (d) A3 rfl rfl rfl (WL_run rfl (Zf rfl (Zx g)) rfl (Exec.gtr rfl rfl rfl (Za rfl rfl (Exec.pick_f (v := Value.bool (decide (1048576 < b.At))) rfl (Zx g) rfl (Zb (Ze ?_)))))))))
    exact ⟨ac, (Zv _), (d).drop, z, aa, ab, t, (Zx (Eq.trans (or_f a) (Eq.trans (or_f c) (or_f g)))).symm⟩
   intro bc br a1
   obtain ⟨av, am, aj, aF, aG, aH, aI, an⟩ := a1
   refine (Ze ?_)
   rcases ite_some i with ⟨x, i⟩ | ⟨x, i⟩
   ·refine W_cond_t an x (Zc (Zd (Za rfl rfl (Zo (v := Vi (1)) rfl rfl (Zb (Ze (W_ret (ib_ret (at_ret (at_ret (ib_ret (at_ret (at_ret ?_)))))))))))))
    have aX := Zu i
    subst ag
    have a9 := aA _ (aB (by intro _ h; cases h))
    have aY := Zu a9
    subst r
    refine ⟨_, ret1 rfl, ?_⟩
    exact ⟨av, (Zt ae am), (aj).drop, rfl⟩
   refine W_cond_f an x ?_
   replace x := Zk x
   refine W_skip (ib_normal (Ze (Zd (Za rfl rfl (Exec.add rfl aI rfl (Za rfl rfl (Zm (v := Vi (IntKind.i64.wrap ((al : Int) + 1))) rfl rfl (Zb (Ze ?_)))))))))
   have aZ := Zu i
   subst ag
   refine ⟨_, rfl, ?_⟩; exact ⟨av, (Zt ae am), aj, aF, aG, aH, (Eq.trans rfl (wrap_up a7 (SliceRep.le ad)))⟩
  intro bk bd bs a0 aC
  obtain ⟨aN, aD, a4, aJ, aK, ao, aP⟩ := a0
  refine Zc (Zd (Za rfl rfl (Zq rfl aP ao (Zb (Ze (Zc (W_false (Zx (decide_eq_false (by omega))) (W_exit (at_exit (at_exit (ib_here (Ze ?_))))))))))))
  refine ⟨_, .inl aC, ?_⟩; exact ⟨aN, aD, a4, aJ, aK, ao⟩
 rintro be bt ⟨bl, ak, a2⟩
 have hm := ak.elim (a8 _) (a6 _)
 clear ak
 obtain ⟨aO, aE, a5, bg, bh, bi⟩ := a2
 refine (Ze (Zc (Zd (Za rfl rfl (Zo (v := Vi (0)) rfl rfl (Zb (Ze (W_ret ?_))))))))
 have ba := Zu hm
 subst r
 refine ⟨_, ret1 rfl, ?_⟩
 exact ⟨aO, aE, (a5).drop, rfl⟩
theorem A44 : tyAgg Tryz.prog 44 = some (true, 4) := by kernel_rfl
theorem ref55_End_sim {w0 w : World} {s : PHeap} {H : List Res} {c : Temporal} {a : Launch} {d : Value} {f : Value} {g : Value} {h : Value} {r : Int} (hm : ref55_End_p c a = some r) (hS : St w0 s (H) w) (t : SliceRep (encInt .i64) s d c.Vars) (u : SliceRep (encInt .i64) s f c.Init) (x : SliceRep encFact s g c.Goal) (k : SliceRep encJob s h c.Jobs) :
  Calls Tryz.prog 54 #[Value.agg #[d, f, g, h], Value.agg #[Vi (a.At), Vi (a.Job)]] w fun e w' => ∃ v, e = .returned v ∧ ((fun (q : Int) => ∃ (i : PHeap) , PHeap.le s i ∧ St w0 i (H) w' ∧ v = Vi (q)) r) := by
 unfold ref55_End_p at hm
 refine calls_of_W Tryz.func54 rfl rfl (Zc (Zd (Za rfl rfl (Exec.box (cs := [d, f, g, h]) hS rfl rfl rfl ?_))))
 intro y ae m
 refine Za rfl rfl (Exec.box (cs := [Vi (a.At), Vi (a.Job)]) m rfl rfl rfl ?_)
 intro z af b
 refine Za rfl rfl (Zo (v := Vi (0)) rfl rfl (Zb (Ze (Zc (W_dl (n0 := 10) (qs 0 10 .done) hmix (by kernel_rfl) (by kernel_rfl) (DL_q rfl rfl (Zp F64_0 rfl rfl rfl ⟨rfl, ?_⟩)))))))
 refine DL_q rfl rfl (Zn (b.drew) A3 rfl rfl rfl ⟨rfl, ?_⟩)
 refine DL_q rfl rfl (Zp F26_3 rfl rfl rfl ⟨rfl, ?_⟩)
 refine DL_q rfl rfl (Zn ((b.drew).f1) A24 rfl rfl rfl ⟨rfl, ?_⟩)
 refine DL_q rfl rfl (Zp F64_1 rfl rfl rfl ⟨rfl, ?_⟩)
 refine DL_q rfl rfl (Zn (b.drew) A3 rfl rfl rfl ⟨rfl, ?_⟩)
 obtain ⟨j, n, hm⟩ := Zg hm
 refine DL_q rfl rfl (Exec.index_repE S24 rfl rfl rfl k n ?_)
 intro aa ad l ab
 refine ⟨rfl, ?_⟩
 refine DL_q rfl rfl (Zp F59_1 rfl rfl rfl ⟨rfl, ?_⟩)
 refine DL_q rfl rfl (Zw (E := (encInt .i64)) b.drew A3 rfl rfl rfl (l.sub (Sub.iso (Sub.snd (Sub.fst (Sub.refl _)) rfl)) rfl) ?_)
 intro p o
 obtain rfl : p = Vi (j.Duration) := encInt_val.1 o
 refine ⟨rfl, ?_⟩
 refine DL_q rfl rfl (Exec.add rfl rfl rfl ⟨rfl, ?_⟩)
 refine DL_done (Za rfl rfl (Zo (v := Vi (IntKind.i64.wrap (a.At + j.Duration))) rfl rfl (Zb (Ze (W_ret ?_)))))
 have ac := Zu hm
 subst r
 refine ⟨_, ret1 rfl, ?_⟩
 exact ⟨s, (Zv _), ((b.drew).drop).drop, rfl⟩
theorem ref55_Makespan_sim {w0 w : World} {s : PHeap} {H : List Res} {g : Temporal} {p : (List Launch)} {h : Value} {i : Value} {j : Value} {l : Value} {m : Value} {r : Int} (hm : ref55_Makespan_p g p = some r) (hS : St w0 s (H) w) (ac : SliceRep (encInt .i64) s h g.Vars) (ad : SliceRep (encInt .i64) s i g.Init) (ae : SliceRep encFact s j g.Goal) (af : SliceRep encJob s l g.Jobs) (n : SliceRep encLaunch s m p) :
  Calls Tryz.prog 27 #[Value.agg #[h, i, j, l], m] w fun e w' => ∃ v, e = .returned v ∧ ((fun (a4 : Int) => ∃ (aa : PHeap) , PHeap.le s aa ∧ St w0 aa (H) w' ∧ v = Vi (a4)) r) := by
 unfold ref55_Makespan_p at hm
 refine calls_of_W Tryz.func27 rfl rfl (Zc (Zd (Za rfl rfl (Exec.box (cs := [h, i, j, l]) hS rfl rfl rfl ?_))))
 intro t aH ak
 refine Za rfl rfl (Zo (v := Vi (0)) rfl rfl (Zb (Ze (Zc (Zd (Za rfl rfl (Zo (v := Vi (0)) rfl rfl (Zb (Ze (Zc (Zc (Zd (Za rfl rfl (Zm (v := m) rfl rfl (Za rfl rfl (Zr S27 rfl rfl n (Za rfl rfl (Zm (v := Vi (0)) rfl rfl (Zb (Ze ?_))))))))))))))))))))
 obtain ⟨a, ah, hm⟩ := Zg hm
 refine W_block (W_forS (fun k' s' f' w' => (fun (a : Int) => ∃ (ab : PHeap) , PHeap.le s ab ∧ St w0 ab (Res.box t 26 [h, i, j, l] :: H) w' ∧ f' 2 = Value.pointer (some ⟨t, 0, none⟩) ∧ f' 5 = Vi (a) ∧ f' 8 = m ∧ f' 9 = Vi ((p.length : Int)) ∧ f' 10 = Vi (k' : Int)) s') ah ?_ ?_ ?_)
 ·exact ⟨s, (Zv _), ak, rfl, rfl, rfl, rfl, rfl⟩
 ·intro ap a a0 aA aI ao ai d
  obtain ⟨aF, b, u, x, au, y, z, q⟩ := ai
  refine Zc (Zd (Za rfl rfl (Zq rfl q z (Zb (Ze (Zc (W_true (Zx (decide_eq_true (by omega))) (W_skip (Ze (Zc (W_block (Zc (Zd ?_)))))))))))))
  obtain ⟨c, ax, d⟩ := Zg d
  refine Za rfl rfl (Exec.index_rep S27 rfl y q (n.mono b) ax ?_)
  intro a6 aC ag
  refine Za rfl rfl (Zw (E := encLaunch) u A64 rfl rfl rfl ag ?_)
  intro aG ay
  obtain rfl := encLaunch_val.1 ay
  refine Za rfl rfl (Exec.alloc (cs := [Vi (0), Vi (0)]) u Z64 rfl rfl ?_)
  intro a7 aJ al
  refine Za rfl rfl (Exec.store_box (ds := [Vi (c.At), Vi (c.Job)]) (es := [Vi (c.At), Vi (c.Job)]) al A64 rfl rfl rfl rfl (Zj rfl (Zj rfl one_nil)) (Nat.le_of_ble_eq_true rfl) rfl ?_)
  intro aK o
  refine Zb (Ze (Zd (Za rfl rfl (Zm (v := Vi (a)) rfl au (Za rfl rfl (Exec.load_box_agg (ds := [h, i, j, l]) ((o).f1) A26 rfl x rfl (Za rfl rfl (Exec.load_box_agg (ds := [Vi (c.At), Vi (c.Job)]) (o) A64 rfl rfl rfl ?_))))))))
  obtain ⟨a5, az, d⟩ := Zg d
  refine Za rfl rfl (Tc rfl rfl rfl (Zi rfl (Zi rfl args_nil)) (ref55_End_sim az o (ac.mono b) (ad.mono b) (ae.mono b) (af.mono b)).r ?_)
  rintro _ aL ⟨a1, aq, am, rfl⟩
  refine Za rfl rfl (Exec.max2 rfl rfl rfl (Za rfl rfl (Zo (v := Vi (max a a5)) rfl rfl (Zb (ib_normal (Ze (Zd (Za rfl rfl (Exec.add rfl q rfl (Za rfl rfl (Zm (v := Vi (IntKind.i64.wrap ((ap : Int) + 1))) rfl rfl (Zb (Ze ?_)))))))))))))
  have a8 := Zu d
  subst a0
  exact ⟨a1, (Zt b aq), (am).drop, x, rfl, y, z, (Eq.trans rfl (wrap_up ao (SliceRep.le n)))⟩
 intro aB aM aj
 obtain ⟨a2, ar, an, aD, av, aE, aw, a3⟩ := aj
 refine Zc (Zd (Za rfl rfl (Zq rfl a3 aw (Zb (Ze (Zc (W_false (Zx (decide_eq_false (by omega))) (W_exit (at_exit (at_exit (ib_here (Ze (Zc (Zd (Za rfl rfl (Zm (v := Vi (a)) rfl av (Za rfl rfl (Zo (v := Vi (a)) rfl rfl (Zb (Ze (W_ret ?_)))))))))))))))))))))
 have a9 := Zu hm
 subst r
 refine ⟨_, ret1 rfl, ?_⟩
 exact ⟨a2, ar, (an).drop, rfl⟩
theorem ref55_Ticks_sim {w0 w : World} {s : PHeap} {H : List Res} {al : Temporal} {ac : (List Launch)} {p : Value} {t : Value} {u : Value} {x : Value} {d : Value} {r : (List Int)} (hm : ref55_Ticks_p al ac = some r) (hS : St w0 s (H) w) (bm : SliceRep (encInt .i64) s p al.Vars) (bn : SliceRep (encInt .i64) s t al.Init) (bo : SliceRep encFact s u al.Goal) (bp : SliceRep encJob s x al.Jobs) (aw : SliceRep encLaunch s d ac) :
  Calls Tryz.prog 28 #[Value.agg #[p, t, u, x], d] w fun e w' => ∃ v, e = .returned v ∧ ((fun (cJ : (List Int)) => ∃ (a7 : PHeap) (bk : Value), PHeap.le s a7 ∧ St w0 a7 (H) w' ∧ v = bk ∧ SliceRep (encInt .i64) a7 bk cJ) r) := by
 unfold ref55_Ticks_p at hm
 refine calls_of_W Tryz.func28 rfl rfl (Zc (Zd (Za rfl rfl (Exec.box (cs := [p, t, u, x]) hS rfl rfl rfl ?_))))
 intro i dw b4
 refine Za rfl rfl (Zo (v := Value.slice none 0 0) rfl rfl (Zb (Ze (Zc (Zd (Za rfl rfl (Zo (v := Value.slice none 0 0) rfl rfl (Zb (Ze (Zc (Zd (Za rfl rfl (Zo (v := Vi ((-1))) rfl rfl (Zb (Ze ?_)))))))))))))))
 obtain ⟨aB, bs, bN, bL, bI⟩ := ctl_some hm
 refine W_mid (M := fun f' w' => ∃ s', (aB = .next s' ∨ aB = .brk s') ∧ (un2 fun (aL : (List Int)) (aK : Int) => ∃ (bc : PHeap) (a9 : Value), PHeap.le s bc ∧ St w0 bc (Res.box i 26 [p, t, u, x] :: Res.arr (encInt .i64) 3 a9 aL :: H) w' ∧ f' 1 = d ∧ f' 2 = Value.pointer (some ⟨i, 0, none⟩) ∧ f' 5 = a9 ∧ f' 6 = Vi (aK)) s') ?_ ?_
 ·refine W_block (W_while (fun s' f' w' => (un2 fun (ae : (List Int)) (o : Int) => ∃ (bd : PHeap) (a : Value), PHeap.le s bd ∧ St w0 bd (Res.box i 26 [p, t, u, x] :: Res.arr (encInt .i64) 3 a ae :: H) w' ∧ f' 1 = d ∧ f' 2 = Value.pointer (some ⟨i, 0, none⟩) ∧ f' 5 = a ∧ f' 6 = Vi (o)) s') bs ?_ ?_)
  ·have b5 := b4.nilArr (encInt .i64) 3
   exact ⟨s, (Value.slice none 0 0), (Zv _), (b5).f1, rfl, rfl, rfl, rfl⟩
  intro cF aC cV dx bv m bO
  obtain ⟨ae, o⟩ := cF
  replace m := un2_eq m
  obtain ⟨be, a, z, b6, aM, bV, bW, bX⟩ := bv
  refine W_block (Zc (Zd (Za rfl rfl (Zo (v := Vi ((-1))) rfl rfl (Zb (Ze (Zc (Zc (Zd (Za rfl rfl (Zm (v := d) rfl aM (Za rfl rfl (Zr S27 rfl rfl (aw.mono z) (Za rfl rfl (Zm (v := Vi (0)) rfl rfl (Zb (Ze ?_)))))))))))))))))
  obtain ⟨n, bt, m⟩ := Zg m
  refine W_block (W_forS (fun k' s' f' w' => (fun (n : Int) => ∃ (bf : PHeap) , PHeap.le be bf ∧ St w0 bf (Res.box i 26 [p, t, u, x] :: Res.arr (encInt .i64) 3 a ae :: H) w' ∧ f' 1 = d ∧ f' 2 = Value.pointer (some ⟨i, 0, none⟩) ∧ f' 5 = a ∧ f' 6 = Vi (o) ∧ f' 7 = Vi (n) ∧ f' 12 = d ∧ f' 13 = Vi ((ac.length : Int)) ∧ f' 14 = Vi (k' : Int)) s') bt ?_ ?_ ?_)
  ·have b7 := (b6).f1
   exact ⟨be, (Zv _), (b7).f1, aM, bV, bW, bX, rfl, rfl, rfl, rfl⟩
  ·intro ap n c9 cW dy bJ bw ab
   obtain ⟨dq, ad, aD, bY, aN, bZ, ca, cb, aO, aP, aA⟩ := bw
   refine Zc (Zd (Za rfl rfl (Zq rfl aA aP (Zb (Ze (Zc (W_true (Zx (decide_eq_true (by omega))) (W_skip (Ze (Zc (W_block (Zc (Zd ?_)))))))))))))
   obtain ⟨g, c2, ab⟩ := Zg ab
   refine Za rfl rfl (Exec.index_rep S27 rfl aO aA (aw.mono (Zt z ad)) c2 ?_)
   intro cK dg bq
   refine Za rfl rfl (Zw (E := encLaunch) aD A64 rfl rfl rfl bq ?_)
   intro du c3
   obtain rfl := encLaunch_val.1 c3
   refine Za rfl rfl (Exec.alloc (cs := [Vi (0), Vi (0)]) aD Z64 rfl rfl ?_)
   intro cL dz b8
   refine Za rfl rfl (Exec.store_box (ds := [Vi (g.At), Vi (g.Job)]) (es := [Vi (g.At), Vi (g.Job)]) b8 A64 rfl rfl rfl rfl (Zj rfl (Zj rfl one_nil)) (Nat.le_of_ble_eq_true rfl) rfl ?_)
   intro d0 an
   refine Zb (Ze (Zc (W_dl (n0 := 8) (qs 0 4 (.q 7 (.e 4 [0, 1, 7] (.e 5 [7] (.q 6 .done))))) hmix (by kernel_rfl) (by kernel_rfl) (DL_q rfl rfl (Zp F64_0 rfl rfl rfl ⟨rfl, ?_⟩)))))
   refine DL_q rfl rfl (Zn (an.drew) A3 rfl rfl rfl ⟨rfl, ?_⟩)
   refine DL_q rfl rfl (Exec.load_box_agg (ds := [p, t, u, x]) ((an.drew).f1) A26 rfl aN rfl ⟨rfl, ?_⟩)
   refine DL_q rfl rfl (Exec.load_box_agg (ds := [Vi (g.At), Vi (g.Job)]) (an.drew) A64 rfl rfl rfl ⟨rfl, ?_⟩)
   refine DL_q rfl rfl (Zm (v := Vi (0)) rfl rfl ⟨rfl, ?_⟩)
   obtain ⟨aa, c4, ab⟩ := Zg ab
   refine DL_e rfl rfl (Tc rfl rfl rfl (Zi rfl (Zi rfl args_nil)) (ref55_End_sim c4 an.drew (bm.mono (Zt z ad)) (bn.mono (Zt z ad)) (bo.mono (Zt z ad)) (bp.mono (Zt z ad))).r ?_)
   rintro _ d1 ⟨dr, bP, aE, rfl⟩
   refine ⟨(ag_cons (ag_r rfl rfl (Zp F64_0 rfl rfl rfl ⟨rfl, rfl⟩)) (ag_cons (ag_r rfl rfl (Zn (aE) A3 rfl rfl rfl ⟨rfl, rfl⟩)) (ag_cons (ag_r rfl rfl (Zm (v := Vi (0)) rfl rfl ⟨rfl, rfl⟩)) ag_nil))), ?_⟩
   refine DL_e rfl rfl (Exec.buildSlice (Te := 3) (cs := [Vi (g.At), Vi (aa)]) aE rfl (parts_cons (c := [Vi (g.At)]) (cells_of rfl rfl) (parts_cons (c := [Vi (aa)]) (cells_of rfl rfl) parts_nil)) (fun _ => by kernel_rfl) ?_)
   intro ax d2 b9
   refine ⟨(ag_cons (ag_r rfl rfl (Zm (v := Vi (0)) rfl rfl ⟨rfl, rfl⟩)) ag_nil), ?_⟩
   have bA := St.boxArr (E := (encInt .i64)) (xs := [g.At, aa]) b9 ⟨[Vi (g.At)], [Vi (aa)], rfl, rfl, ⟨[Vi (aa)], [], rfl, rfl, rfl⟩⟩ (by simp [maxLen])
   obtain ⟨bg, bQ, bB, a6⟩ := bA.freezeArr
   refine DL_q rfl rfl (Zr S22 rfl rfl a6 ⟨rfl, ?_⟩)
   refine DL_done (Zb (Ze ?_))
   obtain ⟨j, bu, ab⟩ := Zg ab
   refine W_block (W_forS (fun k' s' f' w' => (fun (j : Int) => ∃ (bh : PHeap) , PHeap.le bg bh ∧ St w0 bh (Res.box i 26 [p, t, u, x] :: Res.arr (encInt .i64) 3 a ae :: H) w' ∧ f' 1 = d ∧ f' 2 = Value.pointer (some ⟨i, 0, none⟩) ∧ f' 5 = a ∧ f' 6 = Vi (o) ∧ f' 7 = Vi (j) ∧ f' 12 = d ∧ f' 13 = Vi ((ac.length : Int)) ∧ f' 14 = Vi ((ap : Int)) ∧ f' 23 = Value.slice (some ⟨ax, 0, none⟩) 2 2 ∧ f' 24 = Vi (([g.At, aa].length : Int)) ∧ f' 25 = Vi (k' : Int)) s') bu ?_ ?_ ?_)
   ·have bC := (bB).drop
    exact ⟨bg, (Zv _), ((bC).f1).f1, bY, aN, bZ, ca, cb, aO, aP, aA, rfl, rfl, rfl⟩
   ·intro ay j cA cX d3 bK bx ah
    obtain ⟨av, aI, ao, az, a0, a1, aq, ak, a2, a3, a4, ar, au, am⟩ := bx
    refine Zc (Zd (Za rfl rfl (Zq rfl am au (Zb (Ze (Zc (W_true (Zx (decide_eq_true (by omega))) (W_skip (Ze (Zc (W_block (Zc (Zd ?_)))))))))))))
    obtain ⟨l, c5, ah⟩ := Zg ah
    refine Za rfl rfl (Exec.index_rep S22 rfl ar am (a6.mono aI) c5 ?_)
    intro cM dh br
    refine Za rfl rfl (Zw (E := (encInt .i64)) ao A3 rfl rfl rfl br ?_)
    intro dv c6
    obtain rfl := encInt_val.1 c6
    refine Za rfl rfl (Zo (v := Vi (l)) rfl rfl (Zb (Ze (Zc (W_mid (M := fun f' w' => ∃ (bi : PHeap) , PHeap.le av bi ∧ St w0 bi (Res.box i 26 [p, t, u, x] :: Res.arr (encInt .i64) 3 a ae :: H) w' ∧ f' 1 = d ∧ f' 2 = Value.pointer (some ⟨i, 0, none⟩) ∧ f' 5 = a ∧ f' 6 = Vi (o) ∧ f' 7 = Vi (j) ∧ f' 11 = Vi (l) ∧ f' 12 = d ∧ f' 13 = Vi ((ac.length : Int)) ∧ f' 14 = Vi ((ap : Int)) ∧ f' 23 = Value.slice (some ⟨ax, 0, none⟩) 2 2 ∧ f' 24 = Vi (([g.At, aa].length : Int)) ∧ f' 25 = Vi ((ay : Int)) ∧ f' 40 = Value.bool (((decide (o < l)) && ((decide (j < 0)) || decide (l < j))))) ?_ ?_)))))
    ·refine Zd (Za rfl rfl (Zm (v := Vi (l)) rfl rfl (Za rfl rfl (Zm (v := Vi (o)) rfl aq (Za rfl rfl (Exec.gtr rfl rfl rfl (Za rfl rfl (Zm (v := Value.bool (decide (o < l))) rfl rfl ?_))))))))
     by_cases b : (decide (o < l)) = true
     ·refine WL_run rfl (Zf rfl (Zx b)) rfl (Zm (v := Vi (j)) rfl ak (WL_run rfl (Zf rfl (Zx b)) rfl (Zq rfl rfl rfl (WL_run rfl (Zf rfl (Zx b)) rfl (Zm (v := Value.bool (decide (j < 0))) rfl rfl ?_)))))
      by_cases y : (decide (j < 0)) = true
      ·refine WL_passes 3 (by rw [y]; rfl) ?_
       refine WL_run rfl (Zf rfl (Zx b)) rfl (Zs (v := Value.bool (true)) rfl rfl rfl (Za rfl rfl (Zs (v := Value.bool (true)) rfl (Zx b) rfl (Zb (Ze ?_)))))
       exact ⟨av, (Zv _), ((ao).f1).f1, az, a0, a1, aq, ak, rfl, a2, a3, a4, ar, au, am, (Zx (Eq.trans (and_t b) (or_t y))).symm⟩
      replace y := Zk y
      refine WL_run rfl (Zf rfl (Zx y)) rfl (Zm (v := Vi (l)) rfl rfl (WL_run rfl (Zf rfl (Zx y)) rfl (Zm (v := Vi (j)) rfl ak (WL_run rfl (Zf rfl (Zx y)) rfl (Zq rfl rfl rfl (WL_run rfl (Zf rfl (Zx b)) rfl (Exec.pick_f (v := Value.bool (decide (l < j))) rfl (Zx y) rfl (Za rfl rfl (Zs (v := Value.bool (decide (l < j))) rfl (Zx b) rfl (Zb (Ze ?_)))))))))))
      exact ⟨av, (Zv _), ((ao).f1).f1, az, a0, a1, aq, ak, rfl, a2, a3, a4, ar, au, am, (Zx (Eq.trans (and_t b) (or_f y))).symm⟩
     replace b := Zk b
     refine WL_passes 8 (by rw [b]; rfl) ?_
     refine Zb (Ze ?_)
     exact ⟨av, (Zv _), ((ao).f1).f1, az, a0, a1, aq, ak, rfl, a2, a3, a4, ar, au, am, (Zx (and_f b)).symm⟩
    intro cY d4 b1
    obtain ⟨a8, bR, aF, aQ, aR, aS, aT, cc, cd, aU, aV, aW, aX, aY, aZ, ba⟩ := b1
    refine (Ze ?_)
    obtain ⟨aj, ai, ah⟩ := Zg ah
    refine W_mid (M := fun f' w' => (fun (aj : Int) => ∃ (bj : PHeap) , PHeap.le a8 bj ∧ St w0 bj (Res.box i 26 [p, t, u, x] :: Res.arr (encInt .i64) 3 a ae :: H) w' ∧ f' 1 = d ∧ f' 2 = Value.pointer (some ⟨i, 0, none⟩) ∧ f' 5 = a ∧ f' 6 = Vi (o) ∧ f' 7 = Vi (aj) ∧ f' 12 = d ∧ f' 13 = Vi ((ac.length : Int)) ∧ f' 14 = Vi ((ap : Int)) ∧ f' 23 = Value.slice (some ⟨ax, 0, none⟩) 2 2 ∧ f' 24 = Vi (([g.At, aa].length : Int)) ∧ f' 25 = Vi ((ay : Int))) aj) ?_ ?_
    ·rcases ite_some ai with ⟨af, ai⟩ | ⟨af, ai⟩
     ·refine W_cond_t ba af (Zd (Za rfl rfl (Zm (v := Vi (l)) rfl cd (Za rfl rfl (Zo (v := Vi (l)) rfl rfl (Zb (Ze ?_)))))))
      have cO := Zu ai
      subst aj
      exact ⟨a8, (Zv _), ((aF).f1).f1, aQ, aR, aS, aT, rfl, aU, aV, aW, aX, aY, aZ⟩
     refine W_cond_f ba af ?_
     replace af := Zk af
     refine W_skip (Ze ?_)
     have cP := Zu ai
     subst aj
     exact ⟨a8, (Zv _), ((aF).f1).f1, aQ, aR, aS, aT, cc, aU, aV, aW, aX, aY, aZ⟩
    intro cZ d5 b2
    obtain ⟨cB, bS, bD, ce, cf, cg, ch, ci, cj, ck, cl, cm, cn, co⟩ := b2
    refine (ib_normal (Ze (Zd (Za rfl rfl (Exec.add rfl co rfl (Za rfl rfl (Zm (v := Vi (IntKind.i64.wrap ((ay : Int) + 1))) rfl rfl (Zb (Ze ?_)))))))))
    have cQ := Zu ah
    subst cA
    exact ⟨cB, (Zt (Zt aI bR) bS), ((bD).f1).f1, ce, cf, cg, ch, ci, cj, ck, cl, cm, cn, (Eq.trans rfl (wrap_up bK (SliceRep.le a6)))⟩
   intro da d6 bz
   obtain ⟨cC, bT, bE, cp, cq, cr, ct, cu, cv, cw, cx, di, cy, cH⟩ := bz
   refine Zc (Zd (Za rfl rfl (Zq rfl cH cy (Zb (Ze (Zc (W_false (Zx (decide_eq_false (by omega))) (W_exit (at_exit (at_exit (ib_here (ib_normal (Ze (Zd (Za rfl rfl (Exec.add rfl cx rfl (Za rfl rfl (Zm (v := Vi (IntKind.i64.wrap ((ap : Int) + 1))) rfl rfl (Zb (Ze ?_))))))))))))))))))))
   have cR := Zu ab
   subst c9
   exact ⟨cC, (Zt (Zt (Zt ad bP) bQ) bT), ((bE).f1).f1, cp, cq, cr, ct, cu, cv, cw, (Eq.trans rfl (wrap_up bJ (SliceRep.le (aw.mono z))))⟩
  intro db d7 b0
  obtain ⟨cD, aJ, aG, cz, c0, bb, dj, a5, dk, c1, cI⟩ := b0
  refine Zc (Zd (Za rfl rfl (Zq rfl cI c1 (Zb (Ze (Zc (W_false (Zx (decide_eq_false (by omega))) (W_exit (at_exit (at_exit (ib_here (Ze (Zc (Zc (Zd (Za rfl rfl (Zm (v := Vi (n)) rfl a5 (Za rfl rfl (Zq rfl rfl rfl (Zb (Ze ?_)))))))))))))))))))))
  rcases ite_some m with ⟨ag, m⟩ | ⟨ag, m⟩
  ·refine W_cond_t rfl ag (Zc (Zd (Za rfl rfl (Zm (v := a) rfl bb (Za rfl rfl (Zo (v := a) rfl rfl (Zb (Ze (W_ret (at_ret (ib_ret (at_ret (ib_ret (at_ret ?_))))))))))))))
   have cS := Zu m
   subst aC
   have bM := bN _ (bO (by intro _ h; cases h))
   have cT := Zu bM
   subst r
   refine ⟨_, ret1 rfl, ?_⟩
   obtain ⟨cE, bU, bF, c8⟩ := (aG).f1.freezeArr
   exact ⟨cE, a, (Zt (Zt z aJ) bU), (bF).drop, rfl, c8⟩
  refine W_cond_f rfl ag ?_
  replace ag := Zk ag
  refine W_skip (Ze (Zc (Zd (Za rfl rfl (Zm (v := a) rfl bb (Za rfl rfl (Zm (v := Vi (n)) rfl a5 (Za rfl rfl (Exec.buildSlice (Te := 3) (cs := [Vi (n)]) aG rfl (parts_cons (c := [Vi (n)]) (cells_of rfl rfl) parts_nil) (fun _ => by kernel_rfl) ?_)))))))))
  intro cN d8 bG
  obtain ⟨de, c7, m⟩ := Zg m
  refine Za rfl rfl (Exec.append_box (E := (encInt .i64)) (ys := [n]) (bG).f2 S22 Z3 rfl (by decide) rfl rfl rfl rfl ⟨[Vi (n)], [], rfl, rfl, rfl⟩ rfl c7 ?_)
  intro bl d9 bH
  refine Za rfl rfl (Zo (v := bl) rfl rfl (Zb (Ze (Zd (Za rfl rfl (Zm (v := Vi (n)) rfl a5 (Za rfl rfl (Zo (v := Vi (n)) rfl rfl (Zb (ib_normal (Ze ?_)))))))))))
  have cU := Zu m
  subst aC
  refine ⟨_, rfl, ?_⟩; exact ⟨cD, bl, (Zt z aJ), (bH).f1, cz, c0, rfl, rfl⟩
 rintro dc dA ⟨cG, aH, b3⟩
 have hm := aH.elim (bL _) (bI _)
 clear aH
 obtain ⟨aL, aK⟩ := cG
 replace hm := un2_eq hm
 obtain ⟨dt, a9, df, dd, dl, dm, dn, dp⟩ := b3
 refine ?_
 cases hm
theorem S115 : tySlice Tryz.prog 115 = some (118, 2, 16) := by kernel_rfl
theorem Z118 : tyZero Tryz.prog 118 = some (Value.agg #[Vi (0), Value.bool false]) := by kernel_rfl
theorem ref55_At_sim {w0 w : World} {s : PHeap} {H : List Res} {u : Temporal} {ar : (List Launch)} {j : Int} {x : Value} {y : Value} {z : Value} {aa : Value} {n : Value} {r : (List ref55_Happening)} (hm : ref55_At_p u ar j = some r) (hS : St w0 s (H) w) (bu : SliceRep (encInt .i64) s x u.Vars) (bv : SliceRep (encInt .i64) s y u.Init) (bw : SliceRep encFact s z u.Goal) (a8 : SliceRep encJob s aa u.Jobs) (a9 : SliceRep encLaunch s n ar) :
  Calls Tryz.prog 55 #[Value.agg #[x, y, z, aa], n, Vi (j)] w fun e w' => ∃ v, e = .returned v ∧ ((fun (dc : (List ref55_Happening)) => ∃ (aG : PHeap) (br : Value), PHeap.le s aG ∧ St w0 aG (H) w' ∧ v = br ∧ SliceRep encref55_Happening aG br dc) r) := by
 unfold ref55_At_p at hm
 refine calls_of_W Tryz.func55 rfl rfl (Zc (Zd (Za rfl rfl (Exec.box (cs := [x, y, z, aa]) hS rfl rfl rfl ?_))))
 intro o dE bB
 refine Za rfl rfl (Zo (v := Value.slice none 0 0) rfl rfl (Zb (Ze (Zc (Zd (Za rfl rfl (Zo (v := Value.slice none 0 0) rfl rfl (Zb (Ze (Zc (Zc (Zd (Za rfl rfl (Exec.buildSlice (Te := 4) (cs := [Value.bool (true), Value.bool (false)]) bB rfl (parts_cons (c := [Value.bool (true)]) (cells_of rfl rfl) (parts_cons (c := [Value.bool (false)]) (cells_of rfl rfl) parts_nil)) (fun _ => by kernel_rfl) ?_))))))))))))))
 intro an dF bC
 have bD := St.boxArr (E := encBool) (xs := [true, false]) bC ⟨[Value.bool (true)], [Value.bool (false)], rfl, rfl, ⟨[Value.bool (false)], [], rfl, rfl, rfl⟩⟩ (by simp [maxLen])
 obtain ⟨bi, p, bE, aF⟩ := bD.freezeArr
 refine Za rfl rfl (Zr S91 rfl rfl aF (Za rfl rfl (Zm (v := Vi (0)) rfl rfl (Zb (Ze ?_)))))
 obtain ⟨aD, b0, hm⟩ := Zg hm
 refine W_block (W_forS (fun k' s' f' w' => (fun (aD : (List ref55_Happening)) => ∃ (bj : PHeap) (ad : Value), PHeap.le bi bj ∧ St w0 bj (Res.box o 26 [x, y, z, aa] :: Res.arr encref55_Happening 118 ad aD :: H) w' ∧ f' 1 = n ∧ f' 2 = Vi (j) ∧ f' 3 = Value.pointer (some ⟨o, 0, none⟩) ∧ f' 7 = ad ∧ f' 13 = Value.slice (some ⟨an, 0, none⟩) 2 2 ∧ f' 14 = Vi (([true, false].length : Int)) ∧ f' 15 = Vi (k' : Int)) s') b0 ?_ ?_ ?_)
 ·have bF := bE.nilArr encref55_Happening 118
  exact ⟨bi, (Value.slice none 0 0), (Zv _), (bF).f1, rfl, rfl, rfl, rfl, rfl, rfl, rfl⟩
 ·intro aq aD cS dt dG bR b3 ap
  obtain ⟨bk, ad, m, aA, ca, cb, aP, cc, aQ, aR, aJ⟩ := b3
  refine Zc (Zd (Za rfl rfl (Zq rfl aJ aR (Zb (Ze (Zc (W_true (Zx (decide_eq_true (by omega))) (W_skip (Ze (Zc (W_block (Zc (Zd ?_)))))))))))))
  obtain ⟨d, cL, ap⟩ := Zg ap
  refine Za rfl rfl (Exec.index_rep S91 rfl aQ aJ (aF.mono m) cL ?_)
  intro dd d2 bx
  refine Za rfl rfl (Zw (E := encBool) aA A4 rfl rfl rfl bx ?_)
  intro dC cM
  obtain rfl := encBool_val.1 cM
  refine Za rfl rfl (Zo (v := Value.bool (d)) rfl rfl (Zb (Ze (Zc (Zd (Za rfl rfl (Zp F26_3 rfl aP rfl (Za rfl rfl (Zn (aA) A24 rfl rfl rfl (Za rfl rfl (Zr S24 rfl rfl (a8.mono (Zt p m)) (Za rfl rfl (Zm (v := Vi (0)) rfl rfl (Zb (Ze ?_)))))))))))))))
  obtain ⟨aC, b1, ap⟩ := Zg ap
  refine W_block (W_forS (fun k' s' f' w' => (fun (aC : (List ref55_Happening)) => ∃ (bl : PHeap) (am : Value), PHeap.le bk bl ∧ St w0 bl (Res.box o 26 [x, y, z, aa] :: Res.arr encref55_Happening 118 am aC :: H) w' ∧ f' 1 = n ∧ f' 2 = Vi (j) ∧ f' 3 = Value.pointer (some ⟨o, 0, none⟩) ∧ f' 7 = am ∧ f' 9 = Value.bool (d) ∧ f' 13 = Value.slice (some ⟨an, 0, none⟩) 2 2 ∧ f' 14 = Vi (([true, false].length : Int)) ∧ f' 15 = Vi ((aq : Int)) ∧ f' 21 = Vi ((u.Jobs.length : Int)) ∧ f' 22 = Vi (k' : Int)) s') b1 ?_ ?_ ?_)
  ·have bG := (aA).f1
   exact ⟨bk, ad, (Zv _), (bG).f1, ca, cb, aP, cc, rfl, aQ, aR, aJ, rfl, rfl⟩
  ·intro l aC cT du dH bS b4 aB
   obtain ⟨bm, am, ac, bH, aS, cd, ce, cf, cg, ch, ci, cj, aT, aK⟩ := b4
   refine Zc (Zd (Za rfl rfl (Zq rfl aK aT (Zb (Ze (Zc (W_true (Zx (decide_eq_true (by omega))) (W_skip (Ze (Zc (W_block (Zc (Zd (Za rfl rfl (Zm (v := Vi ((l : Int))) rfl aK (Za rfl rfl (Zo (v := Vi ((l : Int))) rfl rfl (Zb (Ze (Zc (Zd (Za rfl rfl (Zm (v := n) rfl aS (Za rfl rfl (Zr S27 rfl rfl (a9.mono (Zt (Zt p m) ac)) (Za rfl rfl (Zm (v := Vi (0)) rfl rfl (Zb (Ze ?_)))))))))))))))))))))))))))))
   obtain ⟨az, b2, aB⟩ := Zg aB
   refine W_block (W_forS (fun k' s' f' w' => (fun (az : (List ref55_Happening)) => ∃ (bn : PHeap) (ab : Value), PHeap.le bm bn ∧ St w0 bn (Res.box o 26 [x, y, z, aa] :: Res.arr encref55_Happening 118 ab az :: H) w' ∧ f' 1 = n ∧ f' 2 = Vi (j) ∧ f' 3 = Value.pointer (some ⟨o, 0, none⟩) ∧ f' 7 = ab ∧ f' 9 = Value.bool (d) ∧ f' 10 = Vi ((l : Int)) ∧ f' 13 = Value.slice (some ⟨an, 0, none⟩) 2 2 ∧ f' 14 = Vi (([true, false].length : Int)) ∧ f' 15 = Vi ((aq : Int)) ∧ f' 21 = Vi ((u.Jobs.length : Int)) ∧ f' 22 = Vi ((l : Int)) ∧ f' 25 = n ∧ f' 26 = Vi ((ar.length : Int)) ∧ f' 27 = Vi (k' : Int)) s') b2 ?_ ?_ ?_)
   ·have bI := (bH).f1
    exact ⟨bm, am, (Zv _), (bI).f1, aS, cd, ce, cf, cg, rfl, ch, ci, cj, aT, aK, rfl, rfl, rfl⟩
   ·intro i az cU dv dI bT b5 af
    obtain ⟨aH, ab, ak, aL, a0, al, av, a1, ah, aw, a2, a3, a4, a5, a6, ax, ay, ai⟩ := b5
    refine Zc (Zd (Za rfl rfl (Zq rfl ai ay (Zb (Ze (Zc (W_true (Zx (decide_eq_true (by omega))) (W_skip (Ze (Zc (W_block (Zc (Zd (Za rfl rfl (Zm (v := Vi ((i : Int))) rfl ai ?_)))))))))))))))
    obtain ⟨q, cN, af⟩ := Zg af
    refine Za rfl rfl (Exec.index_rep S27 rfl ax ai (a9.mono (Zt (Zt (Zt p m) ac) ak)) cN ?_)
    intro de d3 bz
    refine Za rfl rfl (Zw (E := encLaunch) aL A64 rfl rfl rfl bz ?_)
    intro dD cO
    obtain rfl := encLaunch_val.1 cO
    refine Za rfl rfl (Exec.alloc (cs := [Vi (0), Vi (0)]) aL Z64 rfl rfl ?_)
    intro df dJ bJ
    refine Za rfl rfl (Zo (v := Vi ((i : Int))) rfl rfl (Za rfl rfl (Exec.store_box (ds := [Vi (q.At), Vi (q.Job)]) (es := [Vi (q.At), Vi (q.Job)]) bJ A64 rfl rfl rfl rfl (Zj rfl (Zj rfl one_nil)) (Nat.le_of_ble_eq_true rfl) rfl ?_)))
    intro dK ae
    refine Zb (Ze (Zc ?_))
    obtain ⟨aj, h, af⟩ := Zg af
    refine W_mid (M := fun f' w' => (fun (aj : Bool) => ∃ (bo : PHeap) , PHeap.le aH bo ∧ St w0 bo (Res.box o 26 [x, y, z, aa] :: Res.arr encref55_Happening 118 ab az :: H) w' ∧ f' 1 = n ∧ f' 2 = Vi (j) ∧ f' 3 = Value.pointer (some ⟨o, 0, none⟩) ∧ f' 7 = ab ∧ f' 9 = Value.bool (d) ∧ f' 10 = Vi ((l : Int)) ∧ f' 11 = Vi ((i : Int)) ∧ f' 13 = Value.slice (some ⟨an, 0, none⟩) 2 2 ∧ f' 14 = Vi (([true, false].length : Int)) ∧ f' 15 = Vi ((aq : Int)) ∧ f' 21 = Vi ((u.Jobs.length : Int)) ∧ f' 22 = Vi ((l : Int)) ∧ f' 25 = n ∧ f' 26 = Vi ((ar.length : Int)) ∧ f' 27 = Vi ((i : Int)) ∧ f' 55 = Value.bool (aj)) aj) ?_ ?_
    ·refine Zd (Za rfl rfl (Zp F64_1 rfl rfl rfl (Za rfl rfl (Zn (ae) A3 rfl rfl rfl (Za rfl rfl (Zm (v := Vi ((l : Int))) rfl aw (Za rfl rfl (Exec.eql rfl rfl rfl (Za rfl rfl (Zm (v := Value.bool (decide (q.Job = (l : Int)))) rfl rfl ?_))))))))))
     rcases ite_some h with ⟨g, h⟩ | ⟨g, h⟩
     ·refine WL_run rfl (Zf rfl (Zx g)) rfl (Zm (v := Value.bool (d)) rfl ah (WL_run rfl (Zf rfl (Zx g)) rfl (Zm (v := Value.bool (d)) rfl rfl ?_)))
      rcases ite_some h with ⟨a, h⟩ | ⟨a, h⟩
      ·refine WL_run rfl (Zf rfl (Zx a)) rfl (Exec.load_box_agg (ds := [x, y, z, aa]) ((ae).f1) A26 rfl av rfl (WL_run rfl (Zf rfl (Zx a)) rfl (Exec.load_box_agg (ds := [Vi (q.At), Vi (q.Job)]) (ae) A64 rfl rfl rfl ?_)))
       obtain ⟨bt, cP, h⟩ := Zg h
       refine WL_run rfl (Zf rfl (Zx a)) rfl (Tc rfl rfl rfl (Zi rfl (Zi rfl args_nil)) (ref55_End_sim cP ae (bu.mono (Zt (Zt (Zt p m) ac) ak)) (bv.mono (Zt (Zt (Zt p m) ac) ak)) (bw.mono (Zt (Zt (Zt p m) ac) ak)) (a8.mono (Zt (Zt (Zt p m) ac) ak))).r ?_)
       rintro _ dL ⟨bp, aO, aM, rfl⟩
       refine WL_run rfl (Zf rfl (Zx a)) rfl (Zm (v := Vi (j)) rfl al (WL_run rfl (Zf rfl (Zx a)) rfl (Exec.eql rfl rfl rfl (WL_run rfl (Zf rfl (Zx g)) rfl (Zs (v := Value.bool (decide (bt = j))) rfl (Zx a) rfl (WL_run rfl (Zf rfl (Zx g)) rfl (Zm (v := Value.bool (decide (bt = j))) rfl rfl ?_)))))))
       rcases ite_some h with ⟨t, h⟩ | ⟨t, h⟩
       ·refine WL_passes 8 (by rw [t]; rfl) ?_
        refine WL_run rfl (Zf rfl (Zx g)) rfl (Zs (v := Value.bool (true)) rfl rfl rfl (Za rfl rfl (Zs (v := Value.bool (true)) rfl (Zx g) rfl (Zb (Ze ?_)))))
        have dh := Zu h
        subst aj
        exact ⟨bp, aO, (((aM).drop).f1).f1, a0, al, av, a1, ah, aw, rfl, a2, a3, a4, a5, a6, ax, ay, ai, rfl⟩
       replace t := Zk t
       refine WL_run rfl (Zf rfl (Zx t)) rfl (Zm (v := Value.bool (d)) rfl ah (WL_run rfl (Zf rfl (Zx t)) rfl (Exec.not rfl rfl (WL_run rfl (Zf rfl (Zx t)) rfl (Zm (v := Value.bool (!d)) rfl rfl (Zl rfl (Zf rfl (Zx (congrArg (fun b => !b) a))) rfl rfl (Zl rfl (Zf rfl (Zx (congrArg (fun b => !b) a))) rfl rfl (Zl rfl (Zf rfl (Zx (congrArg (fun b => !b) a))) rfl rfl (Zl rfl (Zf rfl (Zx (congrArg (fun b => !b) a))) rfl rfl (WL_run rfl (Zf rfl (Zx t)) rfl (Exec.pick_f (v := Value.bool (false)) rfl (Zx (congrArg (fun b => !b) a)) rfl (WL_run rfl (Zf rfl (Zx g)) rfl (Exec.pick_f (v := Value.bool (false)) rfl (Zx t) rfl (Za rfl rfl (Zs (v := Value.bool (false)) rfl (Zx g) rfl (Zb (Ze ?_)))))))))))))))))
       have di := Zu h
       subst aj
       exact ⟨bp, aO, (((aM).drop).f1).f1, a0, al, av, a1, ah, aw, rfl, a2, a3, a4, a5, a6, ax, ay, ai, rfl⟩
      replace a := Zk a
      refine WL_passes 5 (by rw [a]; rfl) ?_
      refine WL_run rfl (Zf rfl (Zx g)) rfl (Exec.pick_f (v := Value.bool (false)) rfl rfl rfl (WL_run rfl (Zf rfl (Zx g)) rfl (Zm (v := Value.bool (false)) rfl rfl (WL_run rfl (Zf rfl rfl) rfl (Zm (v := Value.bool (d)) rfl ah (WL_run rfl (Zf rfl rfl) rfl (Exec.not rfl rfl (WL_run rfl (Zf rfl rfl) rfl (Zm (v := Value.bool (!d)) rfl rfl (WL_run rfl (Zf rfl (Zx (congrArg (fun b => !b) a))) rfl (Zp F64_0 rfl rfl rfl (WL_run rfl (Zf rfl (Zx (congrArg (fun b => !b) a))) rfl (Zn (ae) A3 rfl rfl rfl (WL_run rfl (Zf rfl (Zx (congrArg (fun b => !b) a))) rfl (Zm (v := Vi (j)) rfl al (WL_run rfl (Zf rfl (Zx (congrArg (fun b => !b) a))) rfl (Exec.eql rfl rfl rfl (WL_run rfl (Zf rfl rfl) rfl (Zs (v := Value.bool (decide (q.At = j))) rfl (Zx (congrArg (fun b => !b) a)) rfl (WL_run rfl (Zf rfl (Zx g)) rfl (Exec.pick_f (v := Value.bool (decide (q.At = j))) rfl rfl rfl (Za rfl rfl (Zs (v := Value.bool (decide (q.At = j))) rfl (Zx g) rfl (Zb (Ze ?_)))))))))))))))))))))))))
      have dj := Zu h
      subst aj
      exact ⟨aH, (Zv _), (((ae).drop).f1).f1, a0, al, av, a1, ah, aw, rfl, a2, a3, a4, a5, a6, ax, ay, ai, rfl⟩
     replace g := Zk g
     refine WL_passes 19 (by rw [g]; rfl) ?_
     refine Zb (Ze ?_)
     have dk := Zu h
     subst aj
     exact ⟨aH, (Zv _), (((ae).drop).f1).f1, a0, al, av, a1, ah, aw, rfl, a2, a3, a4, a5, a6, ax, ay, ai, rfl⟩
    intro dw dM b9
    obtain ⟨aI, bU, aN, aU, aV, aW, aX, aE, aY, ck, aZ, ba, bb, bc, bd, be, bf, bg, bh⟩ := b9
    refine (Ze ?_)
    obtain ⟨au, ag, af⟩ := Zg af
    refine W_mid (M := fun f' w' => (fun (au : (List ref55_Happening)) => ∃ (bq : PHeap) (a7 : Value), PHeap.le aI bq ∧ St w0 bq (Res.box o 26 [x, y, z, aa] :: Res.arr encref55_Happening 118 a7 au :: H) w' ∧ f' 1 = n ∧ f' 2 = Vi (j) ∧ f' 3 = Value.pointer (some ⟨o, 0, none⟩) ∧ f' 7 = a7 ∧ f' 9 = Value.bool (d) ∧ f' 10 = Vi ((l : Int)) ∧ f' 13 = Value.slice (some ⟨an, 0, none⟩) 2 2 ∧ f' 14 = Vi (([true, false].length : Int)) ∧ f' 15 = Vi ((aq : Int)) ∧ f' 21 = Vi ((u.Jobs.length : Int)) ∧ f' 22 = Vi ((l : Int)) ∧ f' 25 = n ∧ f' 26 = Vi ((ar.length : Int)) ∧ f' 27 = Vi ((i : Int))) au) ?_ ?_
    ·rcases ite_some ag with ⟨ao, ag⟩ | ⟨ao, ag⟩
     ·refine W_cond_t bh ao (Zd (Za rfl rfl (Zm (v := ab) rfl aX (Za rfl rfl (Zm (v := Vi ((i : Int))) rfl ck (Za rfl rfl (Zm (v := Value.bool (d)) rfl aE (Za rfl rfl (Exec.build rfl (parts_cons (c := [Vi ((i : Int))]) (cells_of rfl rfl) (parts_cons (c := [Value.bool (d)]) (cells_of rfl rfl) parts_nil)) (v := Value.agg #[Vi ((i : Int)), Value.bool (d)]) (fun _ => by kernel_rfl) (Za rfl rfl (Exec.buildSlice (Te := 118) (cs := [Vi ((i : Int)), Value.bool (d)]) aN rfl (parts_cons (c := [Vi ((i : Int)), Value.bool (d)]) (cells_of rfl rfl) parts_nil) (fun _ => by kernel_rfl) ?_)))))))))))
      intro dg dN bK
      obtain ⟨d1, cQ, ag⟩ := Zg ag
      refine Za rfl rfl (Exec.append_box (E := encref55_Happening) (ys := [(⟨(i : Int), d⟩ : ref55_Happening)]) (bK).f2 S115 Z118 rfl (by decide) rfl rfl rfl rfl ⟨[Vi ((i : Int)), Value.bool (d)], [], rfl, ⟨[Vi ((i : Int))], [Value.bool (d)], rfl, rfl, rfl⟩, rfl⟩ rfl cQ ?_)
      intro bs dO bL
      refine Za rfl rfl (Zo (v := bs) rfl rfl (Zb (Ze ?_)))
      have dl := Zu ag
      subst au
      exact ⟨aI, bs, (Zv _), (bL).f1, aU, aV, aW, rfl, aE, aY, aZ, ba, bb, bc, bd, be, bf, bg⟩
     refine W_cond_f bh ao ?_
     replace ao := Zk ao
     refine W_skip (Ze ?_)
     have dm := Zu ag
     subst au
     exact ⟨aI, ab, (Zv _), ((aN).f1).f1, aU, aV, aW, aX, aE, aY, aZ, ba, bb, bc, bd, be, bf, bg⟩
    intro dx dP bA
    obtain ⟨cV, a7, bV, bM, cl, cm, cn, co, cp, cq, cr, ct, cu, cv, cw, cx, cy, cz⟩ := bA
    refine (ib_normal (Ze (Zd (Za rfl rfl (Exec.add rfl cz rfl (Za rfl rfl (Zm (v := Vi (IntKind.i64.wrap ((i : Int) + 1))) rfl rfl (Zb (Ze ?_)))))))))
    have dn := Zu af
    subst cU
    exact ⟨cV, a7, (Zt (Zt ak bU) bV), ((bM).f1).f1, cl, cm, cn, co, cp, cq, cr, ct, cu, cv, cw, cx, cy, (Eq.trans rfl (wrap_up bT (SliceRep.le (a9.mono (Zt (Zt p m) ac)))))⟩
   intro dy dQ b6
   obtain ⟨cW, ab, bW, bN, c0, c1, c2, c3, c4, d4, c5, c6, c7, c8, c9, d5, cA, cZ⟩ := b6
   refine Zc (Zd (Za rfl rfl (Zq rfl cZ cA (Zb (Ze (Zc (W_false (Zx (decide_eq_false (by omega))) (W_exit (at_exit (at_exit (ib_here (ib_normal (Ze (Zd (Za rfl rfl (Exec.add rfl c9 rfl (Za rfl rfl (Zm (v := Vi (IntKind.i64.wrap ((l : Int) + 1))) rfl rfl (Zb (Ze ?_))))))))))))))))))))
   have dp := Zu aB
   subst cT
   exact ⟨cW, ab, (Zt ac bW), ((bN).f1).f1, c0, c1, c2, c3, c4, c5, c6, c7, c8, (Eq.trans rfl (wrap_up bS (SliceRep.le (a8.mono (Zt p m)))))⟩
  intro dz dR b7
  obtain ⟨cX, am, bX, bO, cB, cC, cD, cE, d6, cF, cG, cH, cI, da⟩ := b7
  refine Zc (Zd (Za rfl rfl (Zq rfl da cI (Zb (Ze (Zc (W_false (Zx (decide_eq_false (by omega))) (W_exit (at_exit (at_exit (ib_here (ib_normal (Ze (Zd (Za rfl rfl (Exec.add rfl cH rfl (Za rfl rfl (Zm (v := Vi (IntKind.i64.wrap ((aq : Int) + 1))) rfl rfl (Zb (Ze ?_))))))))))))))))))))
  have dq := Zu ap
  subst cS
  exact ⟨cX, am, (Zt m bX), ((bO).f1).f1, cB, cC, cD, cE, cF, cG, (Eq.trans rfl (wrap_up bR (SliceRep.le aF)))⟩
 intro d0 dS b8
 obtain ⟨dB, ad, bY, bP, d7, d8, d9, cJ, dA, cK, db⟩ := b8
 refine Zc (Zd (Za rfl rfl (Zq rfl db cK (Zb (Ze (Zc (W_false (Zx (decide_eq_false (by omega))) (W_exit (at_exit (at_exit (ib_here (Ze (Zc (Zd (Za rfl rfl (Zm (v := ad) rfl cJ (Za rfl rfl (Zo (v := ad) rfl rfl (Zb (Ze (W_ret ?_)))))))))))))))))))))
 have dr := Zu hm
 subst r
 refine ⟨_, ret1 rfl, ?_⟩
 obtain ⟨cY, bZ, bQ, cR⟩ := (bP).f1.freezeArr
 exact ⟨cY, ad, (Zt (Zt p bY) bZ), (bQ).drop, rfl, cR⟩
theorem A118 : tyAgg Tryz.prog 118 = some (true, 2) := by kernel_rfl
theorem F118_0 : tyField Tryz.prog 118 0 = some 0 := by kernel_rfl
theorem F118_1 : tyField Tryz.prog 118 1 = some 1 := by kernel_rfl
theorem ref55_Writes_sim {w0 w : World} {s : PHeap} {H : List Res} {a : Job} {g : Bool} {i : Value} {j : Value} {k : Value} {c : Value} {d : Value} {r : (List Fact)} (hm : ref55_Writes_p a g = some r) (hS : St w0 s (H) w) (p : SliceRep encFact s i a.Start) (q : SliceRep encFact s j a.Over) (t : SliceRep encFact s k a.End) (m : SliceRep encFact s c a.AtStart) (n : SliceRep encFact s d a.AtEnd) :
  Calls Tryz.prog 56 #[Value.agg #[Value.string (a.Name), Vi (a.Duration), i, j, k, c, d], Value.bool (g)] w fun e w' => ∃ v, e = .returned v ∧ ((fun (o : (List Fact)) => ∃ (h : PHeap) (l : Value), PHeap.le s h ∧ St w0 h (H) w' ∧ v = l ∧ SliceRep encFact h l o) r) := by
 unfold ref55_Writes_p at hm
 refine calls_of_W Tryz.func56 rfl rfl (Zc (Zd (Za rfl rfl (Exec.box (cs := [Value.string (a.Name), Vi (a.Duration), i, j, k, c, d]) hS rfl rfl rfl ?_))))
 intro u z f
 refine Za rfl rfl (Zo (v := Value.slice none 0 0) rfl rfl (Zb (Ze (Zc (Zc (Zd (Za rfl rfl (Zm (v := Value.bool (g)) rfl rfl (Zb (Ze ?_))))))))))
 rcases ite_some hm with ⟨b, hm⟩ | ⟨b, hm⟩
 ·refine W_cond_t rfl b (Zc (Zd (Za rfl rfl (Zp F59_6 rfl rfl rfl (Za rfl rfl (Zn (f) A23 rfl rfl rfl (Za rfl rfl (Zo (v := d) rfl rfl (Zb (Ze (W_ret (at_ret ?_))))))))))))
  have x := Zu hm
  subst r
  refine ⟨_, ret1 rfl, ?_⟩
  exact ⟨s, d, (Zv _), (f).drop, rfl, n⟩
 refine W_cond_f rfl b ?_
 replace b := Zk b
 refine W_skip (Ze (Zc (Zd (Za rfl rfl (Zp F59_5 rfl rfl rfl (Za rfl rfl (Zn (f) A23 rfl rfl rfl (Za rfl rfl (Zo (v := c) rfl rfl (Zb (Ze (W_ret ?_))))))))))))
 have y := Zu hm
 subst r
 refine ⟨_, ret1 rfl, ?_⟩
 exact ⟨s, c, (Zv _), (f).drop, rfl, m⟩
theorem ref55_After_sim {w0 w : World} {s : PHeap} {H : List Res} {n : Temporal} {aq : (List Launch)} {af : Int} {ae : (List Int)} {g : Value} {h : Value} {i : Value} {j : Value} {l : Value} {ag : Value} {r : (List Int)} (hm : ref55_After_p n aq af ae = some r) (hS : St w0 s (H) w) (a9 : SliceRep (encInt .i64) s g n.Vars) (aA : SliceRep (encInt .i64) s h n.Init) (aB : SliceRep encFact s i n.Goal) (aj : SliceRep encJob s j n.Jobs) (ak : SliceRep encLaunch s l aq) (aC : SliceRep (encInt .i64) s ag ae) :
  Calls Tryz.prog 29 #[Value.agg #[g, h, i, j], l, Vi (af), ag] w fun e w' => ∃ v, e = .returned v ∧ ((fun (bP : (List Int)) => ∃ (ad : PHeap) (a5 : Value), PHeap.le s ad ∧ St w0 ad (H) w' ∧ v = a5 ∧ SliceRep (encInt .i64) ad a5 bP) r) := by
 unfold ref55_After_p at hm
 refine calls_of_W Tryz.func29 rfl rfl (Zc (Zd (Za rfl rfl (Exec.box (cs := [g, h, i, j]) hS rfl rfl rfl ?_))))
 intro o c3 aN
 refine Za rfl rfl (Zo (v := Value.slice none 0 0) rfl rfl (Zb (Ze (Zc (Zd (Za rfl rfl (Exec.buildSlice (Te := 3) (cs := []) aN rfl parts_nil (fun _ => by kernel_rfl) ?_)))))))
 intro bQ c4 aO
 refine Za rfl rfl (Zm (v := ag) rfl rfl ?_)
 have aP := St.boxArr (E := (encInt .i64)) (xs := []) aO rfl (by simp [maxLen])
 obtain ⟨ci, bx, hm⟩ := Zg hm
 refine Za rfl rfl (Exec.append_rep (E := (encInt .i64)) (ys := ae) aP S22 Z3 rfl (by decide) rfl rfl rfl aC bx ?_)
 intro b c5 am
 refine Za rfl rfl (Zo (v := b) rfl rfl (Zb (Ze (Zc (Zc (Zd (Za rfl rfl (Exec.load_box_agg (ds := [g, h, i, j]) ((am).f1) A26 rfl rfl rfl (Za rfl rfl (Zm (v := l) rfl rfl (Za rfl rfl (Zm (v := Vi (af)) rfl rfl ?_))))))))))))
 obtain ⟨a8, bz, hm⟩ := Zg hm
 refine Za rfl rfl (Tc rfl rfl rfl (Zi rfl (Zi rfl (Zi rfl args_nil))) (ref55_At_sim bz am a9 aA aB aj ak).r ?_)
 rintro a6 c6 ⟨a1, _, x, aQ, rfl, ab⟩
 refine Za rfl rfl (Zr S115 rfl rfl ab (Za rfl rfl (Zm (v := Vi (0)) rfl rfl (Zb (Ze ?_)))))
 obtain ⟨y, aH, hm⟩ := Zg hm
 refine W_block (W_forS (fun k' s' f' w' => (fun (y : (List Int)) => ∃ (a2 : PHeap) , PHeap.le a1 a2 ∧ St w0 a2 (Res.box o 26 [g, h, i, j] :: Res.arr (encInt .i64) 3 b y :: H) w' ∧ f' 1 = l ∧ f' 4 = Value.pointer (some ⟨o, 0, none⟩) ∧ f' 9 = b ∧ f' 20 = a6 ∧ f' 21 = Vi ((a8.length : Int)) ∧ f' 22 = Vi (k' : Int)) s') aH ?_ ?_ ?_)
 ·have aR := (aQ).f1
  exact ⟨a1, (Zv _), aR, rfl, rfl, rfl, rfl, rfl, rfl⟩
 ·intro ap y bF cd c7 bb aJ a
  obtain ⟨ct, t, an, au, av, bi, aw, ax, ah⟩ := aJ
  refine Zc (Zd (Za rfl rfl (Zq rfl ah ax (Zb (Ze (Zc (W_true (Zx (decide_eq_true (by omega))) (W_skip (Ze (Zc (W_block (Zc (Zd ?_)))))))))))))
  obtain ⟨m, b0, a⟩ := Zg a
  refine Za rfl rfl (Exec.index_rep S115 rfl aw ah (ab.mono t) b0 ?_)
  intro bR ck aD
  refine Za rfl rfl (Zw (E := encref55_Happening) an A118 rfl rfl rfl aD ?_)
  intro c0 b1
  obtain rfl := encref55_Happening_val.1 b1
  refine Za rfl rfl (Exec.alloc (cs := [Vi (0), Value.bool (false)]) an Z118 rfl rfl ?_)
  intro bS c8 aS
  refine Za rfl rfl (Exec.store_box (ds := [Vi (m.Launch), Value.bool (m.End)]) (es := [Vi (m.Launch), Value.bool (m.End)]) aS A118 rfl rfl rfl rfl (Zj rfl (Zj rfl one_nil)) (Nat.le_of_ble_eq_true rfl) rfl ?_)
  intro c9 aT
  refine Zb (Ze (Zc (W_dl (n0 := 15) (qs 0 12 (.q 14 (.e 12 [14] (.q 13 .done)))) hmix (by kernel_rfl) (by kernel_rfl) ?_)))
  have d := aT.drew
  refine DL_q rfl rfl (Zp F26_3 rfl av rfl ⟨rfl, ?_⟩)
  refine DL_q rfl rfl (Zn ((d).f1) A24 rfl rfl rfl ⟨rfl, ?_⟩)
  refine DL_q rfl rfl (Zm (v := l) rfl au ⟨rfl, ?_⟩)
  refine DL_q rfl rfl (Zp F118_0 rfl rfl rfl ⟨rfl, ?_⟩)
  refine DL_q rfl rfl (Zn (d) A3 rfl rfl rfl ⟨rfl, ?_⟩)
  obtain ⟨bM, b2, a⟩ := Zg a
  refine DL_q rfl rfl (Exec.index_repE S27 rfl rfl rfl (ak.mono (Zt x t)) b2 ?_)
  intro bT cl aE bY
  refine ⟨rfl, ?_⟩
  refine DL_q rfl rfl (Zp F64_1 rfl rfl rfl ⟨rfl, ?_⟩)
  refine DL_q rfl rfl (Zw (E := (encInt .i64)) d A3 rfl rfl rfl (aE.sub (Sub.iso (Sub.snd (Sub.refl _) rfl)) rfl) ?_)
  intro bK b3
  obtain rfl : bK = Vi (bM.Job) := encInt_val.1 b3
  refine ⟨rfl, ?_⟩
  obtain ⟨a7, b4, a⟩ := Zg a
  refine DL_q rfl rfl (Exec.index_repE S24 rfl rfl rfl (aj.mono (Zt x t)) b4 ?_)
  intro bU cm aF bZ
  refine ⟨rfl, ?_⟩
  refine DL_q rfl rfl (Zw (E := encJob) d A59 rfl rfl rfl aF ?_)
  intro c1 b5
  obtain ⟨cv, cw, cx, cy, cz, rfl, b9, bA, bB, bC, bD⟩ := encJob_val.1 b5
  refine ⟨rfl, ?_⟩
  refine DL_q rfl rfl (Zp F118_1 rfl rfl rfl ⟨rfl, ?_⟩)
  refine DL_q rfl rfl (Zn (d) A4 rfl rfl rfl ⟨rfl, ?_⟩)
  refine DL_q rfl rfl (Zm (v := Vi (0)) rfl rfl ⟨rfl, ?_⟩)
  refine DL_e rfl rfl (Tc rfl rfl rfl (Zi rfl (Zi rfl args_nil)) (ref55_Writes_sim (ref55_Writes_tot a7 m.End) d b9 bA bB bC bD).r ?_)
  rintro bL cA ⟨a3, _, be, aU, rfl, ac⟩
  refine ⟨(ag_cons (ag_r rfl rfl (Zm (v := Vi (0)) rfl rfl ⟨rfl, rfl⟩)) ag_nil), ?_⟩
  refine DL_q rfl rfl (Zr S23 rfl rfl ac ⟨rfl, ?_⟩)
  refine DL_done (Zb (Ze ?_))
  obtain ⟨z, aI, a⟩ := Zg a
  refine W_block (W_forS (fun k' s' f' w' => (fun (z : (List Int)) => ∃ (a4 : PHeap) , PHeap.le a3 a4 ∧ St w0 a4 (Res.box o 26 [g, h, i, j] :: Res.arr (encInt .i64) 3 b z :: H) w' ∧ f' 1 = l ∧ f' 4 = Value.pointer (some ⟨o, 0, none⟩) ∧ f' 9 = b ∧ f' 20 = a6 ∧ f' 21 = Vi ((a8.length : Int)) ∧ f' 22 = Vi ((ap : Int)) ∧ f' 38 = bL ∧ f' 39 = Vi (((ref55_Writes_t a7 m.End).length : Int)) ∧ f' 40 = Vi (k' : Int)) s') aI ?_ ?_ ?_)
  ·have aV := (aU).drop
   exact ⟨a3, (Zv _), ((aV).f1).f1, au, av, bi, aw, ax, ah, rfl, rfl, rfl⟩
  ·intro bd z bG ce cB bc aK c
   obtain ⟨bH, ar, ao, bj, bk, ay, bl, bm, bn, az, a0, ai⟩ := aK
   refine Zc (Zd (Za rfl rfl (Zq rfl ai a0 (Zb (Ze (Zc (W_true (Zx (decide_eq_true (by omega))) (W_skip (Ze (Zc (W_block (Zc (Zd ?_)))))))))))))
   obtain ⟨u, b6, c⟩ := Zg c
   refine Za rfl rfl (Exec.index_rep S23 rfl az ai (ac.mono ar) b6 ?_)
   intro bV cn aG
   refine Za rfl rfl (Zw (E := encFact) ao A75 rfl rfl rfl aG ?_)
   intro c2 b7
   obtain rfl := encFact_val.1 b7
   refine Za rfl rfl (Exec.alloc (cs := [Vi (0), Vi (0)]) ao Z75 rfl rfl ?_)
   intro bW cC aW
   refine Za rfl rfl (Exec.store_box (ds := [Vi (u.Var), Vi (u.Val)]) (es := [Vi (u.Var), Vi (u.Val)]) aW A75 rfl rfl rfl rfl (Zj rfl (Zj rfl one_nil)) (Nat.le_of_ble_eq_true rfl) rfl ?_)
   intro cD p
   refine Zb (Ze (Zd (Za rfl rfl (Zm (v := b) rfl ay (Za rfl rfl (Zp F75_0 rfl rfl rfl (Za rfl rfl (Zn (p) A3 rfl rfl rfl (Za rfl rfl (Zp F75_1 rfl rfl rfl (Za rfl rfl (Zn (p) A3 rfl rfl rfl ?_))))))))))))
   obtain ⟨cH, aa, c⟩ := Zg c
   obtain ⟨ch, bX, al⟩ := ((p).f2).arr_at aa
   refine Za rfl rfl (Exec.index_slice S22 rfl al rfl (idx_some aa).1 (idx_some aa).2.1 ?_)
   obtain ⟨cj, b8, c⟩ := Zg c
   refine Za rfl rfl (Exec.store_arr (p).f2 al A3 rfl rfl rfl rfl (encInt_val.2 rfl) b8 ?_)
   intro cE aX
   refine Zb (ib_normal (Ze (Zd (Za rfl rfl (Exec.add rfl ai rfl (Za rfl rfl (Zm (v := Vi (IntKind.i64.wrap ((bd : Int) + 1))) rfl rfl (Zb (Ze ?_)))))))))
   have ca := Zu c
   subst bG
   exact ⟨bH, ar, (((aX).f1).drop).f1, bj, bk, ay, bl, bm, bn, az, a0, (Eq.trans rfl (wrap_up bc (SliceRep.le ac)))⟩
  intro cf cF aL
  obtain ⟨bI, bf, aY, bo, bp, bq, br, bs, bt, co, bu, bN⟩ := aL
  refine Zc (Zd (Za rfl rfl (Zq rfl bN bu (Zb (Ze (Zc (W_false (Zx (decide_eq_false (by omega))) (W_exit (at_exit (at_exit (ib_here (ib_normal (Ze (Zd (Za rfl rfl (Exec.add rfl bt rfl (Za rfl rfl (Zm (v := Vi (IntKind.i64.wrap ((ap : Int) + 1))) rfl rfl (Zb (Ze ?_))))))))))))))))))))
  have cb := Zu a
  subst bF
  exact ⟨bI, (Zt (Zt t be) bf), ((aY).f1).f1, bo, bp, bq, br, bs, (Eq.trans rfl (wrap_up bb (SliceRep.le ab)))⟩
 intro cg cG aM
 obtain ⟨cu, bg, aZ, cp, cq, bv, cr, bw, bO⟩ := aM
 refine Zc (Zd (Za rfl rfl (Zq rfl bO bw (Zb (Ze (Zc (W_false (Zx (decide_eq_false (by omega))) (W_exit (at_exit (at_exit (ib_here (Ze (Zc (Zd (Za rfl rfl (Zm (v := b) rfl bv (Za rfl rfl (Zo (v := b) rfl rfl (Zb (Ze (W_ret ?_)))))))))))))))))))))
 have cc := Zu hm
 subst r
 refine ⟨_, ret1 rfl, ?_⟩
 obtain ⟨bJ, bh, ba, bE⟩ := (aZ).f1.freezeArr
 exact ⟨bJ, b, (Zt (Zt x bg) bh), (ba).drop, rfl, bE⟩
theorem F44_0 : tyField Tryz.prog 44 0 = some 0 := by kernel_rfl
theorem A41 : tyAgg Tryz.prog 41 = some (false, 1) := by kernel_rfl
theorem S41 : tySlice Tryz.prog 41 = some (50, 3, 24) := by kernel_rfl
theorem Z50 : tyZero Tryz.prog 50 = some (Value.agg #[Vi (0), Vi (0), Value.bool false]) := by kernel_rfl
theorem ref58_events_sim {w0 w : World} {s : PHeap} {H : List Res} {ae : Temporal} {o : (List Launch)} {a : Int} {q : Value} {t : Value} {u : Value} {x : Value} {g : Value} {r : (List ref58_Event)} (hm : ref58_events_p ae o a = some r) (hS : St w0 s (H) w) (aH : SliceRep (encInt .i64) s q ae.Vars) (aI : SliceRep (encInt .i64) s t ae.Init) (aJ : SliceRep encFact s u ae.Goal) (aK : SliceRep encJob s x ae.Jobs) (n : SliceRep encLaunch s g o) :
  Calls Tryz.prog 30 #[Value.agg #[q, t, u, x], g, Vi (a)] w fun e w' => ∃ v, e = .returned v ∧ ((fun (bO : (List ref58_Event)) => ∃ (az : PHeap) (aE : Value), PHeap.le s az ∧ St w0 az (H) w' ∧ v = aE ∧ SliceRep encref58_Event az aE bO) r) := by
 unfold ref58_events_p at hm
 refine calls_of_W Tryz.func30 rfl rfl (Zc (Zd (Za rfl rfl (Exec.box (cs := [q, t, u, x]) hS rfl rfl rfl ?_))))
 intro ah cv aV
 refine Za rfl rfl (Zo (v := Value.slice none 0 0) rfl rfl (Zb (Ze (Zc (Zd (Za rfl rfl (Zo (v := Value.slice none 0 0) rfl rfl (Zb (Ze (Zc (Zc (Zd (Za rfl rfl (Zm (v := g) rfl rfl (Za rfl rfl (Zr S27 rfl rfl n (Za rfl rfl (Zm (v := Vi (0)) rfl rfl (Zb (Ze ?_))))))))))))))))))))
 obtain ⟨ar, aN, hm⟩ := Zg hm
 refine W_block (W_forS (fun k' s' f' w' => (fun (ar : (List ref58_Event)) => ∃ (a9 : PHeap) (m : Value), PHeap.le s a9 ∧ St w0 a9 (Res.box ah 26 [q, t, u, x] :: Res.arr encref58_Event 50 m ar :: H) w' ∧ f' 1 = g ∧ f' 2 = Vi (a) ∧ f' 3 = Value.pointer (some ⟨ah, 0, none⟩) ∧ f' 7 = m ∧ f' 12 = g ∧ f' 13 = Vi ((o.length : Int)) ∧ f' 14 = Vi (k' : Int)) s') aN ?_ ?_ ?_)
 ·have aW := aV.nilArr encref58_Event 50
  exact ⟨s, (Value.slice none 0 0), (Zv _), (aW).f1, rfl, rfl, rfl, rfl, rfl, rfl, rfl⟩
 ·intro b ar bH cc cw bj aP i
  obtain ⟨cq, m, p, a2, a6, aj, au, a7, av, aw, af⟩ := aP
  refine Zc (Zd (Za rfl rfl (Zq rfl af aw (Zb (Ze (Zc (W_true (Zx (decide_eq_true (by omega))) (W_skip (Ze (Zc (W_block (Zc (Zd (Za rfl rfl (Zm (v := Vi ((b : Int))) rfl af ?_)))))))))))))))
  obtain ⟨y, b9, i⟩ := Zg i
  refine Za rfl rfl (Exec.index_rep S27 rfl av af (n.mono p) b9 ?_)
  intro bP ck aL
  refine Za rfl rfl (Zw (E := encLaunch) a2 A64 rfl rfl rfl aL ?_)
  intro ct bA
  obtain rfl := encLaunch_val.1 bA
  refine Za rfl rfl (Exec.alloc (cs := [Vi (0), Vi (0)]) a2 Z64 rfl rfl ?_)
  intro bQ cx aX
  refine Za rfl rfl (Zo (v := Vi ((b : Int))) rfl rfl (Za rfl rfl (Exec.store_box (ds := [Vi (y.At), Vi (y.Job)]) (es := [Vi (y.At), Vi (y.Job)]) aX A64 rfl rfl rfl rfl (Zj rfl (Zj rfl one_nil)) (Nat.le_of_ble_eq_true rfl) rfl ?_)))
  intro cy ao
  refine Zb (Ze (Zc (Zd (Za rfl rfl (Exec.load_box_agg (ds := [q, t, u, x]) ((ao).f1) A26 rfl au rfl (Za rfl rfl (Exec.load_box_agg (ds := [Vi (y.At), Vi (y.Job)]) (ao) A64 rfl rfl rfl ?_)))))))
  obtain ⟨cB, bB, i⟩ := Zg i
  refine Za rfl rfl (Tc rfl rfl rfl (Zi rfl (Zi rfl args_nil)) (ref55_End_sim bB ao (aH.mono p) (aI.mono p) (aJ.mono p) (aK.mono p)).r ?_)
  rintro _ cz ⟨a0, bl, a3, rfl⟩
  refine Za rfl rfl (Zm (v := Vi (a)) rfl aj (Za rfl rfl (Exec.eql rfl rfl rfl (Zb (Ze ?_)))))
  obtain ⟨ac, j, i⟩ := Zg i
  refine W_mid (M := fun f' w' => (fun (ac : (List ref58_Event)) => ∃ (aA : PHeap) (al : Value), PHeap.le a0 aA ∧ St w0 aA (Res.box ah 26 [q, t, u, x] :: Res.arr encref58_Event 50 al ac :: H) w' ∧ f' 1 = g ∧ f' 2 = Vi (a) ∧ f' 3 = Value.pointer (some ⟨ah, 0, none⟩) ∧ f' 7 = al ∧ f' 12 = g ∧ f' 13 = Vi ((o.length : Int)) ∧ f' 14 = Vi ((b : Int))) ac) ?_ ?_
  ·rcases ite_some j with ⟨z, j⟩ | ⟨z, j⟩
   ·refine W_cond_t rfl z (Zd (Za rfl rfl (Zm (v := m) rfl a7 (Za rfl rfl (Zm (v := Vi (a)) rfl aj (Za rfl rfl (Zm (v := Vi ((b : Int))) rfl rfl (Za rfl rfl (Exec.build rfl (parts_cons (c := [Vi (a)]) (cells_of rfl rfl) (parts_cons (c := [Vi ((b : Int))]) (cells_of rfl rfl) (parts_cons (c := [Value.bool (true)]) (cells_of rfl rfl) parts_nil))) (v := Value.agg #[Vi (a), Vi ((b : Int)), Value.bool (true)]) (fun _ => by kernel_rfl) (Za rfl rfl (Exec.buildSlice (Te := 50) (cs := [Vi (a), Vi ((b : Int)), Value.bool (true)]) a3 rfl (parts_cons (c := [Vi (a), Vi ((b : Int)), Value.bool (true)]) (cells_of rfl rfl) parts_nil) (fun _ => by kernel_rfl) ?_)))))))))))
    intro bR c0 aY
    obtain ⟨ci, bC, j⟩ := Zg j
    refine Za rfl rfl (Exec.append_box (E := encref58_Event) (ys := [(⟨a, (b : Int), true⟩ : ref58_Event)]) (aY).f3 S41 Z50 rfl (by decide) rfl rfl rfl rfl ⟨[Vi (a), Vi ((b : Int)), Value.bool (true)], [], rfl, ⟨[Vi (a)], [Vi ((b : Int)), Value.bool (true)], rfl, rfl, ⟨[Vi ((b : Int))], [Value.bool (true)], rfl, rfl, rfl⟩⟩, rfl⟩ rfl bC ?_)
    intro aF c1 aZ
    refine Za rfl rfl (Zo (v := aF) rfl rfl (Zb (Ze ?_)))
    have bV := Zu j
    subst ac
    exact ⟨a0, aF, (Zv _), (((aZ).f1).drop).f1, a6, aj, au, rfl, av, aw, af⟩
   refine W_cond_f rfl z ?_
   replace z := Zk z
   refine W_skip (Ze ?_)
   have bW := Zu j
   subst ac
   exact ⟨a0, m, (Zv _), (((a3).drop).f1).f1, a6, aj, au, a7, av, aw, af⟩
  intro cd c2 aT
  obtain ⟨bI, al, bm, ba, bq, br, bs, bt, bu, bv, bw⟩ := aT
  refine (ib_normal (Ze (Zd (Za rfl rfl (Exec.add rfl bw rfl (Za rfl rfl (Zm (v := Vi (IntKind.i64.wrap ((b : Int) + 1))) rfl rfl (Zb (Ze ?_)))))))))
  have bX := Zu i
  subst bH
  exact ⟨bI, al, (Zt (Zt p bl) bm), ((ba).f1).f1, bq, br, bs, bt, bu, bv, (Eq.trans rfl (wrap_up bj (SliceRep.le n)))⟩
 intro ce c3 aQ
 obtain ⟨aB, m, ai, bb, bx, bz, cm, b0, cn, b1, bM⟩ := aQ
 refine Zc (Zd (Za rfl rfl (Zq rfl bM b1 (Zb (Ze (Zc (W_false (Zx (decide_eq_false (by omega))) (W_exit (at_exit (at_exit (ib_here (Ze (Zc (Zc (Zd (Za rfl rfl (Zm (v := g) rfl bx (Za rfl rfl (Zr S27 rfl rfl (n.mono ai) (Za rfl rfl (Zm (v := Vi (0)) rfl rfl (Zb (Ze ?_)))))))))))))))))))))))
 obtain ⟨aq, aO, hm⟩ := Zg hm
 refine W_block (W_forS (fun k' s' f' w' => (fun (aq : (List ref58_Event)) => ∃ (aC : PHeap) (h : Value), PHeap.le aB aC ∧ St w0 aC (Res.arr encref58_Event 50 h aq :: H) w' ∧ f' 2 = Vi (a) ∧ f' 7 = h ∧ f' 31 = g ∧ f' 32 = Vi ((o.length : Int)) ∧ f' 33 = Vi (k' : Int)) s') aO ?_ ?_ ?_)
 ·have bc := (bb).drop
  exact ⟨aB, m, (Zv _), bc, bz, b0, rfl, rfl, rfl⟩
 ·intro d aq bJ cf c4 bk aR ab
  obtain ⟨a1, h, a5, a4, ak, a8, ax, ay, ag⟩ := aR
  refine Zc (Zd (Za rfl rfl (Zq rfl ag ay (Zb (Ze (Zc (W_true (Zx (decide_eq_true (by omega))) (W_skip (Ze (Zc (W_block (Zc (Zd (Za rfl rfl (Zm (v := Vi ((d : Int))) rfl ag ?_)))))))))))))))
  obtain ⟨an, bD, ab⟩ := Zg ab
  refine Za rfl rfl (Exec.index_rep S27 rfl ax ag (n.mono (Zt ai a5)) bD ?_)
  intro bS cl aM
  refine Za rfl rfl (Zw (E := encLaunch) a4 A64 rfl rfl rfl aM ?_)
  intro cu bE
  obtain rfl := encLaunch_val.1 bE
  refine Za rfl rfl (Exec.alloc (cs := [Vi (0), Vi (0)]) a4 Z64 rfl rfl ?_)
  intro bT c5 bd
  refine Za rfl rfl (Zo (v := Vi ((d : Int))) rfl rfl (Za rfl rfl (Exec.store_box (ds := [Vi (an.At), Vi (an.Job)]) (es := [Vi (an.At), Vi (an.Job)]) bd A64 rfl rfl rfl rfl (Zj rfl (Zj rfl one_nil)) (Nat.le_of_ble_eq_true rfl) rfl ?_)))
  intro c6 ap
  refine Zb (Ze (Zc (Zd (Za rfl rfl (Zp F64_0 rfl rfl rfl (Za rfl rfl (Zn (ap) A3 rfl rfl rfl (Za rfl rfl (Zm (v := Vi (a)) rfl ak (Za rfl rfl (Exec.eql rfl rfl rfl (Zb (Ze ?_)))))))))))))
  obtain ⟨ad, l, ab⟩ := Zg ab
  refine W_mid (M := fun f' w' => (fun (ad : (List ref58_Event)) => ∃ (aD : PHeap) (am : Value), PHeap.le a1 aD ∧ St w0 aD (Res.arr encref58_Event 50 am ad :: H) w' ∧ f' 2 = Vi (a) ∧ f' 7 = am ∧ f' 31 = g ∧ f' 32 = Vi ((o.length : Int)) ∧ f' 33 = Vi ((d : Int))) ad) ?_ ?_
  ·rcases ite_some l with ⟨aa, l⟩ | ⟨aa, l⟩
   ·refine W_cond_t rfl aa (Zd (Za rfl rfl (Zm (v := h) rfl a8 (Za rfl rfl (Zm (v := Vi (a)) rfl ak (Za rfl rfl (Zm (v := Vi ((d : Int))) rfl rfl (Za rfl rfl (Exec.build rfl (parts_cons (c := [Vi (a)]) (cells_of rfl rfl) (parts_cons (c := [Vi ((d : Int))]) (cells_of rfl rfl) (parts_cons (c := [Value.bool (false)]) (cells_of rfl rfl) parts_nil))) (v := Value.agg #[Vi (a), Vi ((d : Int)), Value.bool (false)]) (fun _ => by kernel_rfl) (Za rfl rfl (Exec.buildSlice (Te := 50) (cs := [Vi (a), Vi ((d : Int)), Value.bool (false)]) ap rfl (parts_cons (c := [Vi (a), Vi ((d : Int)), Value.bool (false)]) (cells_of rfl rfl) parts_nil) (fun _ => by kernel_rfl) ?_)))))))))))
    intro bU c7 be
    obtain ⟨cj, bF, l⟩ := Zg l
    refine Za rfl rfl (Exec.append_box (E := encref58_Event) (ys := [(⟨a, (d : Int), false⟩ : ref58_Event)]) (be).f2 S41 Z50 rfl (by decide) rfl rfl rfl rfl ⟨[Vi (a), Vi ((d : Int)), Value.bool (false)], [], rfl, ⟨[Vi (a)], [Vi ((d : Int)), Value.bool (false)], rfl, rfl, ⟨[Vi ((d : Int))], [Value.bool (false)], rfl, rfl, rfl⟩⟩, rfl⟩ rfl bF ?_)
    intro aG c8 bf
    refine Za rfl rfl (Zo (v := aG) rfl rfl (Zb (Ze ?_)))
    have bY := Zu l
    subst ad
    exact ⟨a1, aG, (Zv _), ((bf).f1).drop, ak, rfl, ax, ay, ag⟩
   refine W_cond_f rfl aa ?_
   replace aa := Zk aa
   refine W_skip (Ze ?_)
   have bZ := Zu l
   subst ad
   exact ⟨a1, h, (Zv _), (ap).drop, ak, a8, ax, ay, ag⟩
  intro cg c9 aU
  obtain ⟨bK, am, bn, bg, b2, b3, b4, b5, b6⟩ := aU
  refine (ib_normal (Ze (Zd (Za rfl rfl (Exec.add rfl b6 rfl (Za rfl rfl (Zm (v := Vi (IntKind.i64.wrap ((d : Int) + 1))) rfl rfl (Zb (Ze ?_)))))))))
  have ca := Zu ab
  subst bJ
  exact ⟨bK, am, (Zt a5 bn), bg, b2, b3, b4, b5, (Eq.trans rfl (wrap_up bk (SliceRep.le (n.mono ai))))⟩
 intro ch cA aS
 obtain ⟨cr, h, bo, bh, co, b7, cp, b8, bN⟩ := aS
 refine Zc (Zd (Za rfl rfl (Zq rfl bN b8 (Zb (Ze (Zc (W_false (Zx (decide_eq_false (by omega))) (W_exit (at_exit (at_exit (ib_here (Ze (Zc (Zd (Za rfl rfl (Zm (v := h) rfl b7 (Za rfl rfl (Zo (v := h) rfl rfl (Zb (Ze (W_ret ?_)))))))))))))))))))))
 have cb := Zu hm
 subst r
 refine ⟨_, ret1 rfl, ?_⟩
 obtain ⟨bL, bp, bi, bG⟩ := bh.freezeArr
 exact ⟨bL, h, (Zt (Zt ai bo) bp), bi, rfl, bG⟩
theorem F44_1 : tyField Tryz.prog 44 1 = some 1 := by kernel_rfl
theorem F44_2 : tyField Tryz.prog 44 2 = some 2 := by kernel_rfl
theorem A42 : tyAgg Tryz.prog 42 = some (false, 1) := by kernel_rfl
theorem S42 : tySlice Tryz.prog 42 = some (53, 5, 40) := by kernel_rfl
theorem Z53 : tyZero Tryz.prog 53 = some (Value.agg #[Vi (0), Vi (0), Vi (0), Vi (0), Vi (0)]) := by kernel_rfl
theorem A50 : tyAgg Tryz.prog 50 = some (true, 3) := by kernel_rfl
theorem F50_1 : tyField Tryz.prog 50 1 = some 1 := by kernel_rfl
theorem F50_2 : tyField Tryz.prog 50 2 = some 2 := by kernel_rfl
theorem ref58_touches_sim {w0 w : World} {s : PHeap} {H : List Res} {g : (List Fact)} {c : Int} {d : Value} {r : Bool} (hm : ref58_touches_p g c = some r) (hS : St w0 s (H) w) (j : SliceRep encFact s d g) :
  Calls Tryz.prog 68 #[d, Vi (c)] w fun e w' => ∃ v, e = .returned v ∧ ((fun (a5 : Bool) => ∃ (aa : PHeap) , PHeap.le s aa ∧ St w0 aa (H) w' ∧ v = Value.bool (a5)) r) := by
 unfold ref58_touches_p at hm
 refine calls_of_W Tryz.func68 rfl rfl (Zc (Zd (Za rfl rfl (Zo (v := Value.bool (false)) rfl rfl (Zb (Ze (Zc (Zc (Zd (Za rfl rfl (Zm (v := d) rfl rfl (Za rfl rfl (Zr S23 rfl rfl j (Za rfl rfl (Zm (v := Vi (0)) rfl rfl (Zb (Ze ?_)))))))))))))))))
 obtain ⟨o, af, aq, ao, am⟩ := ctl_some hm
 refine W_mid (M := fun f' w' => ∃ s', (o = .next s' ∨ o = .brk s') ∧ (fun (_ : Unit) => ∃ (ab : PHeap) , PHeap.le s ab ∧ St w0 ab (H) w' ∧ f' 1 = Vi (c) ∧ f' 7 = d ∧ f' 8 = Vi ((g.length : Int))) s') ?_ ?_
 ·refine W_block (W_forC (fun k' s' f' w' => (fun (_ : Unit) => ∃ (ac : PHeap) , PHeap.le s ac ∧ St w0 ac (H) w' ∧ f' 1 = Vi (c) ∧ f' 7 = d ∧ f' 8 = Vi ((g.length : Int)) ∧ f' 9 = Vi (k' : Int)) s') af ?_ ?_ ?_)
  ·exact ⟨s, (Zv _), hS, rfl, rfl, rfl, rfl⟩
  ·intro av aJ p aC aN an ag a ar
   obtain ⟨ad, m, q, u, x, y, n⟩ := ag
   refine Zc (Zd (Za rfl rfl (Zq rfl n y (Zb (Ze (Zc (W_true (Zx (decide_eq_true (by omega))) (W_skip (Ze (Zc (W_block (Zc (Zd ?_)))))))))))))
   obtain ⟨i, a0, a⟩ := Zg a
   refine Za rfl rfl (Exec.index_rep S23 rfl x n (j.mono m) a0 ?_)
   intro a6 aF ae
   refine Za rfl rfl (Zw (E := encFact) q A75 rfl rfl rfl ae ?_)
   intro aM a1
   obtain rfl := encFact_val.1 a1
   refine Za rfl rfl (Exec.alloc (cs := [Vi (0), Vi (0)]) q Z75 rfl rfl ?_)
   intro a7 aO aj
   refine Za rfl rfl (Exec.store_box (ds := [Vi (i.Var), Vi (i.Val)]) (es := [Vi (i.Var), Vi (i.Val)]) aj A75 rfl rfl rfl rfl (Zj rfl (Zj rfl one_nil)) (Nat.le_of_ble_eq_true rfl) rfl ?_)
   intro aP l
   refine Zb (Ze (Zc (Zd (Za rfl rfl (Zp F75_0 rfl rfl rfl (Za rfl rfl (Zn (l) A3 rfl rfl rfl (Za rfl rfl (Zm (v := Vi (c)) rfl u (Za rfl rfl (Exec.eql rfl rfl rfl (Zb (Ze ?_)))))))))))))
   rcases ite_some a with ⟨b, a⟩ | ⟨b, a⟩
   ·refine W_cond_t rfl b (Zc (Zd (Za rfl rfl (Zo (v := Value.bool (true)) rfl rfl (Zb (Ze (W_ret (ib_ret (at_ret (at_ret (ib_ret (at_ret (at_ret ?_)))))))))))))
    have a8 := Zu a
    subst p
    have ap := aq _ (ar (by intro _ h; cases h))
    have a9 := Zu ap
    subst r
    refine ⟨_, ret1 rfl, ?_⟩
    exact ⟨ad, m, (l).drop, rfl⟩
   refine W_cond_f rfl b ?_
   replace b := Zk b
   refine W_skip (ib_normal (Ze (Zd (Za rfl rfl (Exec.add rfl n rfl (Za rfl rfl (Zm (v := Vi (IntKind.i64.wrap ((av : Int) + 1))) rfl rfl (Zb (Ze ?_)))))))))
   have aA := Zu a
   subst p
   refine ⟨_, rfl, ?_⟩; exact ⟨ad, m, (l).drop, u, x, y, (Eq.trans rfl (wrap_up an (SliceRep.le j)))⟩
  intro aK aD aQ ah au
  obtain ⟨a2, aw, ak, ay, az, z, a4⟩ := ah
  refine Zc (Zd (Za rfl rfl (Zq rfl a4 z (Zb (Ze (Zc (W_false (Zx (decide_eq_false (by omega))) (W_exit (at_exit (at_exit (ib_here (Ze ?_))))))))))))
  refine ⟨_, .inl au, ?_⟩; exact ⟨a2, aw, ak, ay, az, z⟩
 rintro aE aR ⟨aL, t, ai⟩
 have hm := t.elim (ao _) (am _)
 clear t
 obtain ⟨a3, ax, al, aG, aH, aI⟩ := ai
 refine (Ze (Zc (Zd (Za rfl rfl (Zo (v := Value.bool (false)) rfl rfl (Zb (Ze (W_ret ?_))))))))
 have aB := Zu hm
 subst r
 refine ⟨_, ret1 rfl, ?_⟩
 exact ⟨a3, ax, al, rfl⟩
theorem ref55_Reads_sim {w0 w : World} {s : PHeap} {H : List Res} {a : Job} {g : Bool} {c : Value} {i : Value} {d : Value} {j : Value} {k : Value} {r : (List Fact)} (hm : ref55_Reads_p a g = some r) (hS : St w0 s (H) w) (m : SliceRep encFact s c a.Start) (p : SliceRep encFact s i a.Over) (n : SliceRep encFact s d a.End) (q : SliceRep encFact s j a.AtStart) (t : SliceRep encFact s k a.AtEnd) :
  Calls Tryz.prog 58 #[Value.agg #[Value.string (a.Name), Vi (a.Duration), c, i, d, j, k], Value.bool (g)] w fun e w' => ∃ v, e = .returned v ∧ ((fun (o : (List Fact)) => ∃ (h : PHeap) (l : Value), PHeap.le s h ∧ St w0 h (H) w' ∧ v = l ∧ SliceRep encFact h l o) r) := by
 unfold ref55_Reads_p at hm
 refine calls_of_W Tryz.func58 rfl rfl (Zc (Zd (Za rfl rfl (Exec.box (cs := [Value.string (a.Name), Vi (a.Duration), c, i, d, j, k]) hS rfl rfl rfl ?_))))
 intro u z f
 refine Za rfl rfl (Zo (v := Value.slice none 0 0) rfl rfl (Zb (Ze (Zc (Zc (Zd (Za rfl rfl (Zm (v := Value.bool (g)) rfl rfl (Zb (Ze ?_))))))))))
 rcases ite_some hm with ⟨b, hm⟩ | ⟨b, hm⟩
 ·refine W_cond_t rfl b (Zc (Zd (Za rfl rfl (Zp F59_4 rfl rfl rfl (Za rfl rfl (Zn (f) A23 rfl rfl rfl (Za rfl rfl (Zo (v := d) rfl rfl (Zb (Ze (W_ret (at_ret ?_))))))))))))
  have x := Zu hm
  subst r
  refine ⟨_, ret1 rfl, ?_⟩
  exact ⟨s, d, (Zv _), (f).drop, rfl, n⟩
 refine W_cond_f rfl b ?_
 replace b := Zk b
 refine W_skip (Ze (Zc (Zd (Za rfl rfl (Zp F59_2 rfl rfl rfl (Za rfl rfl (Zn (f) A23 rfl rfl rfl (Za rfl rfl (Zo (v := c) rfl rfl (Zb (Ze (W_ret ?_))))))))))))
 have y := Zu hm
 subst r
 refine ⟨_, ret1 rfl, ?_⟩
 exact ⟨s, c, (Zv _), (f).drop, rfl, m⟩
end Go.Pw
