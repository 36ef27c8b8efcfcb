/-
  The walks (printed by my generator).
-/
import Derived.Test.YthbgcahoknmmmaaL29
import Derived.Test.YthbgcahoknmmmaaL27
import Derived.Test.YthbgcahoknmmmaaRa3
set_option maxRecDepth 100000
set_option maxHeartbeats 4000000
set_option linter.unusedVariables false
namespace Go.Pw
open Go.Proofs
theorem law58_awake_sim {w0 w : World} {s : PHeap} {H : List Res} {fu : Nat}  {r : Bool} (hm : law58_awake_p fu = some r) (hS : St w0 s (H) w)  :
  Calls Try.prog 7 #[] w fun e w' => ∃ v, e = .returned v ∧ ((fun (y22 : Bool) => ∃ (aa : PHeap) , PHeap.le s aa ∧ St w0 aa (H) w' ∧ v = Value.bool (y22)) r) := by
 unfold law58_awake_p at hm
 refine calls_of_W Try.func7 rfl rfl (Zc (Zd (Za rfl rfl (Zo (v := Value.bool (false)) rfl rfl (Zb (Ze (Zc (Zd (Za rfl rfl (Tc rfl rfl rfl args_nil (law58_lamp_sim law58_lamp_tot hS ).r ?_))))))))))
 rintro _ aK ⟨aD, aF, aG, aH, aI, al, ae, rfl, au, av, aw, ax⟩
 refine Za rfl rfl (Exec.build rfl (parts_cons (c := [Vi (0)]) (cells_of rfl rfl) parts_nil) (v := Value.agg #[Vi (0), Vi (0)]) (fun _ => by kernel_rfl) (Za rfl rfl (Exec.build rfl (parts_cons (c := [Vi (1)]) (cells_of rfl rfl) (parts_cons (c := [Vi (1)]) (cells_of rfl rfl) parts_nil)) (v := Value.agg #[Vi (1), Vi (1)]) (fun _ => by kernel_rfl) (Za rfl rfl (Exec.buildSlice (Te := 45) (cs := [Vi (0), Vi (0), Vi (1), Vi (1)]) ae rfl (parts_cons (c := [Vi (0), Vi (0)]) (cells_of rfl rfl) (parts_cons (c := [Vi (1), Vi (1)]) (cells_of rfl rfl) parts_nil)) (fun _ => by kernel_rfl) ?_)))))
 intro a1 aL af
 have ag := St.boxArr (E := encLaunch) (xs := [(⟨0, 0⟩ : Launch), (⟨1, 1⟩ : Launch)]) af ⟨[Vi (0), Vi (0)], [Vi (1), Vi (1)], rfl, ⟨[Vi (0)], [Vi (0)], rfl, rfl, rfl⟩, ⟨[Vi (1), Vi (1)], [], rfl, ⟨[Vi (1)], [Vi (1)], rfl, rfl, rfl⟩, rfl⟩⟩ (by simp [maxLen])
 obtain ⟨aE, m, ah, ay⟩ := ag.freezeArr
 obtain ⟨a0, ap, hm⟩ := Zg hm
 obtain ⟨o, u⟩ := a0
 replace hm := un2_eq hm
 refine Za rfl rfl (Tc rfl rfl rfl (Zi rfl (Zi rfl args_nil)) (simulate_Run_sim ap ah (au.mono m) (av.mono m) (aw.mono m) (ax.mono m) ay).r ?_)
 rintro _ aM ⟨l, p, q, t, am, ai, rfl, y, z, x⟩
 refine Za rfl rfl (Zm (v := Value.tuple #[Value.agg #[p, q, t, Vi (u.Makespan)], errV 69 (o)]) rfl rfl (Za rfl rfl (Exec.extract (v := Value.agg #[p, q, t, Vi (u.Makespan)]) rfl rfl rfl (Za rfl rfl (Exec.extract (v := errV 69 (o)) rfl rfl rfl (Za rfl rfl (Exec.alloc (cs := [Value.slice none 0 0, Value.slice none 0 0, Value.slice none 0 0, Vi (0)]) ai Z38 rfl rfl ?_)))))))
 intro a2 aN aj
 refine Za rfl rfl (Exec.store_box (ds := [p, q, t, Vi (u.Makespan)]) (es := [p, q, t, Vi (u.Makespan)]) aj A38 rfl rfl rfl rfl (Zj (y).one (Zj (z).one (Zj (x).one (Zj rfl one_nil)))) (Nat.le_of_ble_eq_true rfl) rfl ?_)
 intro aO b
 refine Za rfl rfl (Zo (v := errV 69 (o)) rfl rfl (Zb (Ze (Zc ?_))))
 obtain ⟨j, a, hm⟩ := Zg hm
 refine W_mid (M := fun f' w' => (fun (j : Bool) => ∃ (ab : PHeap) , PHeap.le l ab ∧ St w0 ab (H) w' ∧ f' 0 = Value.bool (j)) j) ?_ ?_
 ·refine Zd (Za rfl rfl (Zm (v := errV 69 (o)) rfl rfl (Za rfl rfl (Exec.err_eql_nil (T := 69) Try.underlying31 rfl rfl rfl (Za rfl rfl (Zm (v := Value.bool (o.isNone)) rfl rfl ?_))))))
  rcases ite_some a with ⟨k, a⟩ | ⟨k, a⟩
  ·refine WL_run rfl (Zf rfl (Zx k)) rfl (Zp F38_3 rfl rfl rfl (WL_run rfl (Zf rfl (Zx k)) rfl (Zn (b) A3 rfl rfl rfl (WL_run rfl (Zf rfl (Zx k)) rfl (Exec.eql rfl rfl rfl ?_)))))
   refine WL_passes 2 (by rw [k]; rfl) ?_
   rcases ite_some a with ⟨g, a⟩ | ⟨g, a⟩
   ·refine WL_run rfl (Zf rfl (Zx g)) rfl (Zp F38_0 rfl rfl rfl (WL_run rfl (Zf rfl (Zx g)) rfl (Zn (b) A34 rfl rfl rfl (WL_run rfl (Zf rfl (Zx g)) rfl (Zr S34 rfl rfl y (WL_run rfl (Zf rfl (Zx g)) rfl (Exec.eql rfl rfl rfl ?_)))))))
    refine WL_passes 2 (by rw [g]; rfl) ?_
    rcases ite_some a with ⟨h, a⟩ | ⟨h, a⟩
    ·refine WL_run rfl (Zf rfl (Zx h)) rfl (Zp F38_1 rfl rfl rfl (WL_run rfl (Zf rfl (Zx h)) rfl (Zn (b) A35 rfl rfl rfl (WL_run rfl (Zf rfl (Zx h)) rfl (Zr S35 rfl rfl z (WL_run rfl (Zf rfl (Zx h)) rfl (Exec.eql rfl rfl rfl ?_)))))))
     refine WL_passes 2 (by rw [h]; rfl) ?_
     rcases ite_some a with ⟨i, a⟩ | ⟨i, a⟩
     ·refine WL_run rfl (Zf rfl (Zx i)) rfl (Zp F38_2 rfl rfl rfl (WL_run rfl (Zf rfl (Zx i)) rfl (Zn (b) A36 rfl rfl rfl (WL_run rfl (Zf rfl (Zx i)) rfl (Zr S36 rfl rfl x (WL_run rfl (Zf rfl (Zx i)) rfl (Exec.eql rfl rfl rfl ?_)))))))
      refine WL_passes 2 (by rw [i]; rfl) ?_
      rcases ite_some a with ⟨d, a⟩ | ⟨d, a⟩
      ·refine WL_run rfl (Zf rfl (Zx d)) rfl (Zp F38_2 rfl rfl rfl (WL_run rfl (Zf rfl (Zx d)) rfl (Zn (b) A36 rfl rfl rfl ?_)))
       obtain ⟨n, aq, a⟩ := Zg a
       refine WL_run rfl (Zf rfl (Zx d)) rfl (Exec.index_rep S36 rfl rfl rfl x aq ?_)
       intro a3 aC ac
       refine WL_run rfl (Zf rfl (Zx d)) rfl (Zw (E := encsimulate_Problem) b A43 rfl rfl rfl ac ?_)
       intro aJ ar
       obtain rfl := encsimulate_Problem_val.1 ar
       refine WL_run rfl (Zf rfl (Zx d)) rfl (Exec.build rfl (parts_cons (c := [Vi (1)]) (cells_of rfl rfl) (parts_cons (c := [Vi (16)]) (cells_of rfl rfl) (parts_cons (c := [Vi (0)]) (cells_of rfl rfl) (parts_cons (c := [Vi ((-1))]) (cells_of rfl rfl) (parts_cons (c := [Vi (0)]) (cells_of rfl rfl) parts_nil))))) (v := Value.agg #[Vi (1), Vi (16), Vi (0), Vi ((-1)), Vi (0)]) (fun _ => by kernel_rfl) (WL_run rfl (Zf rfl (Zx d)) rfl (Exec.ints_eql (xs := [n.At, n.Kind, n.Launch, n.Other, n.Var]) (ys := [1, 16, 0, (-1), 0]) IS43 rfl rfl rfl rfl rfl rfl rfl ?_)))
       refine WL_passes 2 (by rw [d]; rfl) ?_
       refine Zb (Ze ?_)
       have a4 := Zu a
       subst j
       exact ⟨l, (Zv _), (b).drop, rfl⟩
      replace d := Zk d
      refine WL_passes 8 (by rw [d]; rfl) ?_
      refine Zb (Ze ?_)
      have a5 := Zu a
      subst j
      exact ⟨l, (Zv _), (b).drop, rfl⟩
     replace i := Zk i
     refine WL_passes 14 (by rw [i]; rfl) ?_
     refine Zb (Ze ?_)
     have a6 := Zu a
     subst j
     exact ⟨l, (Zv _), (b).drop, rfl⟩
    replace h := Zk h
    refine WL_passes 20 (by rw [h]; rfl) ?_
    refine Zb (Ze ?_)
    have a7 := Zu a
    subst j
    exact ⟨l, (Zv _), (b).drop, rfl⟩
   replace g := Zk g
   refine WL_passes 26 (by rw [g]; rfl) ?_
   refine Zb (Ze ?_)
   have a8 := Zu a
   subst j
   exact ⟨l, (Zv _), (b).drop, rfl⟩
  replace k := Zk k
  refine WL_passes 31 (by rw [k]; rfl) ?_
  refine Zb (Ze ?_)
  have a9 := Zu a
  subst j
  exact ⟨l, (Zv _), (b).drop, rfl⟩
 intro aB aP ad
 obtain ⟨az, an, ak, ao⟩ := ad
 refine (Ze (W_ret ?_))
 have aA := Zu hm
 subst r
 refine ⟨_, ret1 rfl, ?_⟩
 exact ⟨az, (Zt (Zt (Zt al m) am) an), ak, ao⟩
theorem law58_few_sim {w0 w : World} {s : PHeap} {H : List Res} {b : Temporal} {u : (List Launch)} {y : Value} {z : Value} {aa : Value} {n : Value} {ah : Value} {r : Bool} (hm : law58_few_p b u = some r) (hS : St w0 s (H) w) (aB : SliceRep (encInt .i64) s y b.Vars) (bj : SliceRep (encInt .i64) s z b.Init) (aC : SliceRep encFact s aa b.Goal) (t : SliceRep encJob s n b.Jobs) (aD : SliceRep encLaunch s ah u) :
  Calls Try.prog 8 #[Value.agg #[y, z, aa, n], ah] w fun e w' => ∃ v, e = .returned v ∧ ((fun (bi : Bool) => ∃ (a0 : PHeap) , PHeap.le s a0 ∧ St w0 a0 (H) w' ∧ v = Value.bool (bi)) r) := by
 unfold law58_few_p at hm
 refine calls_of_W Try.func8 rfl rfl (Zc (Zd (Za rfl rfl (Exec.box (cs := [y, z, aa, n]) hS rfl rfl rfl ?_))))
 intro ai b4 l
 refine Za rfl rfl (Zo (v := Value.bool (false)) rfl rfl (Zb (Ze (Zc (Zc (W_mid (M := fun f' w' => ∃ (a1 : PHeap) , PHeap.le s a1 ∧ St w0 a1 (Res.box ai 26 [y, z, aa, n] :: H) w' ∧ f' 2 = Value.pointer (some ⟨ai, 0, none⟩) ∧ f' 27 = Value.bool (((decide (70 < (b.Vars.length : Int))) || ((decide (30 < (b.Jobs.length : Int))) || ((decide (20 < (u.length : Int))) || decide (80 < (b.Goal.length : Int))))))) ?_ ?_))))))
 ·refine Zd (Za rfl rfl (Zp F26_0 rfl rfl rfl (Za rfl rfl (Zn (l) A22 rfl rfl rfl (Za rfl rfl (Zr S22 rfl rfl aB (Za rfl rfl (Exec.gtr rfl rfl rfl (Za rfl rfl (Zm (v := Value.bool (decide (70 < (b.Vars.length : Int)))) rfl rfl ?_))))))))))
  by_cases c : (decide (70 < (b.Vars.length : Int))) = true
  ·refine WL_passes 16 (by rw [c]; rfl) ?_
   refine Zb (Ze ?_)
   exact ⟨s, (Zv _), l, rfl, (Zx (or_t c)).symm⟩
  replace c := Zk c
  refine WL_run rfl (Zf rfl (Zx c)) rfl (Zp F26_3 rfl rfl rfl (WL_run rfl (Zf rfl (Zx c)) rfl (Zn (l) A24 rfl rfl rfl (WL_run rfl (Zf rfl (Zx c)) rfl (Zr S24 rfl rfl t (WL_run rfl (Zf rfl (Zx c)) rfl (Exec.gtr rfl rfl rfl ?_)))))))
  refine WL_passes 2 (by rw [c]; rfl) ?_
  by_cases d : (decide (30 < (b.Jobs.length : Int))) = true
  ·refine WL_passes 10 (by rw [d]; rfl) ?_
   refine Zb (Ze ?_)
   exact ⟨s, (Zv _), l, rfl, (Zx (Eq.trans (or_f c) (or_t d))).symm⟩
  replace d := Zk d
  refine WL_run rfl (Zf rfl (Zx d)) rfl (Zm (v := ah) rfl rfl (WL_run rfl (Zf rfl (Zx d)) rfl (Zr S27 rfl rfl aD (WL_run rfl (Zf rfl (Zx d)) rfl (Exec.gtr rfl rfl rfl ?_)))))
  refine WL_passes 2 (by rw [d]; rfl) ?_
  by_cases g : (decide (20 < (u.length : Int))) = true
  ·refine WL_passes 5 (by rw [g]; rfl) ?_
   refine Zb (Ze ?_)
   exact ⟨s, (Zv _), l, rfl, (Zx (Eq.trans (or_f c) (Eq.trans (or_f d) (or_t g)))).symm⟩
  replace g := Zk g
  refine WL_run rfl (Zf rfl (Zx g)) rfl (Zp F26_2 rfl rfl rfl (WL_run rfl (Zf rfl (Zx g)) rfl (Zn (l) A23 rfl rfl rfl (WL_run rfl (Zf rfl (Zx g)) rfl (Zr S23 rfl rfl aC (WL_run rfl (Zf rfl (Zx g)) rfl (Exec.gtr rfl rfl rfl (Za rfl rfl (Exec.pick_f (v := Value.bool (decide (80 < (b.Goal.length : Int)))) rfl (Zx g) rfl (Zb (Ze ?_)))))))))))
  exact ⟨s, (Zv _), l, rfl, (Zx (Eq.trans (or_f c) (Eq.trans (or_f d) (or_f g)))).symm⟩
 intro br b5 aI
 obtain ⟨x, o, ac, aY, aq⟩ := aI
 refine (Ze ?_)
 rcases ite_some hm with ⟨p, hm⟩ | ⟨p, hm⟩
 ·refine W_cond_t aq p (Zc (Zd (Za rfl rfl (Zo (v := Value.bool (false)) rfl rfl (Zb (Ze (W_ret (at_ret ?_))))))))
  have bm := Zu hm
  subst r
  refine ⟨_, ret1 rfl, ?_⟩
  exact ⟨x, o, (ac).drop, rfl⟩
 refine W_cond_f aq p ?_
 replace p := Zk p
 refine W_skip (Ze (Zc (Zc (Zd (Za rfl rfl (Zp F26_3 rfl aY rfl (Za rfl rfl (Zn (ac) A24 rfl rfl rfl (Za rfl rfl (Zr S24 rfl rfl (t.mono o) (Za rfl rfl (Zm (v := Vi (0)) rfl rfl (Zb (Ze ?_))))))))))))))
 obtain ⟨aj, aF, aT, aR, aP⟩ := ctl_some hm
 refine W_mid (M := fun f' w' => ∃ s', (aj = .next s' ∨ aj = .brk s') ∧ (fun (_ : Unit) => ∃ (a2 : PHeap) , PHeap.le x a2 ∧ St w0 a2 (H) w' ∧ f' 29 = n ∧ f' 30 = Vi ((b.Jobs.length : Int))) s') ?_ ?_
 ·refine W_block (W_forC (fun k' s' f' w' => (fun (_ : Unit) => ∃ (a3 : PHeap) , PHeap.le x a3 ∧ St w0 a3 (H) w' ∧ f' 29 = n ∧ f' 30 = Vi ((b.Jobs.length : Int)) ∧ f' 31 = Vi (k' : Int)) s') aF ?_ ?_ ?_)
  ·have aL := (ac).drop
   exact ⟨x, (Zv _), aL, rfl, rfl, rfl⟩
  ·intro ao b0 ak bs b6 aQ aG m aU
   obtain ⟨ag, ad, al, ae, af, ab⟩ := aG
   refine Zc (Zd (Za rfl rfl (Zq rfl ab af (Zb (Ze (Zc (W_true (Zx (decide_eq_true (by omega))) (W_skip (Ze (Zc (W_block (Zc (Zd ?_)))))))))))))
   obtain ⟨a, bd, m⟩ := Zg m
   refine Za rfl rfl (Exec.index_rep S24 rfl ae ab (t.mono (Zt o ad)) bd ?_)
   intro bk bw aE
   refine Za rfl rfl (Zw (E := encJob) al A52 rfl rfl rfl aE ?_)
   intro b3 be
   obtain ⟨a6, a7, a8, a9, aA, rfl, av, aw, ax, ay, az⟩ := encJob_val.1 be
   refine Za rfl rfl (Exec.alloc (cs := [Value.string (⟨#[]⟩), Vi (0), Value.slice none 0 0, Value.slice none 0 0, Value.slice none 0 0, Value.slice none 0 0, Value.slice none 0 0]) al Z52 rfl rfl ?_)
   intro bl b7 aM
   refine Za rfl rfl (Exec.store_box (ds := [Value.string (a.Name), Vi (a.Duration), a6, a7, a8, a9, aA]) (es := [Value.string (a.Name), Vi (a.Duration), a6, a7, a8, a9, aA]) aM A52 rfl rfl rfl rfl (Zj rfl (Zj rfl (Zj (av).one (Zj (aw).one (Zj (ax).one (Zj (ay).one (Zj (az).one one_nil))))))) (Nat.le_of_ble_eq_true rfl) rfl ?_)
   intro b8 j
   refine Zb (Ze (Zc (W_mid (M := fun f' w' => ∃ (a4 : PHeap) , PHeap.le ag a4 ∧ St w0 a4 (H) w' ∧ f' 29 = n ∧ f' 30 = Vi ((b.Jobs.length : Int)) ∧ f' 31 = Vi ((ao : Int)) ∧ f' 60 = Value.bool (((decide (100 < (IntKind.i64.wrap ((IntKind.i64.wrap ((IntKind.i64.wrap ((IntKind.i64.wrap ((a.Start.length : Int) + (a.Over.length : Int))) + (a.End.length : Int))) + (a.AtStart.length : Int))) + (a.AtEnd.length : Int))))) || decide (300 < (a.Name.size : Int))))) ?_ ?_)))
   ·refine Zd (Za rfl rfl (Zp F52_2 rfl rfl rfl (Za rfl rfl (Zn (j) A23 rfl rfl rfl (Za rfl rfl (Zr S23 rfl rfl av (Za rfl rfl (Zp F52_3 rfl rfl rfl (Za rfl rfl (Zn (j) A23 rfl rfl rfl (Za rfl rfl (Zr S23 rfl rfl aw (Za rfl rfl (Exec.add rfl rfl rfl (Za rfl rfl (Zp F52_4 rfl rfl rfl (Za rfl rfl (Zn (j) A23 rfl rfl rfl (Za rfl rfl (Zr S23 rfl rfl ax (Za rfl rfl (Exec.add rfl rfl rfl (Za rfl rfl (Zp F52_5 rfl rfl rfl (Za rfl rfl (Zn (j) A23 rfl rfl rfl (Za rfl rfl (Zr S23 rfl rfl ay (Za rfl rfl (Exec.add rfl rfl rfl (Za rfl rfl (Zp F52_6 rfl rfl rfl (Za rfl rfl (Zn (j) A23 rfl rfl rfl (Za rfl rfl (Zr S23 rfl rfl az (Za rfl rfl (Exec.add rfl rfl rfl (Za rfl rfl (Exec.gtr rfl rfl rfl (Za rfl rfl (Zm (v := Value.bool (decide (100 < (IntKind.i64.wrap ((IntKind.i64.wrap ((IntKind.i64.wrap ((IntKind.i64.wrap ((a.Start.length : Int) + (a.Over.length : Int))) + (a.End.length : Int))) + (a.AtStart.length : Int))) + (a.AtEnd.length : Int)))))) rfl rfl ?_))))))))))))))))))))))))))))))))))))))))))
    by_cases i : (decide (100 < (IntKind.i64.wrap ((IntKind.i64.wrap ((IntKind.i64.wrap ((IntKind.i64.wrap ((a.Start.length : Int) + (a.Over.length : Int))) + (a.End.length : Int))) + (a.AtStart.length : Int))) + (a.AtEnd.length : Int))))) = true
    ·refine WL_passes 5 (by rw [i]; rfl) ?_
     refine Zb (Ze ?_)
     exact ⟨ag, (Zv _), (j).drop, ae, af, ab, (Zx (or_t i)).symm⟩
    replace i := Zk i
    refine WL_run rfl (Zf rfl (Zx i)) rfl (Zp F52_0 rfl rfl rfl (WL_run rfl (Zf rfl (Zx i)) rfl (Zn (j) A9 rfl rfl rfl (WL_run rfl (Zf rfl (Zx i)) rfl (Exec.len_str Try.underlying9 rfl rfl (WL_run rfl (Zf rfl (Zx i)) rfl (Exec.gtr rfl rfl rfl (Za rfl rfl (Exec.pick_f (v := Value.bool (decide (300 < (a.Name.size : Int)))) rfl (Zx i) rfl (Zb (Ze ?_)))))))))))
    exact ⟨ag, (Zv _), (j).drop, ae, af, ab, (Zx (or_f i)).symm⟩
   intro bt b9 aJ
   obtain ⟨a5, ap, am, aZ, ba, bb, ar⟩ := aJ
   refine (Ze ?_)
   rcases ite_some m with ⟨q, m⟩ | ⟨q, m⟩
   ·refine W_cond_t ar q (Zc (Zd (Za rfl rfl (Zo (v := Value.bool (false)) rfl rfl (Zb (Ze (W_ret (ib_ret (at_ret (at_ret (ib_ret (at_ret (at_ret ?_)))))))))))))
    have bn := Zu m
    subst ak
    have aS := aT _ (aU (by intro _ h; cases h))
    have bo := Zu aS
    subst r
    refine ⟨_, ret1 rfl, ?_⟩
    exact ⟨a5, (Zt (Zt o ad) ap), am, rfl⟩
   refine W_cond_f ar q ?_
   replace q := Zk q
   refine W_skip (ib_normal (Ze (Zd (Za rfl rfl (Exec.add rfl bb rfl (Za rfl rfl (Zm (v := Vi (IntKind.i64.wrap ((ao : Int) + 1))) rfl rfl (Zb (Ze ?_)))))))))
   have bp := Zu m
   subst ak
   refine ⟨_, rfl, ?_⟩; exact ⟨a5, (Zt ad ap), am, aZ, ba, (Eq.trans rfl (wrap_up aQ (SliceRep.le (t.mono o))))⟩
  intro b1 bu bA aH aV
  obtain ⟨bf, aW, aN, bc, au, bh⟩ := aH
  refine Zc (Zd (Za rfl rfl (Zq rfl bh au (Zb (Ze (Zc (W_false (Zx (decide_eq_false (by omega))) (W_exit (at_exit (at_exit (ib_here (Ze ?_))))))))))))
  refine ⟨_, .inl aV, ?_⟩; exact ⟨bf, aW, aN, bc, au⟩
 rintro bv bB ⟨b2, an, aK⟩
 have hm := an.elim (aR _) (aP _)
 clear an
 obtain ⟨bg, aX, aO, bx, bz⟩ := aK
 refine (Ze (Zc (Zd (Za rfl rfl (Zo (v := Value.bool (true)) rfl rfl (Zb (Ze (W_ret ?_))))))))
 have bq := Zu hm
 subst r
 refine ⟨_, ret1 rfl, ?_⟩
 exact ⟨bg, (Zt o aX), aO, rfl⟩
theorem F43_1 : tyField Try.prog 43 1 = some 1 := by kernel_rfl
theorem law58_harmless_sim {w0 w : World} {s : PHeap} {H : List Res} {fu : Nat} {j : Temporal} {aj : (List Launch)} {n : Value} {o : Value} {p : Value} {q : Value} {ac : Value} {r : Bool} (hm : law58_harmless_p fu j aj = some r) (hS : St w0 s (H) w) (ar : SliceRep (encInt .i64) s n j.Vars) (au : SliceRep (encInt .i64) s o j.Init) (av : SliceRep encFact s p j.Goal) (aw : SliceRep encJob s q j.Jobs) (ax : SliceRep encLaunch s ac aj) :
  Calls Try.prog 16 #[Value.agg #[n, o, p, q], ac] w fun e w' => ∃ v, e = .returned v ∧ ((fun (aT : Bool) => ∃ (an : PHeap) , PHeap.le s an ∧ St w0 an (H) w' ∧ v = Value.bool (aT)) r) := by
 unfold law58_harmless_p at hm
 refine calls_of_W Try.func16 rfl rfl (Zc (Zd (Za rfl rfl (Exec.box (cs := [n, o, p, q]) hS rfl rfl rfl ?_))))
 intro aU bn ag
 refine Za rfl rfl (Zo (v := Value.bool (false)) rfl rfl (Zb (Ze (Zc (Zd (Za rfl rfl (Exec.load_box_agg (ds := [n, o, p, q]) (ag) A26 rfl rfl rfl (Za rfl rfl (Zm (v := ac) rfl rfl ?_)))))))))
 obtain ⟨aR, aK, hm⟩ := Zg hm
 obtain ⟨x, d⟩ := aR
 replace hm := un2_eq hm
 refine Za rfl rfl (Tc rfl rfl rfl (Zi rfl (Zi rfl args_nil)) (simulate_Run_sim aK ag ar au av aw ax).r ?_)
 rintro _ bo ⟨m, t, u, c, aa, a3, rfl, aN, aO, l⟩
 refine Za rfl rfl (Zm (v := Value.tuple #[Value.agg #[t, u, c, Vi (d.Makespan)], errV 69 (x)]) rfl rfl (Za rfl rfl (Exec.extract (v := Value.agg #[t, u, c, Vi (d.Makespan)]) rfl rfl rfl (Za rfl rfl (Exec.extract (v := errV 69 (x)) rfl rfl rfl (Za rfl rfl (Exec.alloc (cs := [Value.slice none 0 0, Value.slice none 0 0, Value.slice none 0 0, Vi (0)]) a3 Z38 rfl rfl ?_)))))))
 intro aV bp a4
 refine Za rfl rfl (Exec.store_box (ds := [t, u, c, Vi (d.Makespan)]) (es := [t, u, c, Vi (d.Makespan)]) a4 A38 rfl rfl rfl rfl (Zj (aN).one (Zj (aO).one (Zj (l).one (Zj rfl one_nil)))) (Nat.le_of_ble_eq_true rfl) rfl ?_)
 intro bq y
 refine Za rfl rfl (Zo (v := errV 69 (x)) rfl rfl (Zb (Ze (Zc (Zc (Zd (Za rfl rfl (Zm (v := errV 69 (x)) rfl rfl (Za rfl rfl (Exec.err_neq_nil (T := 69) Try.underlying31 rfl rfl rfl (Zb (Ze ?_))))))))))))
 rcases ite_some hm with ⟨g, hm⟩ | ⟨g, hm⟩
 ·refine W_cond_t rfl g (Zc (Zd (Za rfl rfl (Zo (v := Value.bool (false)) rfl rfl (Zb (Ze (W_ret (at_ret ?_))))))))
  have aY := Zu hm
  subst r
  refine ⟨_, ret1 rfl, ?_⟩
  exact ⟨m, aa, ((y).drop).drop, rfl⟩
 refine W_cond_f rfl g ?_
 replace g := Zk g
 refine W_skip (Ze (Zc (Zc (Zd (Za rfl rfl (Zp F38_2 rfl rfl rfl (Za rfl rfl (Zn (y) A36 rfl rfl rfl (Za rfl rfl (Zr S36 rfl rfl l (Za rfl rfl (Zm (v := Vi (0)) rfl rfl (Zb (Ze ?_))))))))))))))
 obtain ⟨ae, az, aD, aB, a9⟩ := ctl_some hm
 refine W_mid (M := fun f' w' => ∃ s', (ae = .next s' ∨ ae = .brk s') ∧ (fun (_ : Unit) => ∃ (ao : PHeap) , PHeap.le m ao ∧ St w0 ao (H) w' ∧ f' 18 = c ∧ f' 19 = Vi ((d.Problems.length : Int))) s') ?_ ?_
 ·refine W_block (W_forC (fun k' s' f' w' => (fun (_ : Unit) => ∃ (ap : PHeap) , PHeap.le m ap ∧ St w0 ap (H) w' ∧ f' 18 = c ∧ f' 19 = Vi ((d.Problems.length : Int)) ∧ f' 20 = Vi (k' : Int)) s') az ?_ ?_ ?_)
  ·have a5 := (y).drop
   exact ⟨m, (Zv _), (a5).drop, rfl, rfl, rfl⟩
  ·intro aG bj af bd br aA a0 b aE
   obtain ⟨aq, ab, ah, ak, al, ad⟩ := a0
   refine Zc (Zd (Za rfl rfl (Zq rfl ad al (Zb (Ze (Zc (W_true (Zx (decide_eq_true (by omega))) (W_skip (Ze (Zc (W_block (Zc (Zd ?_)))))))))))))
   obtain ⟨a, aL, b⟩ := Zg b
   refine Za rfl rfl (Exec.index_rep S36 rfl ak ad (l.mono ab) aL ?_)
   intro aW bg ay
   refine Za rfl rfl (Zw (E := encsimulate_Problem) ah A43 rfl rfl rfl ay ?_)
   intro bm aM
   obtain rfl := encsimulate_Problem_val.1 aM
   refine Za rfl rfl (Exec.alloc (cs := [Vi (0), Vi (0), Vi (0), Vi (0), Vi (0)]) ah Z43 rfl rfl ?_)
   intro aX bs a6
   refine Za rfl rfl (Exec.store_box (ds := [Vi (a.At), Vi (a.Kind), Vi (a.Launch), Vi (a.Other), Vi (a.Var)]) (es := [Vi (a.At), Vi (a.Kind), Vi (a.Launch), Vi (a.Other), Vi (a.Var)]) a6 A43 rfl rfl rfl rfl (Zj rfl (Zj rfl (Zj rfl (Zj rfl (Zj rfl one_nil))))) (Nat.le_of_ble_eq_true rfl) rfl ?_)
   intro bt z
   refine Zb (Ze (Zc (Zd (Za rfl rfl (Zp F43_1 rfl rfl rfl (Za rfl rfl (Zn (z) A3 rfl rfl rfl (Za rfl rfl (Exec.neq rfl rfl rfl (Zb (Ze ?_)))))))))))
   rcases ite_some b with ⟨i, b⟩ | ⟨i, b⟩
   ·refine W_cond_t rfl i (Zc (Zd (Za rfl rfl (Zo (v := Value.bool (false)) rfl rfl (Zb (Ze (W_ret (ib_ret (at_ret (at_ret (ib_ret (at_ret (at_ret ?_)))))))))))))
    have aZ := Zu b
    subst af
    have aC := aD _ (aE (by intro _ h; cases h))
    have ba := Zu aC
    subst r
    refine ⟨_, ret1 rfl, ?_⟩
    exact ⟨aq, (Zt aa ab), (z).drop, rfl⟩
   refine W_cond_f rfl i ?_
   replace i := Zk i
   refine W_skip (ib_normal (Ze (Zd (Za rfl rfl (Exec.add rfl ad rfl (Za rfl rfl (Zm (v := Vi (IntKind.i64.wrap ((aG : Int) + 1))) rfl rfl (Zb (Ze ?_)))))))))
   have bb := Zu b
   subst af
   refine ⟨_, rfl, ?_⟩; exact ⟨aq, ab, (z).drop, ak, al, (Eq.trans rfl (wrap_up aA (SliceRep.le l)))⟩
  intro bk be bu a1 aF
  obtain ⟨aP, aH, a7, aJ, am, aS⟩ := a1
  refine Zc (Zd (Za rfl rfl (Zq rfl aS am (Zb (Ze (Zc (W_false (Zx (decide_eq_false (by omega))) (W_exit (at_exit (at_exit (ib_here (Ze ?_))))))))))))
  refine ⟨_, .inl aF, ?_⟩; exact ⟨aP, aH, a7, aJ, am⟩
 rintro bf bv ⟨bl, ai, a2⟩
 have hm := ai.elim (aB _) (a9 _)
 clear ai
 obtain ⟨aQ, aI, a8, bh, bi⟩ := a2
 refine (Ze (Zc (Zd (Za rfl rfl (Zo (v := Value.bool (true)) rfl rfl (Zb (Ze (W_ret ?_))))))))
 have bc := Zu hm
 subst r
 refine ⟨_, ret1 rfl, ?_⟩
 exact ⟨aQ, (Zt aa aI), a8, rfl⟩
end Go.Pw
