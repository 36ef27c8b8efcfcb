/-
  The walks (printed by my generator).
-/
import Derived.Test.YthbgcahoknmmmaaL29
import Derived.Test.YthbgcahoknmmmaaL27
import Derived.Test.YthbgcahoknmmmaaRa3
set_option maxRecDepth 100000
set_option maxHeartbeats 4000000
set_option linter.unusedVariables false
namespace Go.Pw
open Go.Proofs
theorem law58_awake_sim {w0 w : World} {s : PHeap} {H : List Res} {fu : Nat}  {r : Bool} (hm : law58_awake_p fu = some r) (hS : St w0 s (H) w)  :
  Calls Try.prog 7 #[] w fun e w' => ∃ v, e = .returned v ∧ ((fun (y22 : Bool) => ∃ (aa : PHeap) , PHeap.le s aa ∧ St w0 aa (H) w' ∧ v = Value.bool (y22)) r) := by
 unfold law58_awake_p at hm
 refine calls_of_W Try.func7 rfl rfl (Zc (Zd (Za rfl rfl (Zo (v := Value.bool (false)) rfl rfl (Zb (Ze (Zc (Zd (Za rfl rfl (Tc rfl rfl rfl args_nil (law58_lamp_sim law58_lamp_tot hS ).r ?_))))))))))
 rintro _ aK ⟨aD, aF, aG, aH, aI, al, ae, rfl, au, av, aw, ax⟩
 refine Za rfl rfl (Exec.build rfl (parts_cons (c := [Vi (0)]) (cells_of rfl rfl) parts_nil) (v := Value.agg #[Vi (0), Vi (0)]) (fun _ => by kernel_rfl) (Za rfl rfl (Exec.build rfl (parts_cons (c := [Vi (1)]) (cells_of rfl rfl) (parts_cons (c := [Vi (1)]) (cells_of rfl rfl) parts_nil)) (v := Value.agg #[Vi (1), Vi (1)]) (fun _ => by kernel_rfl) (Za rfl rfl (Exec.buildSlice (Te := 45) (cs := [Vi (0), Vi (0), Vi (1), Vi (1)]) ae rfl (parts_cons (c := [Vi (0), Vi (0)]) (cells_of rfl rfl) (parts_cons (c := [Vi (1), Vi (1)]) (cells_of rfl rfl) parts_nil)) (fun _ => by kernel_rfl) ?_)))))
 intro a1 aL af
 have ag := St.boxArr (E := encLaunch) (xs := [(⟨0, 0⟩ : Launch), (⟨1, 1⟩ : Launch)]) af ⟨[Vi (0), Vi (0)], [Vi (1), Vi (1)], rfl, ⟨[Vi (0)], [Vi (0)], rfl, rfl, rfl⟩, ⟨[Vi (1), Vi (1)], [], rfl, ⟨[Vi (1)], [Vi (1)], rfl, rfl, rfl⟩, rfl⟩⟩ (by simp [maxLen])
 obtain ⟨aE, m, ah, ay⟩ := ag.freezeArr
 obtain ⟨a0, ap, hm⟩ := Zg hm
 obtain ⟨o, u⟩ := a0
 replace hm := un2_eq hm
 refine Za rfl rfl (Tc rfl rfl rfl (Zi rfl (Zi rfl args_nil)) (simulate_Run_sim ap ah (au.mono m) (av.mono m) (aw.mono m) (ax.mono m) ay).r ?_)
 rintro _ aM ⟨l, p, q, t, am, ai, rfl, y, z, x⟩
 refine Za rfl rfl (Zm (v := Value.tuple #[Value.agg #[p, q, t, Vi (u.Makespan)], errV 69 (o)]) rfl rfl (Za rfl rfl (Exec.extract (v := Value.agg #[p, q, t, Vi (u.Makespan)]) rfl rfl rfl (Za rfl rfl (Exec.extract (v := errV 69 (o)) rfl rfl rfl (Za rfl rfl (Exec.alloc (cs := [Value.slice none 0 0, Value.slice none 0 0, Value.slice none 0 0, Vi (0)]) ai Z38 rfl rfl ?_)))))))
 intro a2 aN aj
 refine Za rfl rfl (Exec.store_box (ds := [p, q, t, Vi (u.Makespan)]) (es := [p, q, t, Vi (u.Makespan)]) aj A38 rfl rfl rfl rfl (Zj (y).one (Zj (z).one (Zj (x).one (Zj rfl one_nil)))) (Nat.le_of_ble_eq_true rfl) rfl ?_)
 intro aO b
 refine Za rfl rfl (Zo (v := errV 69 (o)) rfl rfl (Zb (Ze (Zc ?_))))
 obtain ⟨j, a, hm⟩ := Zg hm
 refine W_mid (M := fun f' w' => (fun (j : Bool) => ∃ (ab : PHeap) , PHeap.le l ab ∧ St w0 ab (H) w' ∧ f' 0 = Value.bool (j)) j) ?_ ?_
 ·refine Zd (Za rfl rfl (Zm (v := errV 69 (o)) rfl rfl (Za rfl rfl (Exec.err_eql_nil (T := 69) Try.underlying31 rfl rfl rfl (Za rfl rfl (Zm (v := Value.bool (o.isNone)) rfl rfl ?_))))))
  rcases ite_some a with ⟨k, a⟩ | ⟨k, a⟩
  ·refine WL_run rfl (Zf rfl (Zx k)) rfl (Zp F38_3 rfl rfl rfl (WL_run rfl (Zf rfl (Zx k)) rfl (Zn (b) A3 rfl rfl rfl (WL_run rfl (Zf rfl (Zx k)) rfl (Exec.eql rfl rfl rfl ?_)))))
   refine WL_passes 2 (by rw [k]; rfl) ?_
   rcases ite_some a with ⟨g, a⟩ | ⟨g, a⟩
   ·refine WL_run rfl (Zf rfl (Zx g)) rfl (Zp F38_0 rfl rfl rfl (WL_run rfl (Zf rfl (Zx g)) rfl (Zn (b) A34 rfl rfl rfl (WL_run rfl (Zf rfl (Zx g)) rfl (Zr S34 rfl rfl y (WL_run rfl (Zf rfl (Zx g)) rfl (Exec.eql rfl rfl rfl ?_)))))))
    refine WL_passes 2 (by rw [g]; rfl) ?_
    rcases ite_some a with ⟨h, a⟩ | ⟨h, a⟩
    ·refine WL_run rfl (Zf rfl (Zx h)) rfl (Zp F38_1 rfl rfl rfl (WL_run rfl (Zf rfl (Zx h)) rfl (Zn (b) A35 rfl rfl rfl (WL_run rfl (Zf rfl (Zx h)) rfl (Zr S35 rfl rfl z (WL_run rfl (Zf rfl (Zx h)) rfl (Exec.eql rfl rfl rfl ?_)))))))
     refine WL_passes 2 (by rw [h]; rfl) ?_
     rcases ite_some a with ⟨i, a⟩ | ⟨i, a⟩
     ·refine WL_run rfl (Zf rfl (Zx i)) rfl (Zp F38_2 rfl rfl rfl (WL_run rfl (Zf rfl (Zx i)) rfl (Zn (b) A36 rfl rfl rfl (WL_run rfl (Zf rfl (Zx i)) rfl (Zr S36 rfl rfl x (WL_run rfl (Zf rfl (Zx i)) rfl (Exec.eql rfl rfl rfl ?_)))))))
      refine WL_passes 2 (by rw [i]; rfl) ?_
      rcases ite_some a with ⟨d, a⟩ | ⟨d, a⟩
      ·refine WL_run rfl (Zf rfl (Zx d)) rfl (Zp F38_2 rfl rfl rfl (WL_run rfl (Zf rfl (Zx d)) rfl (Zn (b) A36 rfl rfl rfl ?_)))
       obtain ⟨n, aq, a⟩ := Zg a
       refine WL_run rfl (Zf rfl (Zx d)) rfl (Exec.index_rep S36 rfl rfl rfl x aq ?_)
       intro a3 aC ac
       refine WL_run rfl (Zf rfl (Zx d)) rfl (Zw (E := encsimulate_Problem) b A43 rfl rfl rfl ac ?_)
       intro aJ ar
       obtain rfl := encsimulate_Problem_val.1 ar
       refine WL_run rfl (Zf rfl (Zx d)) rfl (Exec.build rfl (parts_cons (c := [Vi (1)]) (cells_of rfl rfl) (parts_cons (c := [Vi (16)]) (cells_of rfl rfl) (parts_cons (c := [Vi (0)]) (cells_of rfl rfl) (parts_cons (c := [Vi ((-1))]) (cells_of rfl rfl) (parts_cons (c := [Vi (0)]) (cells_of rfl rfl) parts_nil))))) (v := Value.agg #[Vi (1), Vi (16), Vi (0), Vi ((-1)), Vi (0)]) (fun _ => by kernel_rfl) (WL_run rfl (Zf rfl (Zx d)) rfl (Exec.ints_eql (xs := [n.At, n.Kind, n.Launch, n.Other, n.Var]) (ys := [1, 16, 0, (-1), 0]) IS43 rfl rfl rfl rfl rfl rfl rfl ?_)))
       refine WL_passes 2 (by rw [d]; rfl) ?_
       refine Zb (Ze ?_)
       have a4 := Zu a
       subst j
       exact ⟨l, (Zv _), (b).drop, rfl⟩
      replace d := Zk d
      refine WL_passes 8 (by rw [d]; rfl) ?_
      refine Zb (Ze ?_)
      have a5 := Zu a
      subst j
      exact ⟨l, (Zv _), (b).drop, rfl⟩
     replace i := Zk i
     refine WL_passes 14 (by rw [i]; rfl) ?_
     refine Zb (Ze ?_)
     have a6 := Zu a
     subst j
     exact ⟨l, (Zv _), (b).drop, rfl⟩
    replace h := Zk h
    refine WL_passes 20 (by rw [h]; rfl) ?_
    refine Zb (Ze ?_)
    have a7 := Zu a
    subst j
    exact ⟨l, (Zv _), (b).drop, rfl⟩
   replace g := Zk g
   refine WL_passes 26 (by rw [g]; rfl) ?_
   refine Zb (Ze ?_)
   have a8 := Zu a
   subst j
   exact ⟨l, (Zv _), (b).drop, rfl⟩
  replace k := Zk k
  refine WL_passes 31 (by rw [k]; rfl) ?_
  refine Zb (Ze ?_)
  have a9 := Zu a
  subst j
  exact ⟨l, (Zv _), (b).drop, rfl⟩
 intro aB aP ad
 obtain ⟨az, an, ak, ao⟩ := ad
 refine (Ze (W_ret ?_))
 have aA := Zu hm
 subst r
 refine ⟨_, ret1 rfl, ?_⟩
 exact ⟨az, (Zt (Zt (Zt al m) am) an), ak, ao⟩
theorem law58_few_sim {w0 w : World} {s : PHeap} {H : List Res} {b : Temporal} {u : (List Launch)} {y : Value} {z : Value} {aa : Value} {n : Value} {ah : Value} {r : Bool} (hm : law58_few_p b u = some r) (hS : St w0 s (H) w) (aB : SliceRep (encInt .i64) s y b.Vars) (bj : SliceRep (encInt .i64) s z b.Init) (aC : SliceRep encFact s aa b.Goal) (t : SliceRep encJob s n b.Jobs) (aD : SliceRep encLaunch s ah u) :
  Calls Try.prog 8 #[Value.agg #[y, z, aa, n], ah] w fun e w' => ∃ v, e = .returned v ∧ ((fun (bi : Bool) => ∃ (a0 : PHeap) , PHeap.le s a0 ∧ St w0 a0 (H) w' ∧ v = Value.bool (bi)) r) := by
 unfold law58_few_p at hm
 refine calls_of_W Try.func8 rfl rfl (Zc (Zd (Za rfl rfl (Exec.box (cs := [y, z, aa, n]) hS rfl rfl rfl ?_))))
 intro ai b4 l
 refine Za rfl rfl (Zo (v := Value.bool (false)) rfl rfl (Zb (Ze (Zc (Zc (W_mid (M := fun f' w' => ∃ (a1 : PHeap) , PHeap.le s a1 ∧ St w0 a1 (Res.box ai 26 [y, z, aa, n] :: H) w' ∧ f' 2 = Value.pointer (some ⟨ai, 0, none⟩) ∧ f' 27 = Value.bool (((decide (70 < (b.Vars.length : Int))) || ((decide (30 < (b.Jobs.length : Int))) || ((decide (20 < (u.length : Int))) || decide (80 < (b.Goal.length : Int))))))) ?_ ?_))))))
 ·refine Zd (Za rfl rfl (Zp F26_0 rfl rfl rfl (Za rfl rfl (Zn (l) A22 rfl rfl rfl (Za rfl rfl (Zr S22 rfl rfl aB (Za rfl rfl (Exec.gtr rfl rfl rfl (Za rfl rfl (Zm (v := Value.bool (decide (70 < (b.Vars.length : Int)))) rfl rfl ?_))))))))))
  by_cases c : (decide (70 < (b.Vars.length : Int))) = true
  ·refine WL_passes 16 (by rw [c]; rfl) ?_
   refine Zb (Ze ?_)
   exact ⟨s, (Zv _), l, rfl, (Zx (or_t c)).symm⟩
  replace c := Zk c
  refine WL_run rfl (Zf rfl (Zx c)) rfl (Zp F26_3 rfl rfl rfl (WL_run rfl (Zf rfl (Zx c)) rfl (Zn (l) A24 rfl rfl rfl (WL_run rfl (Zf rfl (Zx c)) rfl (Zr S24 rfl rfl t (WL_run rfl (Zf rfl (Zx c)) rfl (Exec.gtr rfl rfl rfl ?_)))))))
  refine WL_passes 2 (by rw [c]; rfl) ?_
  by_cases d : (decide (30 < (b.Jobs.length : Int))) = true
  ·refine WL_passes 10 (by rw [d]; rfl) ?_
   refine Zb (Ze ?_)
   exact ⟨s, (Zv _), l, rfl, (Zx (Eq.trans (or_f c) (or_t d))).symm⟩
  replace d := Zk d
  refine WL_run rfl (Zf rfl (Zx d)) rfl (Zm (v := ah) rfl rfl (WL_run rfl (Zf rfl (Zx d)) rfl (Zr S27 rfl rfl aD (WL_run rfl (Zf rfl (Zx d)) rfl (Exec.gtr rfl rfl rfl ?_)))))
  refine WL_passes 2 (by rw [d]; rfl) ?_
  by_cases g : (decide (20 < (u.length : Int))) = true
  ·refine WL_passes 5 (by rw [g]; rfl) ?_
   refine Zb (Ze ?_)
   exact ⟨s, (Zv _), l, rfl, (Zx (Eq.trans (or_f c) (Eq.trans (or_f d) (or_t g)))).symm⟩
  replace g := Zk g
  refine WL_run rfl (Zf rfl (Zx g)) rfl (Zp F26_2 rfl rfl rfl (WL_run rfl (Zf rfl (Zx g)) rfl (Zn (l) A23 rfl rfl rfl (WL_run rfl (Zf rfl (Zx g)) rfl (Zr S23 rfl rfl aC (WL_run rfl (Zf rfl (Zx g)) rfl (Exec.gtr rfl rfl rfl (Za rfl rfl (Exec.pick_f (v := Value.bool (decide (80 < (b.Goal.length : Int)))) rfl (Zx g) rfl (Zb (Ze ?_)))))))))))
  exact ⟨s, (Zv _), l, rfl, (Zx (Eq.trans (or_f c) (Eq.trans (or_f d) (or_f g)))).symm⟩
 intro br b5 aI
 obtain ⟨x, o, ac, aY, aq⟩ := aI
 refine (Ze ?_)
 rcases ite_some hm with ⟨p, hm⟩ | ⟨p, hm⟩
 ·refine W_cond_t aq p (Zc (Zd (Za rfl rfl (Zo (v := Value.bool (false)) rfl rfl (Zb (Ze (W_ret (at_ret ?_))))))))
  have bm := Zu hm
  subst r
  refine ⟨_, ret1 rfl, ?_⟩
  exact ⟨x, o, (ac).drop, rfl⟩
 refine W_cond_f aq p ?_
 replace p := Zk p
 refine W_skip (Ze (Zc (Zc (Zd (Za rfl rfl (Zp F26_3 rfl aY rfl (Za rfl rfl (Zn (ac) A24 rfl rfl rfl (Za rfl rfl (Zr S24 rfl rfl (t.mono o) (Za rfl rfl (Zm (v := Vi (0)) rfl rfl (Zb (Ze ?_))))))))))))))
 obtain ⟨aj, aF, aT, aR, aP⟩ := ctl_some hm
 refine W_mid (M := fun f' w' => ∃ s', (aj = .next s' ∨ aj = .brk s') ∧ (fun (_ : Unit) => ∃ (a2 : PHeap) , PHeap.le x a2 ∧ St w0 a2 (H) w' ∧ f' 29 = n ∧ f' 30 = Vi ((b.Jobs.length : Int))) s') ?_ ?_
 ·refine W_block (W_forC (fun k' s' f' w' => (fun (_ : Unit) => ∃ (a3 : PHeap) , PHeap.le x a3 ∧ St w0 a3 (H) w' ∧ f' 29 = n ∧ f' 30 = Vi ((b.Jobs.length : Int)) ∧ f' 31 = Vi (k' : Int)) s') aF ?_ ?_ ?_)
  ·have aL := (ac).drop
   exact ⟨x, (Zv _), aL, rfl, rfl, rfl⟩
  ·intro ao b0 ak bs b6 aQ aG m aU
   obtain ⟨ag, ad, al, ae, af, ab⟩ := aG
   refine Zc (Zd (Za rfl rfl (Zq rfl ab af (Zb (Ze (Zc (W_true (Zx (decide_eq_true (by omega))) (W_skip (Ze (Zc (W_block (Zc (Zd ?_)))))))))))))
   obtain ⟨a, bd, m⟩ := Zg m
   refine Za rfl rfl (Exec.index_rep S24 rfl ae ab (t.mono (Zt o ad)) bd ?_)
   intro bk bw aE
   refine Za rfl rfl (Zw (E := encJob) al A52 rfl rfl rfl aE ?_)
   intro b3 be
   obtain ⟨a6, a7, a8, a9, aA, rfl, av, aw, ax, ay, az⟩ := encJob_val.1 be
   refine Za rfl rfl (Exec.alloc (cs := [Value.string (⟨#[]⟩), Vi (0), Value.slice none 0 0, Value.slice none 0 0, Value.slice none 0 0, Value.slice none 0 0, Value.slice none 0 0]) al Z52 rfl rfl ?_)
   intro bl b7 aM
   refine Za rfl rfl (Exec.store_box (ds := [Value.string (a.Name), Vi (a.Duration), a6, a7, a8, a9, aA]) (es := [Value.string (a.Name), Vi (a.Duration), a6, a7, a8, a9, aA]) aM A52 rfl rfl rfl rfl (Zj rfl (Zj rfl (Zj (av).one (Zj (aw).one (Zj (ax).one (Zj (ay).one (Zj (az).one one_nil))))))) (Nat.le_of_ble_eq_true rfl) rfl ?_)
   intro b8 j
   refine Zb (Ze (Zc (W_mid (M := fun f' w' => ∃ (a4 : PHeap) , PHeap.le ag a4 ∧ St w0 a4 (H) w' ∧ f' 29 = n ∧ f' 30 = Vi ((b.Jobs.length : Int)) ∧ f' 31 = Vi ((ao : Int)) ∧ f' 60 = Value.bool (((decide (100 < (IntKind.i64.wrap ((IntKind.i64.wrap ((IntKind.i64.wrap ((IntKind.i64.wrap ((a.Start.length : Int) + (a.Over.length : Int))) + (a.End.length : Int))) + (a.AtStart.length : Int))) + (a.AtEnd.length : Int))))) || decide (300 < (a.Name.size : Int))))) ?_ ?_)))
   ·refine Zd (Za rfl rfl (Zp F52_2 rfl rfl rfl (Za rfl rfl (Zn (j) A23 rfl rfl rfl (Za rfl rfl (Zr S23 rfl rfl av (Za rfl rfl (Zp F52_3 rfl rfl rfl (Za rfl rfl (Zn (j) A23 rfl rfl rfl (Za rfl rfl (Zr S23 rfl rfl aw (Za rfl rfl (Exec.add rfl rfl rfl (Za rfl rfl (Zp F52_4 rfl rfl rfl (Za rfl rfl (Zn (j) A23 rfl rfl rfl (Za rfl rfl (Zr S23 rfl rfl ax (Za rfl rfl (Exec.add rfl rfl rfl (Za rfl rfl (Zp F52_5 rfl rfl rfl (Za rfl rfl (Zn (j) A23 rfl rfl rfl (Za rfl rfl (Zr S23 rfl rfl ay (Za rfl rfl (Exec.add rfl rfl rfl (Za rfl rfl (Zp F52_6 rfl rfl rfl (Za rfl rfl (Zn (j) A23 rfl rfl rfl (Za rfl rfl (Zr S23 rfl rfl az (Za rfl rfl (Exec.add rfl rfl rfl (Za rfl rfl (Exec.gtr rfl rfl rfl (Za rfl rfl (Zm (v := Value.bool (decide (100 < (IntKind.i64.wrap ((IntKind.i64.wrap ((IntKind.i64.wrap ((IntKind.i64.wrap ((a.Start.length : Int) + (a.Over.length : Int))) + (a.End.length : Int))) + (a.AtStart.length : Int))) + (a.AtEnd.length : Int)))))) rfl rfl ?_))))))))))))))))))))))))))))))))))))))))))
    by_cases i : (decide (100 < (IntKind.i64.wrap ((IntKind.i64.wrap ((IntKind.i64.wrap ((IntKind.i64.wrap ((a.Start.length : Int) + (a.Over.length : Int))) + (a.End.length : Int))) + (a.AtStart.length : Int))) + (a.AtEnd.length : Int))))) = true
    ·refine WL_passes 5 (by rw [i]; rfl) ?_
     refine Zb (Ze ?_)
     exact ⟨ag, (Zv _), (j).drop, ae, af, ab, (Zx (or_t i)).symm⟩
    replace i := Zk i
    refine WL_run rfl (Zf rfl (Zx i)) rfl (Zp F52_0 rfl rfl rfl (WL_run rfl (Zf rfl (Zx i)) rfl (Zn (j) A9 rfl rfl rfl (WL_run rfl (Zf rfl (Zx i)) rfl (Exec.len_str Try.underlying9 rfl rfl (WL_run rfl (Zf rfl (Zx i)) rfl (Exec.gtr rfl rfl rfl (Za rfl rfl (Exec.pick_f (v := Value.bool (decide (300 < (a.Name.size : Int)))) rfl (Zx i) rfl (Zb (Ze ?_)))))))))))
    exact ⟨ag, (Zv _), (j).drop, ae, af, ab, (Zx (or_f i)).symm⟩
   intro bt b9 aJ
   obtain ⟨a5, ap, am, aZ, ba, bb, ar⟩ := aJ
   refine (Ze ?_)
   rcases ite_some m with ⟨q, m⟩ | ⟨q, m⟩
   ·refine W_cond_t ar q (Zc (Zd (Za rfl rfl (Zo (v := Value.bool (false)) rfl rfl (Zb (Ze (W_ret (ib_ret (at_ret (at_ret (ib_ret (at_ret (at_ret ?_)))))))))))))
    have bn := Zu m
    subst ak
    have aS := aT _ (aU (by intro _ h; cases h))
    have bo := Zu aS
    subst r
    refine ⟨_, ret1 rfl, ?_⟩
    exact ⟨a5, (Zt (Zt o ad) ap), am, rfl⟩
   refine W_cond_f ar q ?_
   replace q := Zk q
   refine W_skip (ib_normal (Ze (Zd (Za rfl rfl (Exec.add rfl bb rfl (Za rfl rfl (Zm (v := Vi (IntKind.i64.wrap ((ao : Int) + 1))) rfl rfl (Zb (Ze ?_)))))))))
   have bp := Zu m
   subst ak
   refine ⟨_, rfl, ?_⟩; exact ⟨a5, (Zt ad ap), am, aZ, ba, (Eq.trans rfl (wrap_up aQ (SliceRep.le (t.mono o))))⟩
  intro b1 bu bA aH aV
  obtain ⟨bf, aW, aN, bc, au, bh⟩ := aH
  refine Zc (Zd (Za rfl rfl (Zq rfl bh au (Zb (Ze (Zc (W_false (Zx (decide_eq_false (by omega))) (W_exit (at_exit (at_exit (ib_here (Ze ?_))))))))))))
  refine ⟨_, .inl aV, ?_⟩; exact ⟨bf, aW, aN, bc, au⟩
 rintro bv bB ⟨b2, an, aK⟩
 have hm := an.elim (aR _) (aP _)
 clear an
 obtain ⟨bg, aX, aO, bx, bz⟩ := aK
 refine (Ze (Zc (Zd (Za rfl rfl (Zo (v := Value.bool (true)) rfl rfl (Zb (Ze (W_ret ?_))))))))
 have bq := Zu hm
 subst r
 refine ⟨_, ret1 rfl, ?_⟩
 exact ⟨bg, (Zt o aX), aO, rfl⟩
theorem ZZ69 : (Try.prog.info? 69).map (·.zero) = some (some (.int .i64 0)) := by kernel_rfl
theorem base_Num_sim {w0 w : World} {s : PHeap} {H : List Res} {a : (Option Int)}  {r : Int} (hm : base_Num_p a = some r) (hS : St w0 s (H) w)  :
  Calls Try.prog 11 #[errV 69 (a)] w fun e w' => ∃ v, e = .returned v ∧ ((fun (f : Int) => ∃ (d : PHeap) , PHeap.le s d ∧ St w0 d (H) w' ∧ v = Vi (f)) r) := by
 unfold base_Num_p at hm
 refine calls_of_W Try.func11 rfl rfl (Zc (Zd (Za rfl rfl (Zo (v := Vi (0)) rfl rfl (Zb (Ze (Zc (Zc (Zd (Za rfl rfl (Zm (v := errV 69 (a)) rfl rfl (Za rfl rfl (Exec.err_eql_nil (T := 69) Try.underlying31 rfl rfl rfl (Zb (Ze ?_)))))))))))))))
 rcases ite_some hm with ⟨b, hm⟩ | ⟨b, hm⟩
 ·refine W_cond_t rfl b (Zc (Zd (Za rfl rfl (Zo (v := Vi (0)) rfl rfl (Zb (Ze (W_ret (at_ret ?_))))))))
  have g := Zu hm
  subst r
  refine ⟨_, ret1 rfl, ?_⟩
  exact ⟨s, (Zv _), hS, rfl⟩
 refine W_cond_f rfl b ?_
 replace b := Zk b
 refine W_skip (Ze (Zc (Zc (Zd (Za rfl rfl (Zm (v := errV 69 (a)) rfl rfl (Za rfl rfl (Exec.err_assert Try.underlying69 ZZ69 rfl rfl (Za rfl rfl (Zm (v := Value.tuple #[Vi (a.getD 0), Value.bool (a.isSome)]) rfl rfl (Za rfl rfl (Exec.extract (v := Vi (a.getD 0)) rfl rfl rfl (Za rfl rfl (Exec.extract (v := Value.bool (a.isSome)) rfl rfl rfl (Za rfl rfl (Zo (v := Vi (a.getD 0)) rfl rfl (Za rfl rfl (Zo (v := Value.bool (a.isSome)) rfl rfl (Zb (Ze (Zc (Zd (Za rfl rfl (Zm (v := Value.bool (a.isSome)) rfl rfl (Zb (Ze ?_))))))))))))))))))))))))))
 rcases ite_some hm with ⟨c, hm⟩ | ⟨c, hm⟩
 ·refine W_cond_t rfl c (Zc (Zd (Za rfl rfl (Zm (v := Vi (a.getD 0)) rfl rfl (Za rfl rfl (Zo (v := Vi (a.getD 0)) rfl rfl (Zb (Ze (W_ret (at_ret ?_))))))))))
  have h := Zu hm
  subst r
  refine ⟨_, ret1 rfl, ?_⟩
  exact ⟨s, (Zv _), hS, rfl⟩
 refine W_cond_f rfl c ?_
 replace c := Zk c
 refine W_skip (Ze (Zc (Zd (Za rfl rfl (Zo (v := Vi ((-1))) rfl rfl (Zb (Ze (W_ret ?_))))))))
 have i := Zu hm
 subst r
 refine ⟨_, ret1 rfl, ?_⟩
 exact ⟨s, (Zv _), hS, rfl⟩
theorem F43_1 : tyField Try.prog 43 1 = some 1 := by kernel_rfl
theorem base_Ints_sim {w0 w : World} {s : PHeap} {H : List Res} {j : (List Int)} {q : (List Int)} {b : Value} {c : Value} {r : Bool} (hm : base_Ints_p j q = some r) (hS : St w0 s (H) w) (l : SliceRep (encInt .i64) s b j) (p : SliceRep (encInt .i64) s c q) :
  Calls Try.prog 15 #[b, c] w fun e w' => ∃ v, e = .returned v ∧ ((fun (a8 : Bool) => ∃ (ac : PHeap) , PHeap.le s ac ∧ St w0 ac (H) w' ∧ v = Value.bool (a8)) r) := by
 unfold base_Ints_p at hm
 refine calls_of_W Try.func15 rfl rfl (Zc (Zd (Za rfl rfl (Zo (v := Value.bool (false)) rfl rfl (Zb (Ze (Zc (Zc (Zd (Za rfl rfl (Zm (v := b) rfl rfl (Za rfl rfl (Zr S22 rfl rfl l (Za rfl rfl (Zm (v := c) rfl rfl (Za rfl rfl (Zr S22 rfl rfl p (Za rfl rfl (Exec.neq rfl rfl rfl (Zb (Ze ?_)))))))))))))))))))))
 rcases ite_some hm with ⟨d, hm⟩ | ⟨d, hm⟩
 ·refine W_cond_t rfl d (Zc (Zd (Za rfl rfl (Zo (v := Value.bool (false)) rfl rfl (Zb (Ze (W_ret (at_ret ?_))))))))
  have aB := Zu hm
  subst r
  refine ⟨_, ret1 rfl, ?_⟩
  exact ⟨s, (Zv _), hS, rfl⟩
 refine W_cond_f rfl d ?_
 replace d := Zk d
 refine W_skip (Ze (Zc (Zc (Zd (Za rfl rfl (Zm (v := b) rfl rfl (Za rfl rfl (Zr S22 rfl rfl l (Za rfl rfl (Zm (v := Vi (0)) rfl rfl (Zb (Ze ?_))))))))))))
 obtain ⟨t, ai, au, aq, ao⟩ := ctl_some hm
 refine W_mid (M := fun f' w' => ∃ s', (t = .next s' ∨ t = .brk s') ∧ (fun (_ : Unit) => ∃ (ad : PHeap) , PHeap.le s ad ∧ St w0 ad (H) w' ∧ f' 0 = b ∧ f' 1 = c ∧ f' 12 = Vi ((j.length : Int))) s') ?_ ?_
 ·refine W_block (W_forC (fun k' s' f' w' => (fun (_ : Unit) => ∃ (ae : PHeap) , PHeap.le s ae ∧ St w0 ae (H) w' ∧ f' 0 = b ∧ f' 1 = c ∧ f' 12 = Vi ((j.length : Int)) ∧ f' 13 = Vi (k' : Int)) s') ai ?_ ?_ ?_)
  ·exact ⟨s, (Zv _), hS, rfl, rfl, rfl, rfl⟩
  ·intro i aQ u aI aV ap aj a av
   obtain ⟨af, n, m, y, z, aa, o⟩ := aj
   refine Zc (Zd (Za rfl rfl (Zq rfl o aa (Zb (Ze (Zc (W_true (Zx (decide_eq_true (by omega))) (W_skip (Ze (Zc (W_block (Zc (Zd (Za rfl rfl (Zm (v := Vi ((i : Int))) rfl o (Za rfl rfl (Zo (v := Vi ((i : Int))) rfl rfl (Zb (Ze (Zc (W_dl (n0 := 9) (qs 0 9 .done) hmix (by kernel_rfl) (by kernel_rfl) (DL_q rfl rfl (Zm (v := b) rfl y ⟨rfl, ?_⟩)))))))))))))))))))))))
   refine DL_q rfl rfl (Zm (v := Vi ((i : Int))) rfl rfl ⟨rfl, ?_⟩)
   obtain ⟨aY, a1, a⟩ := Zg a
   refine DL_q rfl rfl (Exec.index_repE S22 rfl rfl rfl (l.mono n) a1 ?_)
   intro a9 aL ag aC
   refine ⟨rfl, ?_⟩
   refine DL_q rfl rfl (Zw (E := (encInt .i64)) m.drew A3 rfl rfl rfl ag ?_)
   intro aT a2
   obtain rfl := encInt_val.1 a2
   refine ⟨rfl, ?_⟩
   refine DL_q rfl rfl (Zm (v := c) rfl z ⟨rfl, ?_⟩)
   refine DL_q rfl rfl (Zm (v := Vi ((i : Int))) rfl rfl ⟨rfl, ?_⟩)
   obtain ⟨aZ, a3, a⟩ := Zg a
   refine DL_q rfl rfl (Exec.index_repE S22 rfl rfl rfl (p.mono n) a3 ?_)
   intro aA aM ah aD
   refine ⟨rfl, ?_⟩
   refine DL_q rfl rfl (Zw (E := (encInt .i64)) m.drew A3 rfl rfl rfl ah ?_)
   intro aU a4
   obtain rfl := encInt_val.1 a4
   refine ⟨rfl, ?_⟩
   refine DL_q rfl rfl (Exec.neq rfl rfl rfl ⟨rfl, ?_⟩)
   refine DL_done (Zb (Ze ?_))
   rcases ite_some a with ⟨g, a⟩ | ⟨g, a⟩
   ·refine W_cond_t rfl g (Zc (Zd (Za rfl rfl (Zo (v := Value.bool (false)) rfl rfl (Zb (Ze (W_ret (ib_ret (at_ret (at_ret (ib_ret (at_ret (at_ret ?_)))))))))))))
    have aE := Zu a
    subst u
    have ar := au _ (av (by intro _ h; cases h))
    have aF := Zu ar
    subst r
    refine ⟨_, ret1 rfl, ?_⟩
    exact ⟨af, n, m.drew, rfl⟩
   refine W_cond_f rfl g ?_
   replace g := Zk g
   refine W_skip (ib_normal (Ze (Zd (Za rfl rfl (Exec.add rfl o rfl (Za rfl rfl (Zm (v := Vi (IntKind.i64.wrap ((i : Int) + 1))) rfl rfl (Zb (Ze ?_)))))))))
   have aG := Zu a
   subst u
   refine ⟨_, rfl, ?_⟩; exact ⟨af, n, m.drew, y, z, aa, (Eq.trans rfl (wrap_up ap (SliceRep.le l)))⟩
  intro aR aJ aW ak aw
  obtain ⟨a5, ax, am, az, a0, ab, a7⟩ := ak
  refine Zc (Zd (Za rfl rfl (Zq rfl a7 ab (Zb (Ze (Zc (W_false (Zx (decide_eq_false (by omega))) (W_exit (at_exit (at_exit (ib_here (Ze ?_))))))))))))
  refine ⟨_, .inl aw, ?_⟩; exact ⟨a5, ax, am, az, a0, ab⟩
 rintro aK aX ⟨aS, x, al⟩
 have hm := x.elim (aq _) (ao _)
 clear x
 obtain ⟨a6, ay, an, aN, aO, aP⟩ := al
 refine (Ze (Zc (Zd (Za rfl rfl (Zo (v := Value.bool (true)) rfl rfl (Zb (Ze (W_ret ?_))))))))
 have aH := Zu hm
 subst r
 refine ⟨_, ret1 rfl, ?_⟩
 exact ⟨a6, ay, an, rfl⟩
theorem ref58_Same_sim {w0 w : World} {s : PHeap} {H : List Res} {j : (List (List Int))} {t : (List (List Int))} {b : Value} {c : Value} {r : Bool} (hm : ref58_Same_p j t = some r) (hS : St w0 s (H) w) (l : SliceRep (encSlice (encInt .i64)) s b j) (p : SliceRep (encSlice (encInt .i64)) s c t) :
  Calls Try.prog 12 #[b, c] w fun e w' => ∃ v, e = .returned v ∧ ((fun (aE : Bool) => ∃ (af : PHeap) , PHeap.le s af ∧ St w0 af (H) w' ∧ v = Value.bool (aE)) r) := by
 unfold ref58_Same_p at hm
 refine calls_of_W Try.func12 rfl rfl (Zc (Zd (Za rfl rfl (Zo (v := Value.bool (false)) rfl rfl (Zb (Ze (Zc (Zc (Zd (Za rfl rfl (Zm (v := b) rfl rfl (Za rfl rfl (Zr S35 rfl rfl l (Za rfl rfl (Zm (v := c) rfl rfl (Za rfl rfl (Zr S35 rfl rfl p (Za rfl rfl (Exec.neq rfl rfl rfl (Zb (Ze ?_)))))))))))))))))))))
 rcases ite_some hm with ⟨d, hm⟩ | ⟨d, hm⟩
 ·refine W_cond_t rfl d (Zc (Zd (Za rfl rfl (Zo (v := Value.bool (false)) rfl rfl (Zb (Ze (W_ret (at_ret ?_))))))))
  have aH := Zu hm
  subst r
  refine ⟨_, ret1 rfl, ?_⟩
  exact ⟨s, (Zv _), hS, rfl⟩
 refine W_cond_f rfl d ?_
 replace d := Zk d
 refine W_skip (Ze (Zc (Zc (Zd (Za rfl rfl (Zm (v := b) rfl rfl (Za rfl rfl (Zr S35 rfl rfl l (Za rfl rfl (Zm (v := Vi (0)) rfl rfl (Zb (Ze ?_))))))))))))
 obtain ⟨u, al, ax, av, ar⟩ := ctl_some hm
 refine W_mid (M := fun f' w' => ∃ s', (u = .next s' ∨ u = .brk s') ∧ (fun (_ : Unit) => ∃ (ag : PHeap) , PHeap.le s ag ∧ St w0 ag (H) w' ∧ f' 0 = b ∧ f' 1 = c ∧ f' 12 = Vi ((j.length : Int))) s') ?_ ?_
 ·refine W_block (W_forC (fun k' s' f' w' => (fun (_ : Unit) => ∃ (ah : PHeap) , PHeap.le s ah ∧ St w0 ah (H) w' ∧ f' 0 = b ∧ f' 1 = c ∧ f' 12 = Vi ((j.length : Int)) ∧ f' 13 = Vi (k' : Int)) s') al ?_ ?_ ?_)
  ·exact ⟨s, (Zv _), hS, rfl, rfl, rfl, rfl⟩
  ·intro i aX x aO bc au am a ay
   obtain ⟨aW, m, n, ab, ac, ad, o⟩ := am
   refine Zc (Zd (Za rfl rfl (Zq rfl o ad (Zb (Ze (Zc (W_true (Zx (decide_eq_true (by omega))) (W_skip (Ze (Zc (W_block (Zc (Zd (Za rfl rfl (Zm (v := Vi ((i : Int))) rfl o (Za rfl rfl (Zo (v := Vi ((i : Int))) rfl rfl (Zb (Ze (Zc (W_dl (n0 := 10) (qs 0 8 (.e 8 [] (.q 9 .done))) hmix (by kernel_rfl) (by kernel_rfl) (DL_q rfl rfl (Zm (v := b) rfl ab ⟨rfl, ?_⟩)))))))))))))))))))))))
   refine DL_q rfl rfl (Zm (v := Vi ((i : Int))) rfl rfl ⟨rfl, ?_⟩)
   obtain ⟨bg, a4, a⟩ := Zg a
   refine DL_q rfl rfl (Exec.index_repE S35 rfl rfl rfl (l.mono m) a4 ?_)
   intro aF aR aj aI
   refine ⟨rfl, ?_⟩
   refine DL_q rfl rfl (Zw (E := (encSlice (encInt .i64))) n.drew A22 rfl rfl rfl aj ?_)
   intro ba a5
   have a9 := encSlice_val.1 a5
   refine ⟨rfl, ?_⟩
   refine DL_q rfl rfl (Zm (v := c) rfl ac ⟨rfl, ?_⟩)
   refine DL_q rfl rfl (Zm (v := Vi ((i : Int))) rfl rfl ⟨rfl, ?_⟩)
   obtain ⟨bh, a6, a⟩ := Zg a
   refine DL_q rfl rfl (Exec.index_repE S35 rfl rfl rfl (p.mono m) a6 ?_)
   intro aG aS ak aJ
   refine ⟨rfl, ?_⟩
   refine DL_q rfl rfl (Zw (E := (encSlice (encInt .i64))) n.drew A22 rfl rfl rfl ak ?_)
   intro bb a7
   have aA := encSlice_val.1 a7
   refine ⟨rfl, ?_⟩
   obtain ⟨bi, a8, a⟩ := Zg a
   refine DL_e rfl rfl (Tc rfl rfl rfl (Zi rfl (Zi rfl args_nil)) (base_Ints_sim a8 n.drew a9 aA).r ?_)
   rintro _ bd ⟨ai, aa, y, rfl⟩
   refine ⟨ag_nil, ?_⟩
   refine DL_q rfl rfl (Exec.not rfl rfl ⟨rfl, ?_⟩)
   refine DL_done (Zb (Ze ?_))
   rcases ite_some a with ⟨g, a⟩ | ⟨g, a⟩
   ·refine W_cond_t rfl g (Zc (Zd (Za rfl rfl (Zo (v := Value.bool (false)) rfl rfl (Zb (Ze (W_ret (ib_ret (at_ret (at_ret (ib_ret (at_ret (at_ret ?_)))))))))))))
    have aK := Zu a
    subst x
    have aw := ax _ (ay (by intro _ h; cases h))
    have aL := Zu aw
    subst r
    refine ⟨_, ret1 rfl, ?_⟩
    exact ⟨ai, (Zt m aa), y, rfl⟩
   refine W_cond_f rfl g ?_
   replace g := Zk g
   refine W_skip (ib_normal (Ze (Zd (Za rfl rfl (Exec.add rfl o rfl (Za rfl rfl (Zm (v := Vi (IntKind.i64.wrap ((i : Int) + 1))) rfl rfl (Zb (Ze ?_)))))))))
   have aM := Zu a
   subst x
   refine ⟨_, rfl, ?_⟩; exact ⟨ai, (Zt m aa), y, ab, ac, ad, (Eq.trans rfl (wrap_up au (SliceRep.le l)))⟩
  intro aY aP be an az
  obtain ⟨aB, a0, ap, a2, a3, ae, aD⟩ := an
  refine Zc (Zd (Za rfl rfl (Zq rfl aD ae (Zb (Ze (Zc (W_false (Zx (decide_eq_false (by omega))) (W_exit (at_exit (at_exit (ib_here (Ze ?_))))))))))))
  refine ⟨_, .inl az, ?_⟩; exact ⟨aB, a0, ap, a2, a3, ae⟩
 rintro aQ bf ⟨aZ, z, ao⟩
 have hm := z.elim (av _) (ar _)
 clear z
 obtain ⟨aC, a1, aq, aT, aU, aV⟩ := ao
 refine (Ze (Zc (Zd (Za rfl rfl (Zo (v := Value.bool (true)) rfl rfl (Zb (Ze (W_ret ?_))))))))
 have aN := Zu hm
 subst r
 refine ⟨_, ret1 rfl, ?_⟩
 exact ⟨aC, a1, aq, rfl⟩
theorem F43_0 : tyField Try.prog 43 0 = some 0 := by kernel_rfl
theorem law58_SimulateOrder_sim {w0 w : World} {s : PHeap} {H : List Res} {fu : Nat} {aP : Temporal} {bi : (List Launch)} {ar : Value} {au : Value} {av : Value} {aw : Value} {ax : Value} {r : Bool} (hm : law58_SimulateOrder_p fu aP bi = some r) (hS : St w0 s (H) w) (bc : SliceRep (encInt .i64) s ar aP.Vars) (bd : SliceRep (encInt .i64) s au aP.Init) (be : SliceRep encFact s av aP.Goal) (bf : SliceRep encJob s aw aP.Jobs) (a6 : SliceRep encLaunch s ax bi) :
  Calls Try.prog 4 #[Value.agg #[ar, au, av, aw], ax] w fun e w' => ∃ v, e = .returned v ∧ ((fun (fb : Bool) => ∃ (cu : PHeap) , PHeap.le s cu ∧ St w0 cu (H) w' ∧ v = Value.bool (fb)) r) := by
 unfold law58_SimulateOrder_p at hm
 refine calls_of_W Try.func4 rfl rfl (Zc (Zd (Za rfl rfl (Exec.box (cs := [ar, au, av, aw]) hS rfl rfl rfl ?_))))
 intro aT gn cU
 refine Za rfl rfl (Zo (v := Value.bool (false)) rfl rfl (Zb (Ze (Zc (Zc ?_)))))
 obtain ⟨aR, ak, hm⟩ := Zg hm
 refine W_mid (M := fun f' w' => (fun (aR : Bool) => ∃ (cv : PHeap) , PHeap.le s cv ∧ St w0 cv (Res.box aT 26 [ar, au, av, aw] :: H) w' ∧ f' 1 = ax ∧ f' 2 = Value.pointer (some ⟨aT, 0, none⟩) ∧ f' 26 = Value.bool (aR)) aR) ?_ ?_
 ·refine Zd ?_
  obtain ⟨fc, ew, ak⟩ := Zg ak
  refine Za rfl rfl (Tc rfl rfl rfl args_nil (law58_awake_sim ew cU ).r ?_)
  rintro _ go ⟨eF, a0, bh, rfl⟩
  refine Za rfl rfl (Exec.not rfl rfl (Za rfl rfl (Zm (v := Value.bool (!fc)) rfl rfl ?_)))
  rcases ite_some ak with ⟨aj, ak⟩ | ⟨aj, ak⟩
  ·refine WL_passes 5 (by rw [aj]; rfl) ?_
   refine Zb (Ze ?_)
   have fn := Zu ak
   subst aR
   exact ⟨eF, a0, bh, rfl, rfl, rfl⟩
  replace aj := Zk aj
  refine WL_run rfl (Zf rfl (Zx aj)) rfl (Exec.load_box_agg (ds := [ar, au, av, aw]) (bh) A26 rfl rfl rfl (WL_run rfl (Zf rfl (Zx aj)) rfl (Zm (v := ax) rfl rfl ?_)))
  obtain ⟨fd, ex, ak⟩ := Zg ak
  refine WL_run rfl (Zf rfl (Zx aj)) rfl (Tc rfl rfl rfl (Zi rfl (Zi rfl args_nil)) (law58_few_sim ex bh (bc.mono a0) (bd.mono a0) (be.mono a0) (bf.mono a0) (a6.mono a0)).r ?_)
  rintro _ gp ⟨eG, d5, cV, rfl⟩
  refine WL_run rfl (Zf rfl (Zx aj)) rfl (Exec.not rfl rfl (Za rfl rfl (Exec.pick_f (v := Value.bool (!fd)) rfl (Zx aj) rfl (Zb (Ze ?_)))))
  have fo := Zu ak
  subst aR
  exact ⟨eG, (Zt a0 d5), cV, rfl, rfl, rfl⟩
 intro fD gq cN
 obtain ⟨cw, g, b7, bL, dE, bM⟩ := cN
 refine (Ze ?_)
 rcases ite_some hm with ⟨a8, hm⟩ | ⟨a8, hm⟩
 ·refine W_cond_t bM a8 (Zc (Zd ?_))
  obtain ⟨fe, ey, hm⟩ := Zg hm
  refine Za rfl rfl (Tc rfl rfl rfl args_nil (law58_awake_sim ey b7 ).r ?_)
  rintro _ gr ⟨eH, d6, cW, rfl⟩
  refine Za rfl rfl (Zo (v := Value.bool (fe)) rfl rfl (Zb (Ze (W_ret (at_ret ?_)))))
  have fp := Zu hm
  subst r
  refine ⟨_, ret1 rfl, ?_⟩
  exact ⟨eH, (Zt g d6), (cW).drop, rfl⟩
 refine W_cond_f bM a8 ?_
 replace a8 := Zk a8
 refine W_skip (Ze (Zc (Zd (Za rfl rfl (Zo (v := Value.slice none 0 0) rfl rfl (Zb (Ze (Zc (Zc (Zd (Za rfl rfl (Zm (v := ax) rfl bL (Za rfl rfl (Zr S27 rfl rfl (a6.mono g) (Za rfl rfl (Zm (v := Vi (0)) rfl rfl (Zb (Ze ?_))))))))))))))))))
 obtain ⟨bg, cE, hm⟩ := Zg hm
 refine W_block (W_forS (fun k' s' f' w' => (fun (bg : (List Launch)) => ∃ (cx : PHeap) (a4 : Value), PHeap.le cw cx ∧ St w0 cx (Res.box aT 26 [ar, au, av, aw] :: Res.arr encLaunch 45 a4 bg :: H) w' ∧ f' 1 = ax ∧ f' 2 = Value.pointer (some ⟨aT, 0, none⟩) ∧ f' 5 = a4 ∧ f' 28 = ax ∧ f' 29 = Vi ((bi.length : Int)) ∧ f' 30 = Vi (k' : Int)) s') cE ?_ ?_ ?_)
 ·have cX := b7.nilArr encLaunch 45
  exact ⟨cw, (Value.slice none 0 0), (Zv _), (cX).f1, bL, dE, rfl, rfl, rfl, rfl⟩
 ·intro d4 bg eI fE gs dw cH aE
  obtain ⟨eJ, a4, bI, b8, dF, dG, dH, bN, bO, b2⟩ := cH
  refine Zc (Zd (Za rfl rfl (Zq rfl b2 bO (Zb (Ze (Zc (W_true (Zx (decide_eq_true (by omega))) (W_skip (Ze (Zc (W_block (Zc (Zd ?_)))))))))))))
  obtain ⟨m, ez, aE⟩ := Zg aE
  refine Za rfl rfl (Exec.index_rep S27 rfl bN b2 (a6.mono (Zt g bI)) ez ?_)
  intro fg fS c9
  refine Za rfl rfl (Zw (E := encLaunch) b8 A45 rfl rfl rfl c9 ?_)
  intro gk e0
  obtain rfl := encLaunch_val.1 e0
  refine Za rfl rfl (Exec.alloc (cs := [Vi (0), Vi (0)]) b8 Z45 rfl rfl ?_)
  intro fh gu cY
  refine Za rfl rfl (Exec.store_box (ds := [Vi (m.At), Vi (m.Job)]) (es := [Vi (m.At), Vi (m.Job)]) cY A45 rfl rfl rfl rfl (Zj rfl (Zj rfl one_nil)) (Nat.le_of_ble_eq_true rfl) rfl ?_)
  intro gv b9
  refine Zb (Ze (Zd (Za rfl rfl (Exec.load_box_agg (ds := [Vi (m.At), Vi (m.Job)]) (b9) A45 rfl rfl rfl (Za rfl rfl (Exec.buildSlice (Te := 45) (cs := [Vi (m.At), Vi (m.Job)]) b9 rfl (parts_cons (c := [Vi (m.At), Vi (m.Job)]) (cells_of rfl rfl) parts_nil) (fun _ => by kernel_rfl) ?_))))))
  intro fi gw cZ
  refine Za rfl rfl (Zm (v := a4) rfl dH ?_)
  have da := St.boxArr (E := encLaunch) (xs := [m]) cZ ⟨[Vi (m.At), Vi (m.Job)], [], rfl, ⟨[Vi (m.At)], [Vi (m.Job)], rfl, rfl, rfl⟩, rfl⟩ (by simp [maxLen])
  obtain ⟨fR, e1, aE⟩ := Zg aE
  refine Za rfl rfl (Exec.append_arr (E := encLaunch) ((da).f3).f1 S27 Z45 rfl (by decide) rfl rfl rfl e1 ?_)
  intro c7 gx db
  refine Za rfl rfl (Zo (v := c7) rfl rfl (Zb (ib_normal (Ze (Zd (Za rfl rfl (Exec.add rfl b2 rfl (Za rfl rfl (Zm (v := Vi (IntKind.i64.wrap ((d4 : Int) + 1))) rfl rfl (Zb (Ze ?_)))))))))))
  have fq := Zu aE
  subst eI
  exact ⟨eJ, c7, bI, (((((db).f1).drop).f1).drop).f1, dF, dG, rfl, bN, bO, (Eq.trans rfl (wrap_up dw (SliceRep.le (a6.mono g))))⟩
 intro fF gy cI
 obtain ⟨gg, a4, o, bA, dI, bP, dJ, fX, dK, eY⟩ := cI
 refine Zc (Zd (Za rfl rfl (Zq rfl eY dK (Zb (Ze (Zc (W_false (Zx (decide_eq_false (by omega))) (W_exit (at_exit (at_exit (ib_here (Ze (Zc (Zd (Za rfl rfl (Exec.load_box_agg (ds := [ar, au, av, aw]) (bA) A26 rfl bP rfl (Za rfl rfl (Zm (v := ax) rfl dI ?_))))))))))))))))))
 obtain ⟨eR, e2, hm⟩ := Zg hm
 obtain ⟨af, b⟩ := eR
 replace hm := un2_eq hm
 refine Za rfl rfl (Tc rfl rfl rfl (Zi rfl (Zi rfl args_nil)) (simulate_Run_sim e2 bA (bc.mono (Zt g o)) (bd.mono (Zt g o)) (be.mono (Zt g o)) (bf.mono (Zt g o)) (a6.mono (Zt g o))).r ?_)
 rintro _ gz ⟨gh, y, z, d, ao, dc, rfl, eB, cq, aM⟩
 refine Za rfl rfl (Zm (v := Value.tuple #[Value.agg #[y, z, d, Vi (b.Makespan)], errV 69 (af)]) rfl rfl (Za rfl rfl (Exec.extract (v := Value.agg #[y, z, d, Vi (b.Makespan)]) rfl rfl rfl (Za rfl rfl (Exec.extract (v := errV 69 (af)) rfl rfl rfl (Za rfl rfl (Exec.alloc (cs := [Value.slice none 0 0, Value.slice none 0 0, Value.slice none 0 0, Vi (0)]) dc Z38 rfl rfl ?_)))))))
 intro i g0 dd
 refine Za rfl rfl (Exec.store_box (ds := [y, z, d, Vi (b.Makespan)]) (es := [y, z, d, Vi (b.Makespan)]) dd A38 rfl rfl rfl rfl (Zj (eB).one (Zj (cq).one (Zj (aM).one (Zj rfl one_nil)))) (Nat.le_of_ble_eq_true rfl) rfl ?_)
 intro g1 bB
 refine Za rfl rfl (Zo (v := errV 69 (af)) rfl rfl (Zb (Ze (Zc (Zd (Za rfl rfl (Exec.load_box_agg (ds := [ar, au, av, aw]) ((bB).f1) A26 rfl bP rfl (Za rfl rfl (Zm (v := a4) rfl dJ ?_)))))))))
 obtain ⟨gi, p, de, eC⟩ := (bB).f2.freezeArr
 obtain ⟨eS, e3, hm⟩ := Zg hm
 obtain ⟨ah, u⟩ := eS
 replace hm := un2_eq hm
 refine Za rfl rfl (Tc rfl rfl rfl (Zi rfl (Zi rfl args_nil)) (simulate_Run_sim e3 de (bc.mono (Zt (Zt (Zt g o) ao) p)) (bd.mono (Zt (Zt (Zt g o) ao) p)) (be.mono (Zt (Zt (Zt g o) ao) p)) (bf.mono (Zt (Zt (Zt g o) ao) p)) eC).r ?_)
 rintro _ g2 ⟨bu, aa, ab, ac, al, df, rfl, eD, cr, aZ⟩
 refine Za rfl rfl (Zm (v := Value.tuple #[Value.agg #[aa, ab, ac, Vi (u.Makespan)], errV 69 (ah)]) rfl rfl (Za rfl rfl (Exec.extract (v := Value.agg #[aa, ab, ac, Vi (u.Makespan)]) rfl rfl rfl (Za rfl rfl (Exec.extract (v := errV 69 (ah)) rfl rfl rfl (Za rfl rfl (Exec.alloc (cs := [Value.slice none 0 0, Value.slice none 0 0, Value.slice none 0 0, Vi (0)]) df Z38 rfl rfl ?_)))))))
 intro j g3 dg
 refine Za rfl rfl (Exec.store_box (ds := [aa, ab, ac, Vi (u.Makespan)]) (es := [aa, ab, ac, Vi (u.Makespan)]) dg A38 rfl rfl rfl rfl (Zj (eD).one (Zj (cr).one (Zj (aZ).one (Zj rfl one_nil)))) (Nat.le_of_ble_eq_true rfl) rfl ?_)
 intro g4 bC
 refine Za rfl rfl (Zo (v := errV 69 (ah)) rfl rfl (Zb (Ze (Zc (Zc (W_mid (M := fun f' w' => ∃ (cy : PHeap) , PHeap.le bu cy ∧ St w0 cy (Res.box i 38 [y, z, d, Vi (b.Makespan)] :: Res.box j 38 [aa, ab, ac, Vi (u.Makespan)] :: H) w' ∧ f' 8 = Value.pointer (some ⟨i, 0, none⟩) ∧ f' 9 = errV 69 (af) ∧ f' 10 = Value.pointer (some ⟨j, 0, none⟩) ∧ f' 11 = errV 69 (ah) ∧ f' 56 = Value.bool ((af.isSome || ah.isSome))) ?_ ?_))))))
 ·refine Zd (Za rfl rfl (Zm (v := errV 69 (af)) rfl rfl (Za rfl rfl (Exec.err_neq_nil (T := 69) Try.underlying31 rfl rfl rfl (Za rfl rfl (Zm (v := Value.bool (af.isSome)) rfl rfl ?_))))))
  by_cases am : af.isSome = true
  ·refine WL_passes 3 (by rw [am]; rfl) ?_
   refine Zb (Ze ?_)
   exact ⟨bu, (Zv _), (((bC).f2).drop).f1, rfl, rfl, rfl, rfl, (Zx (or_t am)).symm⟩
  replace am := Zk am
  refine WL_run rfl (Zf rfl (Zx am)) rfl (Zm (v := errV 69 (ah)) rfl rfl (WL_run rfl (Zf rfl (Zx am)) rfl (Exec.err_neq_nil (T := 69) Try.underlying31 rfl rfl rfl (Za rfl rfl (Exec.pick_f (v := Value.bool (ah.isSome)) rfl (Zx am) rfl (Zb (Ze ?_)))))))
  exact ⟨bu, (Zv _), (((bC).f2).drop).f1, rfl, rfl, rfl, rfl, (Zx (or_f am)).symm⟩
 intro fG g5 cO
 obtain ⟨cz, q, ay, aV, dL, aW, dM, bQ⟩ := cO
 refine (Ze ?_)
 rcases ite_some hm with ⟨a9, hm⟩ | ⟨a9, hm⟩
 ·refine W_cond_t bQ a9 (Zc (Zd (Za rfl rfl (Zm (v := errV 69 (af)) rfl dL (Za rfl rfl (Tc rfl rfl rfl (Zi rfl args_nil) (base_Num_sim (base_Num_tot af) ay ).r ?_))))))
  rintro _ g6 ⟨gj, d7, dh, rfl⟩
  refine Za rfl rfl (Zm (v := errV 69 (ah)) rfl dM (Za rfl rfl (Tc rfl rfl rfl (Zi rfl args_nil) (base_Num_sim (base_Num_tot ah) dh ).r ?_)))
  rintro _ g7 ⟨eK, d8, di, rfl⟩
  refine Za rfl rfl (Exec.eql rfl rfl rfl (Za rfl rfl (Zo (v := Value.bool (decide ((base_Num_t af) = (base_Num_t ah)))) rfl rfl (Zb (Ze (W_ret (at_ret ?_)))))))
  have fr := Zu hm
  subst r
  refine ⟨_, ret1 rfl, ?_⟩
  exact ⟨eK, (Zt (Zt (Zt (Zt (Zt (Zt (Zt g o) ao) p) al) q) d7) d8), ((di).drop).drop, rfl⟩
 refine W_cond_f bQ a9 ?_
 replace a9 := Zk a9
 refine W_skip (Ze (Zc (Zc ?_)))
 obtain ⟨aS, az, hm⟩ := Zg hm
 refine W_mid (M := fun f' w' => (fun (aS : Bool) => ∃ (c0 : PHeap) , PHeap.le cz c0 ∧ St w0 c0 (Res.box i 38 [y, z, d, Vi (b.Makespan)] :: Res.box j 38 [aa, ab, ac, Vi (u.Makespan)] :: H) w' ∧ f' 8 = Value.pointer (some ⟨i, 0, none⟩) ∧ f' 10 = Value.pointer (some ⟨j, 0, none⟩) ∧ f' 76 = Value.bool (aS)) aS) ?_ ?_
 ·refine Zd (Za rfl rfl (Zp F38_2 rfl aV rfl (Za rfl rfl (Zn (ay) A36 rfl rfl rfl (Za rfl rfl (Zr S36 rfl rfl (aM.mono (Zt (Zt p al) q)) (Za rfl rfl (Zp F38_2 rfl aW rfl (Za rfl rfl (Zn ((ay).f1) A36 rfl rfl rfl (Za rfl rfl (Zr S36 rfl rfl (aZ.mono q) (Za rfl rfl (Exec.neq rfl rfl rfl (Za rfl rfl (Zm (v := Value.bool (!decide ((b.Problems.length : Int) = (u.Problems.length : Int)))) rfl rfl ?_))))))))))))))))
  rcases ite_some az with ⟨ad, az⟩ | ⟨ad, az⟩
  ·refine WL_passes 7 (by rw [ad]; rfl) ?_
   refine Zb (Ze ?_)
   have fs := Zu az
   subst aS
   exact ⟨cz, (Zv _), ((ay).f1).f1, aV, aW, rfl⟩
  replace ad := Zk ad
  refine WL_run rfl (Zf rfl (Zx ad)) rfl (Zp F38_1 rfl aV rfl (WL_run rfl (Zf rfl (Zx ad)) rfl (Zn (ay) A35 rfl rfl rfl (WL_run rfl (Zf rfl (Zx ad)) rfl (Zp F38_1 rfl aW rfl (WL_run rfl (Zf rfl (Zx ad)) rfl (Zn ((ay).f1) A35 rfl rfl rfl ?_)))))))
  obtain ⟨ff, e4, az⟩ := Zg az
  refine WL_run rfl (Zf rfl (Zx ad)) rfl (Tc rfl rfl rfl (Zi rfl (Zi rfl args_nil)) (ref58_Same_sim e4 ay (cq.mono (Zt (Zt p al) q)) (cr.mono q)).r ?_)
  rintro _ g8 ⟨eL, d9, dj, rfl⟩
  refine WL_run rfl (Zf rfl (Zx ad)) rfl (Exec.not rfl rfl (Za rfl rfl (Exec.pick_f (v := Value.bool (!ff)) rfl (Zx ad) rfl (Zb (Ze ?_)))))
  have ft := Zu az
  subst aS
  exact ⟨eL, d9, ((dj).f1).f1, aV, aW, rfl⟩
 intro fH g9 cP
 obtain ⟨bv, ap, bD, bR, dN, bS⟩ := cP
 refine (Ze ?_)
 rcases ite_some hm with ⟨aA, hm⟩ | ⟨aA, hm⟩
 ·refine W_cond_t bS aA (Zc (Zd (Za rfl rfl (Zo (v := Value.bool (false)) rfl rfl (Zb (Ze (W_ret (at_ret ?_))))))))
  have fv := Zu hm
  subst r
  refine ⟨_, ret1 rfl, ?_⟩
  exact ⟨bv, (Zt (Zt (Zt (Zt (Zt (Zt g o) ao) p) al) q) ap), ((bD).drop).drop, rfl⟩
 refine W_cond_f bS aA ?_
 replace aA := Zk aA
 refine W_skip (Ze (Zc (Zd (Za rfl rfl (Exec.buildSlice (Te := 3) (cs := [Vi (18), Vi (17), Vi (12), Vi (16), Vi (13)]) bD rfl (parts_cons (c := [Vi (18)]) (cells_of rfl rfl) (parts_cons (c := [Vi (17)]) (cells_of rfl rfl) (parts_cons (c := [Vi (12)]) (cells_of rfl rfl) (parts_cons (c := [Vi (16)]) (cells_of rfl rfl) (parts_cons (c := [Vi (13)]) (cells_of rfl rfl) parts_nil))))) (fun _ => by kernel_rfl) ?_)))))
 intro b4 gA bE
 refine Za rfl rfl (Zo (v := Value.slice (some ⟨b4, 0, none⟩) 5 5) rfl rfl (Zb (Ze (Zc (Zd (Za rfl rfl (Zo (v := Vi (0)) rfl rfl (Zb (Ze (Zc (Zc (Zd (Za rfl rfl (Zp F38_2 rfl bR rfl (Za rfl rfl (Zn ((bE).f1) A36 rfl rfl rfl (Za rfl rfl (Zr S36 rfl rfl (aM.mono (Zt (Zt (Zt p al) q) ap)) (Za rfl rfl (Zm (v := Vi (0)) rfl rfl (Zb (Ze ?_))))))))))))))))))))))
 obtain ⟨b5, cF, d1, dz, dv⟩ := ctl_some hm
 refine W_mid (M := fun f' w' => ∃ s', (b5 = .next s' ∨ b5 = .brk s') ∧ (un2 fun (ct : (List Int)) (bK : Int) => ∃ (bw : PHeap) (b1 : Value), PHeap.le bv bw ∧ St w0 bw (Res.box i 38 [y, z, d, Vi (b.Makespan)] :: Res.box j 38 [aa, ab, ac, Vi (u.Makespan)] :: H) w' ∧ f' 8 = Value.pointer (some ⟨i, 0, none⟩) ∧ f' 10 = Value.pointer (some ⟨j, 0, none⟩) ∧ f' 12 = b1 ∧ f' 13 = Vi (bK) ∧ f' 79 = d ∧ f' 80 = Vi ((b.Problems.length : Int)) ∧ SliceRep (encInt .i64) bw b1 ct) s') ?_ ?_
 ·refine W_block (W_forC (fun k' s' f' w' => (un2 fun (aO : (List Int)) (aq : Int) => ∃ (bx : PHeap) (t : Value), PHeap.le bv bx ∧ St w0 bx (Res.box i 38 [y, z, d, Vi (b.Makespan)] :: Res.box j 38 [aa, ab, ac, Vi (u.Makespan)] :: H) w' ∧ f' 8 = Value.pointer (some ⟨i, 0, none⟩) ∧ f' 10 = Value.pointer (some ⟨j, 0, none⟩) ∧ f' 12 = t ∧ f' 13 = Vi (aq) ∧ f' 79 = d ∧ f' 80 = Vi ((b.Problems.length : Int)) ∧ f' 81 = Vi (k' : Int) ∧ SliceRep (encInt .i64) bx t aO) s') cF ?_ ?_ ?_)
  ·have dk := St.boxArr (E := (encInt .i64)) (xs := [18, 17, 12, 16, 13]) bE ⟨[Vi (18)], [Vi (17), Vi (12), Vi (16), Vi (13)], rfl, rfl, ⟨[Vi (17)], [Vi (12), Vi (16), Vi (13)], rfl, rfl, ⟨[Vi (12)], [Vi (16), Vi (13)], rfl, rfl, ⟨[Vi (16)], [Vi (13)], rfl, rfl, ⟨[Vi (13)], [], rfl, rfl, rfl⟩⟩⟩⟩⟩ (by simp [maxLen])
   obtain ⟨eM, dA, dl, eE⟩ := dk.freezeArr
   exact ⟨eM, (Value.slice (some ⟨b4, 0, none⟩) 5 5), dA, ((dl).f1).f1, bR, dN, rfl, rfl, rfl, rfl, rfl, eE⟩
  ·intro x eT b6 fI gB dx cJ l d2
   obtain ⟨aO, aq⟩ := eT
   replace l := un2_eq l
   obtain ⟨c1, t, aI, bF, dO, dP, bT, dQ, bU, bV, bb, a2⟩ := cJ
   refine Zc (Zd (Za rfl rfl (Zq rfl bb bV (Zb (Ze (Zc (W_true (Zx (decide_eq_true (by omega))) (W_skip (Ze (Zc (W_block (Zc (Zd (Za rfl rfl (Zm (v := Vi ((x : Int))) rfl bb ?_)))))))))))))))
   obtain ⟨a, e5, l⟩ := Zg l
   refine Za rfl rfl (Exec.index_rep S36 rfl bU bb (aM.mono (Zt (Zt (Zt (Zt p al) q) ap) aI)) e5 ?_)
   intro fj fT cA
   refine Za rfl rfl (Zw (E := encsimulate_Problem) bF A43 rfl rfl rfl cA ?_)
   intro gl e6
   obtain rfl := encsimulate_Problem_val.1 e6
   refine Za rfl rfl (Exec.alloc (cs := [Vi (0), Vi (0), Vi (0), Vi (0), Vi (0)]) bF Z43 rfl rfl ?_)
   intro a1 gC dm
   refine Za rfl rfl (Zo (v := Vi ((x : Int))) rfl rfl (Za rfl rfl (Exec.store_box (ds := [Vi (a.At), Vi (a.Kind), Vi (a.Launch), Vi (a.Other), Vi (a.Var)]) (es := [Vi (a.At), Vi (a.Kind), Vi (a.Launch), Vi (a.Other), Vi (a.Var)]) dm A43 rfl rfl rfl rfl (Zj rfl (Zj rfl (Zj rfl (Zj rfl (Zj rfl one_nil))))) (Nat.le_of_ble_eq_true rfl) rfl ?_)))
   intro gD dn
   refine Zb (Ze (Zc (Zd (Za rfl rfl (Zo (v := Vi (0)) rfl rfl (Zb (Ze (Zc (Zc (Zd (Za rfl rfl (Zm (v := t) rfl bT (Za rfl rfl (Zr S22 rfl rfl a2 (Za rfl rfl (Zm (v := Vi (0)) rfl rfl (Zb (Ze ?_))))))))))))))))))
   obtain ⟨bt, cG, l⟩ := Zg l
   refine W_block (W_forS (fun k' s' f' w' => (fun (bt : Int) => ∃ (c2 : PHeap) , PHeap.le c1 c2 ∧ St w0 c2 (Res.box i 38 [y, z, d, Vi (b.Makespan)] :: Res.box j 38 [aa, ab, ac, Vi (u.Makespan)] :: Res.box a1 43 [Vi (a.At), Vi (a.Kind), Vi (a.Launch), Vi (a.Other), Vi (a.Var)] :: H) w' ∧ f' 8 = Value.pointer (some ⟨i, 0, none⟩) ∧ f' 10 = Value.pointer (some ⟨j, 0, none⟩) ∧ f' 12 = t ∧ f' 13 = Vi (aq) ∧ f' 14 = Vi ((x : Int)) ∧ f' 15 = Value.pointer (some ⟨a1, 0, none⟩) ∧ f' 16 = Vi (bt) ∧ f' 79 = d ∧ f' 80 = Vi ((b.Problems.length : Int)) ∧ f' 81 = Vi ((x : Int)) ∧ f' 86 = t ∧ f' 87 = Vi ((aO.length : Int)) ∧ f' 88 = Vi (k' : Int)) s') cG ?_ ?_ ?_)
   ·have dp := (dn).f2
    exact ⟨c1, (Zv _), (dp).f2, dO, dP, bT, dQ, rfl, rfl, rfl, bU, bV, bb, rfl, rfl, rfl⟩
   ·intro a3 bt eN fJ gE dy cK aF
    obtain ⟨bz, bJ, a7, bW, bX, bY, bZ, ca, aX, dR, cb, cc, cd, bk, bl, aQ⟩ := cK
    refine Zc (Zd (Za rfl rfl (Zq rfl aQ bl (Zb (Ze (Zc (W_true (Zx (decide_eq_true (by omega))) (W_skip (Ze (Zc (W_block (Zc (Zd (Za rfl rfl (Zm (v := Vi ((a3 : Int))) rfl aQ ?_)))))))))))))))
    obtain ⟨c8, e7, aF⟩ := Zg aF
    refine Za rfl rfl (Exec.index_rep S22 rfl bk aQ (a2.mono bJ) e7 ?_)
    intro fk fU cB
    refine Za rfl rfl (Zw (E := (encInt .i64)) a7 A3 rfl rfl rfl cB ?_)
    intro gm e8
    obtain rfl := encInt_val.1 e8
    refine Za rfl rfl (Zo (v := Vi ((a3 : Int))) rfl rfl (Za rfl rfl (Zo (v := Vi (c8)) rfl rfl (Zb (Ze (Zc (Zd (Za rfl rfl (Zp F43_1 rfl aX rfl (Za rfl rfl (Zn ((a7).f2) A3 rfl rfl rfl (Za rfl rfl (Zm (v := Vi (c8)) rfl rfl (Za rfl rfl (Exec.eql rfl rfl rfl (Zb (Ze ?_)))))))))))))))))
    obtain ⟨aN, aG, aF⟩ := Zg aF
    refine W_mid (M := fun f' w' => (fun (aN : Int) => ∃ (c3 : PHeap) , PHeap.le bz c3 ∧ St w0 c3 (Res.box i 38 [y, z, d, Vi (b.Makespan)] :: Res.box j 38 [aa, ab, ac, Vi (u.Makespan)] :: Res.box a1 43 [Vi (a.At), Vi (a.Kind), Vi (a.Launch), Vi (a.Other), Vi (a.Var)] :: H) w' ∧ f' 8 = Value.pointer (some ⟨i, 0, none⟩) ∧ f' 10 = Value.pointer (some ⟨j, 0, none⟩) ∧ f' 12 = t ∧ f' 13 = Vi (aq) ∧ f' 14 = Vi ((x : Int)) ∧ f' 15 = Value.pointer (some ⟨a1, 0, none⟩) ∧ f' 16 = Vi (aN) ∧ f' 79 = d ∧ f' 80 = Vi ((b.Problems.length : Int)) ∧ f' 81 = Vi ((x : Int)) ∧ f' 86 = t ∧ f' 87 = Vi ((aO.length : Int)) ∧ f' 88 = Vi ((a3 : Int))) aN) ?_ ?_
    ·rcases ite_some aG with ⟨aB, aG⟩ | ⟨aB, aG⟩
     ·refine W_cond_t rfl aB (Zd (Za rfl rfl (Zp F43_0 rfl aX rfl (Za rfl rfl (Zn ((a7).f2) A3 rfl rfl rfl (Za rfl rfl (Exec.mul rfl rfl rfl (Za rfl rfl (Zm (v := Vi ((a3 : Int))) rfl rfl (Za rfl rfl (Exec.add rfl rfl rfl (Za rfl rfl (Zo (v := Vi (IntKind.i64.wrap ((IntKind.i64.wrap (5 * a.At)) + (a3 : Int)))) rfl rfl (Zb (Ze ?_)))))))))))))))
      have fw := Zu aG
      subst aN
      exact ⟨bz, (Zv _), (((a7).f2).f2).f2, bW, bX, bY, bZ, ca, aX, rfl, cb, cc, cd, bk, bl, aQ⟩
     refine W_cond_f rfl aB ?_
     replace aB := Zk aB
     refine W_skip (Ze ?_)
     have fx := Zu aG
     subst aN
     exact ⟨bz, (Zv _), (((a7).f2).f2).f2, bW, bX, bY, bZ, ca, aX, dR, cb, cc, cd, bk, bl, aQ⟩
    intro fK gF cQ
    obtain ⟨eO, dB, dq, dS, dT, dU, dV, dW, dX, dY, dZ, ea, eb, ec, ed, ee⟩ := cQ
    refine (ib_normal (Ze (Zd (Za rfl rfl (Exec.add rfl ee rfl (Za rfl rfl (Zm (v := Vi (IntKind.i64.wrap ((a3 : Int) + 1))) rfl rfl (Zb (Ze ?_)))))))))
    have fy := Zu aF
    subst eN
    exact ⟨eO, (Zt bJ dB), (((dq).f2).f2).f2, dS, dT, dU, dV, dW, dX, dY, dZ, ea, eb, ec, ed, (Eq.trans rfl (wrap_up dy (SliceRep.le a2)))⟩
   intro fL gG cL
   obtain ⟨b0, aJ, aU, bm, ce, cf, cg, ch, bn, ef, ci, cj, ck, fY, eg, eZ⟩ := cL
   refine Zc (Zd (Za rfl rfl (Zq rfl eZ eg (Zb (Ze (Zc (W_false (Zx (decide_eq_false (by omega))) (W_exit (at_exit (at_exit (ib_here (Ze (Zc (Zc (Zd (Za rfl rfl (Zp F43_1 rfl bn rfl (Za rfl rfl (Zn ((aU).f2) A3 rfl rfl rfl (Za rfl rfl (Exec.eql rfl rfl rfl (Zb (Ze ?_)))))))))))))))))))))))
   obtain ⟨ag, aH, l⟩ := Zg l
   refine W_mid (M := fun f' w' => (fun (ag : Int) => ∃ (c4 : PHeap) , PHeap.le b0 c4 ∧ St w0 c4 (Res.box i 38 [y, z, d, Vi (b.Makespan)] :: Res.box j 38 [aa, ab, ac, Vi (u.Makespan)] :: Res.box a1 43 [Vi (a.At), Vi (a.Kind), Vi (a.Launch), Vi (a.Other), Vi (a.Var)] :: H) w' ∧ f' 8 = Value.pointer (some ⟨i, 0, none⟩) ∧ f' 10 = Value.pointer (some ⟨j, 0, none⟩) ∧ f' 12 = t ∧ f' 13 = Vi (aq) ∧ f' 14 = Vi ((x : Int)) ∧ f' 15 = Value.pointer (some ⟨a1, 0, none⟩) ∧ f' 16 = Vi (ag) ∧ f' 79 = d ∧ f' 80 = Vi ((b.Problems.length : Int)) ∧ f' 81 = Vi ((x : Int))) ag) ?_ ?_
   ·rcases ite_some aH with ⟨aC, aH⟩ | ⟨aC, aH⟩
    ·refine W_cond_t rfl aC (Zd (Za rfl rfl (Zp F38_3 rfl bm rfl (Za rfl rfl (Zn (aU) A3 rfl rfl rfl (Za rfl rfl (Exec.mul rfl rfl rfl (Za rfl rfl (Exec.add rfl rfl rfl (Za rfl rfl (Zo (v := Vi (IntKind.i64.wrap ((IntKind.i64.wrap (5 * b.Makespan)) + 5))) rfl rfl (Zb (Ze ?_)))))))))))))
     have fz := Zu aH
     subst ag
     exact ⟨b0, (Zv _), (((aU).f2).f2).f2, bm, ce, cf, cg, ch, bn, rfl, ci, cj, ck⟩
    refine W_cond_f rfl aC ?_
    replace aC := Zk aC
    refine W_skip (Ze ?_)
    have f0 := Zu aH
    subst ag
    exact ⟨b0, (Zv _), (((aU).f2).f2).f2, bm, ce, cf, cg, ch, bn, ef, ci, cj, ck⟩
   intro fM gH cR
   obtain ⟨ba, aK, dr, bo, aL, bp, eh, cl, cm, aY, bq, br, bs⟩ := cR
   refine (Ze (Zc (Zc ?_)))
   obtain ⟨a5, ae, l⟩ := Zg l
   refine W_mid (M := fun f' w' => (fun (a5 : Bool) => ∃ (c5 : PHeap) , PHeap.le ba c5 ∧ St w0 c5 (Res.box i 38 [y, z, d, Vi (b.Makespan)] :: Res.box j 38 [aa, ab, ac, Vi (u.Makespan)] :: H) w' ∧ f' 8 = Value.pointer (some ⟨i, 0, none⟩) ∧ f' 10 = Value.pointer (some ⟨j, 0, none⟩) ∧ f' 12 = t ∧ f' 16 = Vi (ag) ∧ f' 79 = d ∧ f' 80 = Vi ((b.Problems.length : Int)) ∧ f' 81 = Vi ((x : Int)) ∧ f' 134 = Value.bool (a5)) a5) ?_ ?_
   ·refine W_dl (n0 := 25) (qs 0 25 .done) hmix (by kernel_rfl) (by kernel_rfl) ?_
    have ai := dr.drew
    refine DL_q rfl rfl (Zp F43_1 rfl cm rfl ⟨rfl, ?_⟩)
    refine DL_q rfl rfl (Zn ((ai).f2) A3 rfl rfl rfl ⟨rfl, ?_⟩)
    refine DL_q rfl rfl (Zp F38_2 rfl aL rfl ⟨rfl, ?_⟩)
    refine DL_q rfl rfl (Zn ((ai).f1) A36 rfl rfl rfl ⟨rfl, ?_⟩)
    refine DL_q rfl rfl (Zm (v := Vi ((x : Int))) rfl cl ⟨rfl, ?_⟩)
    obtain ⟨b3, cp, ae⟩ := Zg ae
    refine DL_q rfl rfl (Exec.index_repE S36 rfl rfl rfl (aZ.mono (Zt (Zt (Zt (Zt q ap) aI) aJ) aK)) cp ?_)
    intro fl fV cC f4
    refine ⟨rfl, ?_⟩
    refine DL_q rfl rfl (Zp F43_1 rfl rfl rfl ⟨rfl, ?_⟩)
    refine DL_q rfl rfl (Zw (E := (encInt .i64)) ai A3 rfl rfl rfl (cC.sub (Sub.iso (Sub.snd (Sub.fst (Sub.refl _)) rfl)) rfl) ?_)
    intro eW e9
    obtain rfl : eW = Vi (b3.Kind) := encInt_val.1 e9
    refine ⟨rfl, ?_⟩
    refine DL_q rfl rfl (Exec.neq rfl rfl rfl ⟨rfl, ?_⟩)
    refine DL_q rfl rfl (Zm (v := Value.bool (!decide (a.Kind = b3.Kind))) rfl rfl ⟨rfl, ?_⟩)
    rcases ite_some ae with ⟨n, ae⟩ | ⟨n, ae⟩
    ·refine DL_passes 15 (by rw [n]; rfl) ?_
     refine DL_done (Zb (Ze ?_))
     have f5 := Zu ae
     subst a5
     exact ⟨ba, (Zv _), ((((ai).f2).drop).f1).f1, bo, aL, bp, aY, bq, br, bs, rfl⟩
    replace n := Zk n
    refine DL_qg rfl rfl (Zf rfl (Zx n)) (Zp F43_0 rfl cm rfl ⟨rfl, ?_⟩)
    refine DL_qg rfl rfl (Zf rfl (Zx n)) (Zn ((ai).f2) A3 rfl rfl rfl ⟨rfl, ?_⟩)
    refine DL_qg rfl rfl (Zf rfl (Zx n)) (Zp F38_2 rfl aL rfl ⟨rfl, ?_⟩)
    refine DL_qg rfl rfl (Zf rfl (Zx n)) (Zn ((ai).f1) A36 rfl rfl rfl ⟨rfl, ?_⟩)
    refine DL_qg rfl rfl (Zf rfl (Zx n)) (Zm (v := Vi ((x : Int))) rfl cl ⟨rfl, ?_⟩)
    refine DL_qg rfl rfl (Zf rfl (Zx n)) (Exec.index_repE S36 rfl rfl rfl (aZ.mono (Zt (Zt (Zt (Zt q ap) aI) aJ) aK)) cp ?_)
    intro fm fW cD f6
    refine ⟨rfl, ?_⟩
    refine DL_qg rfl rfl (Zf rfl (Zx n)) (Zp F43_0 rfl rfl rfl ⟨rfl, ?_⟩)
    refine DL_qg rfl rfl (Zf rfl (Zx n)) (Zw (E := (encInt .i64)) ai A3 rfl rfl rfl (cD.sub (Sub.iso (Sub.fst (Sub.refl _))) rfl) ?_)
    intro eX eA
    obtain rfl : eX = Vi (b3.At) := encInt_val.1 eA
    refine ⟨rfl, ?_⟩
    refine DL_qg rfl rfl (Zf rfl (Zx n)) (Exec.neq rfl rfl rfl ⟨rfl, ?_⟩)
    refine DL_passes 2 (by rw [n]; rfl) ?_
    rcases ite_some ae with ⟨an, ae⟩ | ⟨an, ae⟩
    ·refine DL_passes 4 (by rw [an]; rfl) ?_
     refine DL_done (Zb (Ze ?_))
     have f7 := Zu ae
     subst a5
     exact ⟨ba, (Zv _), ((((ai).f2).drop).f1).f1, bo, aL, bp, aY, bq, br, bs, rfl⟩
    replace an := Zk an
    refine DL_qg rfl rfl (Zf rfl (Zx an)) (Zm (v := Vi (ag)) rfl aY ⟨rfl, ?_⟩)
    refine DL_qg rfl rfl (Zf rfl (Zx an)) (Zm (v := Vi (aq)) rfl eh ⟨rfl, ?_⟩)
    refine DL_qg rfl rfl (Zf rfl (Zx an)) (Zq rfl rfl rfl ⟨rfl, ?_⟩)
    refine DL_q rfl rfl (Exec.pick_f (v := Value.bool (decide (ag < aq))) rfl (Zx an) rfl ⟨rfl, ?_⟩)
    refine DL_done (Zb (Ze ?_))
    have f8 := Zu ae
    subst a5
    exact ⟨ba, (Zv _), ((((ai).f2).drop).f1).f1, bo, aL, bp, aY, bq, br, bs, rfl⟩
   intro fN gI cS
   obtain ⟨c6, bj, bG, ei, ej, ek, el, em, en, eo, cn⟩ := cS
   refine (Ze ?_)
   rcases ite_some l with ⟨aD, l⟩ | ⟨aD, l⟩
   ·refine W_cond_t cn aD (Zc (Zd (Za rfl rfl (Zo (v := Value.bool (false)) rfl rfl (Zb (Ze (W_ret (at_ret (ib_ret (at_ret (at_ret (ib_ret (at_ret (at_ret ?_))))))))))))))
    have f9 := Zu l
    subst b6
    have d0 := d1 _ (d2 (by intro _ h; cases h))
    have fA := Zu d0
    subst r
    refine ⟨_, ret1 rfl, ?_⟩
    exact ⟨c6, (Zt (Zt (Zt (Zt (Zt (Zt (Zt (Zt (Zt (Zt g o) ao) p) al) q) ap) aI) aJ) aK) bj), ((bG).drop).drop, rfl⟩
   refine W_cond_f cn aD ?_
   replace aD := Zk aD
   refine W_skip (Ze (Zd (Za rfl rfl (Zm (v := Vi (ag)) rfl el (Za rfl rfl (Zo (v := Vi (ag)) rfl rfl (Zb (ib_normal (Ze (Zd (Za rfl rfl (Exec.add rfl eo rfl (Za rfl rfl (Zm (v := Vi (IntKind.i64.wrap ((x : Int) + 1))) rfl rfl (Zb (Ze ?_))))))))))))))))
   have fB := Zu l
   subst b6
   refine ⟨_, rfl, ?_⟩; exact ⟨c6, t, (Zt (Zt (Zt aI aJ) aK) bj), ((bG).f1).f1, ei, ej, ek, rfl, em, en, (Eq.trans rfl (wrap_up dx (SliceRep.le (aM.mono (Zt (Zt (Zt p al) q) ap))))), (a2.mono (Zt (Zt aJ aK) bj))⟩
  intro eU fO gJ cM d3
  obtain ⟨aO, aq⟩ := eU
  obtain ⟨eP, t, dC, dt, ep, er, et, eu, ev, co, fa, a2⟩ := cM
  refine Zc (Zd (Za rfl rfl (Zq rfl fa co (Zb (Ze (Zc (W_false (Zx (decide_eq_false (by omega))) (W_exit (at_exit (at_exit (ib_here (Ze ?_))))))))))))
  refine ⟨_, .inl d3, ?_⟩; exact ⟨eP, t, dC, ((dt).f1).f1, ep, er, et, eu, ev, co, a2⟩
 rintro fP gK ⟨eV, bH, cT⟩
 have hm := bH.elim (dz _) (dv _)
 clear bH
 obtain ⟨ct, bK⟩ := eV
 replace hm := un2_eq hm
 obtain ⟨eQ, b1, dD, du, fZ, ga, gb, gc, gd, gf, fQ⟩ := cT
 refine (Ze (Zc (Zd (Za rfl rfl (Zo (v := Value.bool (true)) rfl rfl (Zb (Ze (W_ret ?_))))))))
 have fC := Zu hm
 subst r
 refine ⟨_, ret1 rfl, ?_⟩
 exact ⟨eQ, (Zt (Zt (Zt (Zt (Zt (Zt (Zt g o) ao) p) al) q) ap) dD), ((du).drop).drop, rfl⟩
end Go.Pw
