/-
  The walks (printed by my generator).
-/
import Derived.Test.YthbgcahoknmmmaaL29
import Derived.Test.YthbgcahoknmmmaaL27
import Derived.Test.YthbgcahoknmmmaaRa3
set_option maxRecDepth 100000
set_option maxHeartbeats 4000000
set_option linter.unusedVariables false
namespace Go.Pw
open Go.Proofs
theorem law58_awake_sim {w0 w : World} {s : PHeap} {H : List Res} {fu : Nat}  {r : Bool} (hm : law58_awake_p fu = some r) (hS : St w0 s (H) w)  :
  Calls Try.prog 7 #[] w fun e w' => ∃ v, e = .returned v ∧ ((fun (y22 : Bool) => ∃ (aa : PHeap) , PHeap.le s aa ∧ St w0 aa (H) w' ∧ v = Value.bool (y22)) r) := by
 unfold law58_awake_p at hm
 refine calls_of_W Try.func7 rfl rfl (Zc (Zd (Za rfl rfl (Zo (v := Value.bool (false)) rfl rfl (Zb (Ze (Zc (Zd (Za rfl rfl (Tc rfl rfl rfl args_nil (law58_lamp_sim law58_lamp_tot hS ).r ?_))))))))))
 rintro _ aK ⟨aD, aF, aG, aH, aI, al, ae, rfl, au, av, aw, ax⟩
 refine Za rfl rfl (Exec.build rfl (parts_cons (c := [Vi (0)]) (cells_of rfl rfl) parts_nil) (v := Value.agg #[Vi (0), Vi (0)]) (fun _ => by kernel_rfl) (Za rfl rfl (Exec.build rfl (parts_cons (c := [Vi (1)]) (cells_of rfl rfl) (parts_cons (c := [Vi (1)]) (cells_of rfl rfl) parts_nil)) (v := Value.agg #[Vi (1), Vi (1)]) (fun _ => by kernel_rfl) (Za rfl rfl (Exec.buildSlice (Te := 45) (cs := [Vi (0), Vi (0), Vi (1), Vi (1)]) ae rfl (parts_cons (c := [Vi (0), Vi (0)]) (cells_of rfl rfl) (parts_cons (c := [Vi (1), Vi (1)]) (cells_of rfl rfl) parts_nil)) (fun _ => by kernel_rfl) ?_)))))
 intro a1 aL af
 have ag := St.boxArr (E := encLaunch) (xs := [(⟨0, 0⟩ : Launch), (⟨1, 1⟩ : Launch)]) af ⟨[Vi (0), Vi (0)], [Vi (1), Vi (1)], rfl, ⟨[Vi (0)], [Vi (0)], rfl, rfl, rfl⟩, ⟨[Vi (1), Vi (1)], [], rfl, ⟨[Vi (1)], [Vi (1)], rfl, rfl, rfl⟩, rfl⟩⟩ (by simp [maxLen])
 obtain ⟨aE, m, ah, ay⟩ := ag.freezeArr
 obtain ⟨a0, ap, hm⟩ := Zg hm
 obtain ⟨o, u⟩ := a0
 replace hm := un2_eq hm
 refine Za rfl rfl (Tc rfl rfl rfl (Zi rfl (Zi rfl args_nil)) (simulate_Run_sim ap ah (au.mono m) (av.mono m) (aw.mono m) (ax.mono m) ay).r ?_)
 rintro _ aM ⟨l, p, q, t, am, ai, rfl, y, z, x⟩
 refine Za rfl rfl (Zm (v := Value.tuple #[Value.agg #[p, q, t, Vi (u.Makespan)], errV 69 (o)]) rfl rfl (Za rfl rfl (Exec.extract (v := Value.agg #[p, q, t, Vi (u.Makespan)]) rfl rfl rfl (Za rfl rfl (Exec.extract (v := errV 69 (o)) rfl rfl rfl (Za rfl rfl (Exec.alloc (cs := [Value.slice none 0 0, Value.slice none 0 0, Value.slice none 0 0, Vi (0)]) ai Z38 rfl rfl ?_)))))))
 intro a2 aN aj
 refine Za rfl rfl (Exec.store_box (ds := [p, q, t, Vi (u.Makespan)]) (es := [p, q, t, Vi (u.Makespan)]) aj A38 rfl rfl rfl rfl (Zj (y).one (Zj (z).one (Zj (x).one (Zj rfl one_nil)))) (Nat.le_of_ble_eq_true rfl) rfl ?_)
 intro aO b
 refine Za rfl rfl (Zo (v := errV 69 (o)) rfl rfl (Zb (Ze (Zc ?_))))
 obtain ⟨j, a, hm⟩ := Zg hm
 refine W_mid (M := fun f' w' => (fun (j : Bool) => ∃ (ab : PHeap) , PHeap.le l ab ∧ St w0 ab (H) w' ∧ f' 0 = Value.bool (j)) j) ?_ ?_
 ·refine Zd (Za rfl rfl (Zm (v := errV 69 (o)) rfl rfl (Za rfl rfl (Exec.err_eql_nil (T := 69) Try.underlying31 rfl rfl rfl (Za rfl rfl (Zm (v := Value.bool (o.isNone)) rfl rfl ?_))))))
  rcases ite_some a with ⟨k, a⟩ | ⟨k, a⟩
  ·refine WL_run rfl (Zf rfl (Zx k)) rfl (Zp F38_3 rfl rfl rfl (WL_run rfl (Zf rfl (Zx k)) rfl (Zn (b) A3 rfl rfl rfl (WL_run rfl (Zf rfl (Zx k)) rfl (Exec.eql rfl rfl rfl ?_)))))
   refine WL_passes 2 (by rw [k]; rfl) ?_
   rcases ite_some a with ⟨g, a⟩ | ⟨g, a⟩
   ·refine WL_run rfl (Zf rfl (Zx g)) rfl (Zp F38_0 rfl rfl rfl (WL_run rfl (Zf rfl (Zx g)) rfl (Zn (b) A34 rfl rfl rfl (WL_run rfl (Zf rfl (Zx g)) rfl (Zr S34 rfl rfl y (WL_run rfl (Zf rfl (Zx g)) rfl (Exec.eql rfl rfl rfl ?_)))))))
    refine WL_passes 2 (by rw [g]; rfl) ?_
    rcases ite_some a with ⟨h, a⟩ | ⟨h, a⟩
    ·refine WL_run rfl (Zf rfl (Zx h)) rfl (Zp F38_1 rfl rfl rfl (WL_run rfl (Zf rfl (Zx h)) rfl (Zn (b) A35 rfl rfl rfl (WL_run rfl (Zf rfl (Zx h)) rfl (Zr S35 rfl rfl z (WL_run rfl (Zf rfl (Zx h)) rfl (Exec.eql rfl rfl rfl ?_)))))))
     refine WL_passes 2 (by rw [h]; rfl) ?_
     rcases ite_some a with ⟨i, a⟩ | ⟨i, a⟩
     ·refine WL_run rfl (Zf rfl (Zx i)) rfl (Zp F38_2 rfl rfl rfl (WL_run rfl (Zf rfl (Zx i)) rfl (Zn (b) A36 rfl rfl rfl (WL_run rfl (Zf rfl (Zx i)) rfl (Zr S36 rfl rfl x (WL_run rfl (Zf rfl (Zx i)) rfl (Exec.eql rfl rfl rfl ?_)))))))
      refine WL_passes 2 (by rw [i]; rfl) ?_
      rcases ite_some a with ⟨d, a⟩ | ⟨d, a⟩
      ·refine WL_run rfl (Zf rfl (Zx d)) rfl (Zp F38_2 rfl rfl rfl (WL_run rfl (Zf rfl (Zx d)) rfl (Zn (b) A36 rfl rfl rfl ?_)))
       obtain ⟨n, aq, a⟩ := Zg a
       refine WL_run rfl (Zf rfl (Zx d)) rfl (Exec.index_rep S36 rfl rfl rfl x aq ?_)
       intro a3 aC ac
       refine WL_run rfl (Zf rfl (Zx d)) rfl (Zw (E := encsimulate_Problem) b A43 rfl rfl rfl ac ?_)
       intro aJ ar
       obtain rfl := encsimulate_Problem_val.1 ar
       refine WL_run rfl (Zf rfl (Zx d)) rfl (Exec.build rfl (parts_cons (c := [Vi (1)]) (cells_of rfl rfl) (parts_cons (c := [Vi (16)]) (cells_of rfl rfl) (parts_cons (c := [Vi (0)]) (cells_of rfl rfl) (parts_cons (c := [Vi ((-1))]) (cells_of rfl rfl) (parts_cons (c := [Vi (0)]) (cells_of rfl rfl) parts_nil))))) (v := Value.agg #[Vi (1), Vi (16), Vi (0), Vi ((-1)), Vi (0)]) (fun _ => by kernel_rfl) (WL_run rfl (Zf rfl (Zx d)) rfl (Exec.ints_eql (xs := [n.At, n.Kind, n.Launch, n.Other, n.Var]) (ys := [1, 16, 0, (-1), 0]) IS43 rfl rfl rfl rfl rfl rfl rfl ?_)))
       refine WL_passes 2 (by rw [d]; rfl) ?_
       refine Zb (Ze ?_)
       have a4 := Zu a
       subst j
       exact ⟨l, (Zv _), (b).drop, rfl⟩
      replace d := Zk d
      refine WL_passes 8 (by rw [d]; rfl) ?_
      refine Zb (Ze ?_)
      have a5 := Zu a
      subst j
      exact ⟨l, (Zv _), (b).drop, rfl⟩
     replace i := Zk i
     refine WL_passes 14 (by rw [i]; rfl) ?_
     refine Zb (Ze ?_)
     have a6 := Zu a
     subst j
     exact ⟨l, (Zv _), (b).drop, rfl⟩
    replace h := Zk h
    refine WL_passes 20 (by rw [h]; rfl) ?_
    refine Zb (Ze ?_)
    have a7 := Zu a
    subst j
    exact ⟨l, (Zv _), (b).drop, rfl⟩
   replace g := Zk g
   refine WL_passes 26 (by rw [g]; rfl) ?_
   refine Zb (Ze ?_)
   have a8 := Zu a
   subst j
   exact ⟨l, (Zv _), (b).drop, rfl⟩
  replace k := Zk k
  refine WL_passes 31 (by rw [k]; rfl) ?_
  refine Zb (Ze ?_)
  have a9 := Zu a
  subst j
  exact ⟨l, (Zv _), (b).drop, rfl⟩
 intro aB aP ad
 obtain ⟨az, an, ak, ao⟩ := ad
 refine (Ze (W_ret ?_))
 have aA := Zu hm
 subst r
 refine ⟨_, ret1 rfl, ?_⟩
 exact ⟨az, (Zt (Zt (Zt al m) am) an), ak, ao⟩
theorem law58_few_sim {w0 w : World} {s : PHeap} {H : List Res} {b : Temporal} {u : (List Launch)} {y : Value} {z : Value} {aa : Value} {n : Value} {ah : Value} {r : Bool} (hm : law58_few_p b u = some r) (hS : St w0 s (H) w) (aB : SliceRep (encInt .i64) s y b.Vars) (bj : SliceRep (encInt .i64) s z b.Init) (aC : SliceRep encFact s aa b.Goal) (t : SliceRep encJob s n b.Jobs) (aD : SliceRep encLaunch s ah u) :
  Calls Try.prog 8 #[Value.agg #[y, z, aa, n], ah] w fun e w' => ∃ v, e = .returned v ∧ ((fun (bi : Bool) => ∃ (a0 : PHeap) , PHeap.le s a0 ∧ St w0 a0 (H) w' ∧ v = Value.bool (bi)) r) := by
 unfold law58_few_p at hm
 refine calls_of_W Try.func8 rfl rfl (Zc (Zd (Za rfl rfl (Exec.box (cs := [y, z, aa, n]) hS rfl rfl rfl ?_))))
 intro ai b4 l
 refine Za rfl rfl (Zo (v := Value.bool (false)) rfl rfl (Zb (Ze (Zc (Zc (W_mid (M := fun f' w' => ∃ (a1 : PHeap) , PHeap.le s a1 ∧ St w0 a1 (Res.box ai 26 [y, z, aa, n] :: H) w' ∧ f' 2 = Value.pointer (some ⟨ai, 0, none⟩) ∧ f' 27 = Value.bool (((decide (70 < (b.Vars.length : Int))) || ((decide (30 < (b.Jobs.length : Int))) || ((decide (20 < (u.length : Int))) || decide (80 < (b.Goal.length : Int))))))) ?_ ?_))))))
 ·refine Zd (Za rfl rfl (Zp F26_0 rfl rfl rfl (Za rfl rfl (Zn (l) A22 rfl rfl rfl (Za rfl rfl (Zr S22 rfl rfl aB (Za rfl rfl (Exec.gtr rfl rfl rfl (Za rfl rfl (Zm (v := Value.bool (decide (70 < (b.Vars.length : Int)))) rfl rfl ?_))))))))))
  by_cases c : (decide (70 < (b.Vars.length : Int))) = true
  ·refine WL_passes 16 (by rw [c]; rfl) ?_
   refine Zb (Ze ?_)
   exact ⟨s, (Zv _), l, rfl, (Zx (or_t c)).symm⟩
  replace c := Zk c
  refine WL_run rfl (Zf rfl (Zx c)) rfl (Zp F26_3 rfl rfl rfl (WL_run rfl (Zf rfl (Zx c)) rfl (Zn (l) A24 rfl rfl rfl (WL_run rfl (Zf rfl (Zx c)) rfl (Zr S24 rfl rfl t (WL_run rfl (Zf rfl (Zx c)) rfl (Exec.gtr rfl rfl rfl ?_)))))))
  refine WL_passes 2 (by rw [c]; rfl) ?_
  by_cases d : (decide (30 < (b.Jobs.length : Int))) = true
  ·refine WL_passes 10 (by rw [d]; rfl) ?_
   refine Zb (Ze ?_)
   exact ⟨s, (Zv _), l, rfl, (Zx (Eq.trans (or_f c) (or_t d))).symm⟩
  replace d := Zk d
  refine WL_run rfl (Zf rfl (Zx d)) rfl (Zm (v := ah) rfl rfl (WL_run rfl (Zf rfl (Zx d)) rfl (Zr S27 rfl rfl aD (WL_run rfl (Zf rfl (Zx d)) rfl (Exec.gtr rfl rfl rfl ?_)))))
  refine WL_passes 2 (by rw [d]; rfl) ?_
  by_cases g : (decide (20 < (u.length : Int))) = true
  ·refine WL_passes 5 (by rw [g]; rfl) ?_
   refine Zb (Ze ?_)
   exact ⟨s, (Zv _), l, rfl, (Zx (Eq.trans (or_f c) (Eq.trans (or_f d) (or_t g)))).symm⟩
  replace g := Zk g
  refine WL_run rfl (Zf rfl (Zx g)) rfl (Zp F26_2 rfl rfl rfl (WL_run rfl (Zf rfl (Zx g)) rfl (Zn (l) A23 rfl rfl rfl (WL_run rfl (Zf rfl (Zx g)) rfl (Zr S23 rfl rfl aC (WL_run rfl (Zf rfl (Zx g)) rfl (Exec.gtr rfl rfl rfl (Za rfl rfl (Exec.pick_f (v := Value.bool (decide (80 < (b.Goal.length : Int)))) rfl (Zx g) rfl (Zb (Ze ?_)))))))))))
  exact ⟨s, (Zv _), l, rfl, (Zx (Eq.trans (or_f c) (Eq.trans (or_f d) (or_f g)))).symm⟩
 intro br b5 aI
 obtain ⟨x, o, ac, aY, aq⟩ := aI
 refine (Ze ?_)
 rcases ite_some hm with ⟨p, hm⟩ | ⟨p, hm⟩
 ·refine W_cond_t aq p (Zc (Zd (Za rfl rfl (Zo (v := Value.bool (false)) rfl rfl (Zb (Ze (W_ret (at_ret ?_))))))))
  have bm := Zu hm
  subst r
  refine ⟨_, ret1 rfl, ?_⟩
  exact ⟨x, o, (ac).drop, rfl⟩
 refine W_cond_f aq p ?_
 replace p := Zk p
 refine W_skip (Ze (Zc (Zc (Zd (Za rfl rfl (Zp F26_3 rfl aY rfl (Za rfl rfl (Zn (ac) A24 rfl rfl rfl (Za rfl rfl (Zr S24 rfl rfl (t.mono o) (Za rfl rfl (Zm (v := Vi (0)) rfl rfl (Zb (Ze ?_))))))))))))))
 obtain ⟨aj, aF, aT, aR, aP⟩ := ctl_some hm
 refine W_mid (M := fun f' w' => ∃ s', (aj = .next s' ∨ aj = .brk s') ∧ (fun (_ : Unit) => ∃ (a2 : PHeap) , PHeap.le x a2 ∧ St w0 a2 (H) w' ∧ f' 29 = n ∧ f' 30 = Vi ((b.Jobs.length : Int))) s') ?_ ?_
 ·refine W_block (W_forC (fun k' s' f' w' => (fun (_ : Unit) => ∃ (a3 : PHeap) , PHeap.le x a3 ∧ St w0 a3 (H) w' ∧ f' 29 = n ∧ f' 30 = Vi ((b.Jobs.length : Int)) ∧ f' 31 = Vi (k' : Int)) s') aF ?_ ?_ ?_)
  ·have aL := (ac).drop
   exact ⟨x, (Zv _), aL, rfl, rfl, rfl⟩
  ·intro ao b0 ak bs b6 aQ aG m aU
   obtain ⟨ag, ad, al, ae, af, ab⟩ := aG
   refine Zc (Zd (Za rfl rfl (Zq rfl ab af (Zb (Ze (Zc (W_true (Zx (decide_eq_true (by omega))) (W_skip (Ze (Zc (W_block (Zc (Zd ?_)))))))))))))
   obtain ⟨a, bd, m⟩ := Zg m
   refine Za rfl rfl (Exec.index_rep S24 rfl ae ab (t.mono (Zt o ad)) bd ?_)
   intro bk bw aE
   refine Za rfl rfl (Zw (E := encJob) al A52 rfl rfl rfl aE ?_)
   intro b3 be
   obtain ⟨a6, a7, a8, a9, aA, rfl, av, aw, ax, ay, az⟩ := encJob_val.1 be
   refine Za rfl rfl (Exec.alloc (cs := [Value.string (⟨#[]⟩), Vi (0), Value.slice none 0 0, Value.slice none 0 0, Value.slice none 0 0, Value.slice none 0 0, Value.slice none 0 0]) al Z52 rfl rfl ?_)
   intro bl b7 aM
   refine Za rfl rfl (Exec.store_box (ds := [Value.string (a.Name), Vi (a.Duration), a6, a7, a8, a9, aA]) (es := [Value.string (a.Name), Vi (a.Duration), a6, a7, a8, a9, aA]) aM A52 rfl rfl rfl rfl (Zj rfl (Zj rfl (Zj (av).one (Zj (aw).one (Zj (ax).one (Zj (ay).one (Zj (az).one one_nil))))))) (Nat.le_of_ble_eq_true rfl) rfl ?_)
   intro b8 j
   refine Zb (Ze (Zc (W_mid (M := fun f' w' => ∃ (a4 : PHeap) , PHeap.le ag a4 ∧ St w0 a4 (H) w' ∧ f' 29 = n ∧ f' 30 = Vi ((b.Jobs.length : Int)) ∧ f' 31 = Vi ((ao : Int)) ∧ f' 60 = Value.bool (((decide (100 < (IntKind.i64.wrap ((IntKind.i64.wrap ((IntKind.i64.wrap ((IntKind.i64.wrap ((a.Start.length : Int) + (a.Over.length : Int))) + (a.End.length : Int))) + (a.AtStart.length : Int))) + (a.AtEnd.length : Int))))) || decide (300 < (a.Name.size : Int))))) ?_ ?_)))
   ·refine Zd (Za rfl rfl (Zp F52_2 rfl rfl rfl (Za rfl rfl (Zn (j) A23 rfl rfl rfl (Za rfl rfl (Zr S23 rfl rfl av (Za rfl rfl (Zp F52_3 rfl rfl rfl (Za rfl rfl (Zn (j) A23 rfl rfl rfl (Za rfl rfl (Zr S23 rfl rfl aw (Za rfl rfl (Exec.add rfl rfl rfl (Za rfl rfl (Zp F52_4 rfl rfl rfl (Za rfl rfl (Zn (j) A23 rfl rfl rfl (Za rfl rfl (Zr S23 rfl rfl ax (Za rfl rfl (Exec.add rfl rfl rfl (Za rfl rfl (Zp F52_5 rfl rfl rfl (Za rfl rfl (Zn (j) A23 rfl rfl rfl (Za rfl rfl (Zr S23 rfl rfl ay (Za rfl rfl (Exec.add rfl rfl rfl (Za rfl rfl (Zp F52_6 rfl rfl rfl (Za rfl rfl (Zn (j) A23 rfl rfl rfl (Za rfl rfl (Zr S23 rfl rfl az (Za rfl rfl (Exec.add rfl rfl rfl (Za rfl rfl (Exec.gtr rfl rfl rfl (Za rfl rfl (Zm (v := Value.bool (decide (100 < (IntKind.i64.wrap ((IntKind.i64.wrap ((IntKind.i64.wrap ((IntKind.i64.wrap ((a.Start.length : Int) + (a.Over.length : Int))) + (a.End.length : Int))) + (a.AtStart.length : Int))) + (a.AtEnd.length : Int)))))) rfl rfl ?_))))))))))))))))))))))))))))))))))))))))))
    by_cases i : (decide (100 < (IntKind.i64.wrap ((IntKind.i64.wrap ((IntKind.i64.wrap ((IntKind.i64.wrap ((a.Start.length : Int) + (a.Over.length : Int))) + (a.End.length : Int))) + (a.AtStart.length : Int))) + (a.AtEnd.length : Int))))) = true
    ·refine WL_passes 5 (by rw [i]; rfl) ?_
     refine Zb (Ze ?_)
     exact ⟨ag, (Zv _), (j).drop, ae, af, ab, (Zx (or_t i)).symm⟩
    replace i := Zk i
    refine WL_run rfl (Zf rfl (Zx i)) rfl (Zp F52_0 rfl rfl rfl (WL_run rfl (Zf rfl (Zx i)) rfl (Zn (j) A9 rfl rfl rfl (WL_run rfl (Zf rfl (Zx i)) rfl (Exec.len_str Try.underlying9 rfl rfl (WL_run rfl (Zf rfl (Zx i)) rfl (Exec.gtr rfl rfl rfl (Za rfl rfl (Exec.pick_f (v := Value.bool (decide (300 < (a.Name.size : Int)))) rfl (Zx i) rfl (Zb (Ze ?_)))))))))))
    exact ⟨ag, (Zv _), (j).drop, ae, af, ab, (Zx (or_f i)).symm⟩
   intro bt b9 aJ
   obtain ⟨a5, ap, am, aZ, ba, bb, ar⟩ := aJ
   refine (Ze ?_)
   rcases ite_some m with ⟨q, m⟩ | ⟨q, m⟩
   ·refine W_cond_t ar q (Zc (Zd (Za rfl rfl (Zo (v := Value.bool (false)) rfl rfl (Zb (Ze (W_ret (ib_ret (at_ret (at_ret (ib_ret (at_ret (at_ret ?_)))))))))))))
    have bn := Zu m
    subst ak
    have aS := aT _ (aU (by intro _ h; cases h))
    have bo := Zu aS
    subst r
    refine ⟨_, ret1 rfl, ?_⟩
    exact ⟨a5, (Zt (Zt o ad) ap), am, rfl⟩
   refine W_cond_f ar q ?_
   replace q := Zk q
   refine W_skip (ib_normal (Ze (Zd (Za rfl rfl (Exec.add rfl bb rfl (Za rfl rfl (Zm (v := Vi (IntKind.i64.wrap ((ao : Int) + 1))) rfl rfl (Zb (Ze ?_)))))))))
   have bp := Zu m
   subst ak
   refine ⟨_, rfl, ?_⟩; exact ⟨a5, (Zt ad ap), am, aZ, ba, (Eq.trans rfl (wrap_up aQ (SliceRep.le (t.mono o))))⟩
  intro b1 bu bA aH aV
  obtain ⟨bf, aW, aN, bc, au, bh⟩ := aH
  refine Zc (Zd (Za rfl rfl (Zq rfl bh au (Zb (Ze (Zc (W_false (Zx (decide_eq_false (by omega))) (W_exit (at_exit (at_exit (ib_here (Ze ?_))))))))))))
  refine ⟨_, .inl aV, ?_⟩; exact ⟨bf, aW, aN, bc, au⟩
 rintro bv bB ⟨b2, an, aK⟩
 have hm := an.elim (aR _) (aP _)
 clear an
 obtain ⟨bg, aX, aO, bx, bz⟩ := aK
 refine (Ze (Zc (Zd (Za rfl rfl (Zo (v := Value.bool (true)) rfl rfl (Zb (Ze (W_ret ?_))))))))
 have bq := Zu hm
 subst r
 refine ⟨_, ret1 rfl, ?_⟩
 exact ⟨bg, (Zt o aX), aO, rfl⟩
theorem base_Ints_sim {w0 w : World} {s : PHeap} {H : List Res} {j : (List Int)} {q : (List Int)} {b : Value} {c : Value} {r : Bool} (hm : base_Ints_p j q = some r) (hS : St w0 s (H) w) (l : SliceRep (encInt .i64) s b j) (p : SliceRep (encInt .i64) s c q) :
  Calls Try.prog 15 #[b, c] w fun e w' => ∃ v, e = .returned v ∧ ((fun (a8 : Bool) => ∃ (ac : PHeap) , PHeap.le s ac ∧ St w0 ac (H) w' ∧ v = Value.bool (a8)) r) := by
 unfold base_Ints_p at hm
 refine calls_of_W Try.func15 rfl rfl (Zc (Zd (Za rfl rfl (Zo (v := Value.bool (false)) rfl rfl (Zb (Ze (Zc (Zc (Zd (Za rfl rfl (Zm (v := b) rfl rfl (Za rfl rfl (Zr S22 rfl rfl l (Za rfl rfl (Zm (v := c) rfl rfl (Za rfl rfl (Zr S22 rfl rfl p (Za rfl rfl (Exec.neq rfl rfl rfl (Zb (Ze ?_)))))))))))))))))))))
 rcases ite_some hm with ⟨d, hm⟩ | ⟨d, hm⟩
 ·refine W_cond_t rfl d (Zc (Zd (Za rfl rfl (Zo (v := Value.bool (false)) rfl rfl (Zb (Ze (W_ret (at_ret ?_))))))))
  have aB := Zu hm
  subst r
  refine ⟨_, ret1 rfl, ?_⟩
  exact ⟨s, (Zv _), hS, rfl⟩
 refine W_cond_f rfl d ?_
 replace d := Zk d
 refine W_skip (Ze (Zc (Zc (Zd (Za rfl rfl (Zm (v := b) rfl rfl (Za rfl rfl (Zr S22 rfl rfl l (Za rfl rfl (Zm (v := Vi (0)) rfl rfl (Zb (Ze ?_))))))))))))
 obtain ⟨t, ai, au, aq, ao⟩ := ctl_some hm
 refine W_mid (M := fun f' w' => ∃ s', (t = .next s' ∨ t = .brk s') ∧ (fun (_ : Unit) => ∃ (ad : PHeap) , PHeap.le s ad ∧ St w0 ad (H) w' ∧ f' 0 = b ∧ f' 1 = c ∧ f' 12 = Vi ((j.length : Int))) s') ?_ ?_
 ·refine W_block (W_forC (fun k' s' f' w' => (fun (_ : Unit) => ∃ (ae : PHeap) , PHeap.le s ae ∧ St w0 ae (H) w' ∧ f' 0 = b ∧ f' 1 = c ∧ f' 12 = Vi ((j.length : Int)) ∧ f' 13 = Vi (k' : Int)) s') ai ?_ ?_ ?_)
  ·exact ⟨s, (Zv _), hS, rfl, rfl, rfl, rfl⟩
  ·intro i aQ u aI aV ap aj a av
   obtain ⟨af, n, m, y, z, aa, o⟩ := aj
   refine Zc (Zd (Za rfl rfl (Zq rfl o aa (Zb (Ze (Zc (W_true (Zx (decide_eq_true (by omega))) (W_skip (Ze (Zc (W_block (Zc (Zd (Za rfl rfl (Zm (v := Vi ((i : Int))) rfl o (Za rfl rfl (Zo (v := Vi ((i : Int))) rfl rfl (Zb (Ze (Zc (W_dl (n0 := 9) (qs 0 9 .done) hmix (by kernel_rfl) (by kernel_rfl) (DL_q rfl rfl (Zm (v := b) rfl y ⟨rfl, ?_⟩)))))))))))))))))))))))
   refine DL_q rfl rfl (Zm (v := Vi ((i : Int))) rfl rfl ⟨rfl, ?_⟩)
   obtain ⟨aY, a1, a⟩ := Zg a
   refine DL_q rfl rfl (Exec.index_repE S22 rfl rfl rfl (l.mono n) a1 ?_)
   intro a9 aL ag aC
   refine ⟨rfl, ?_⟩
   refine DL_q rfl rfl (Zw (E := (encInt .i64)) m.drew A3 rfl rfl rfl ag ?_)
   intro aT a2
   obtain rfl := encInt_val.1 a2
   refine ⟨rfl, ?_⟩
   refine DL_q rfl rfl (Zm (v := c) rfl z ⟨rfl, ?_⟩)
   refine DL_q rfl rfl (Zm (v := Vi ((i : Int))) rfl rfl ⟨rfl, ?_⟩)
   obtain ⟨aZ, a3, a⟩ := Zg a
   refine DL_q rfl rfl (Exec.index_repE S22 rfl rfl rfl (p.mono n) a3 ?_)
   intro aA aM ah aD
   refine ⟨rfl, ?_⟩
   refine DL_q rfl rfl (Zw (E := (encInt .i64)) m.drew A3 rfl rfl rfl ah ?_)
   intro aU a4
   obtain rfl := encInt_val.1 a4
   refine ⟨rfl, ?_⟩
   refine DL_q rfl rfl (Exec.neq rfl rfl rfl ⟨rfl, ?_⟩)
   refine DL_done (Zb (Ze ?_))
   rcases ite_some a with ⟨g, a⟩ | ⟨g, a⟩
   ·refine W_cond_t rfl g (Zc (Zd (Za rfl rfl (Zo (v := Value.bool (false)) rfl rfl (Zb (Ze (W_ret (ib_ret (at_ret (at_ret (ib_ret (at_ret (at_ret ?_)))))))))))))
    have aE := Zu a
    subst u
    have ar := au _ (av (by intro _ h; cases h))
    have aF := Zu ar
    subst r
    refine ⟨_, ret1 rfl, ?_⟩
    exact ⟨af, n, m.drew, rfl⟩
   refine W_cond_f rfl g ?_
   replace g := Zk g
   refine W_skip (ib_normal (Ze (Zd (Za rfl rfl (Exec.add rfl o rfl (Za rfl rfl (Zm (v := Vi (IntKind.i64.wrap ((i : Int) + 1))) rfl rfl (Zb (Ze ?_)))))))))
   have aG := Zu a
   subst u
   refine ⟨_, rfl, ?_⟩; exact ⟨af, n, m.drew, y, z, aa, (Eq.trans rfl (wrap_up ap (SliceRep.le l)))⟩
  intro aR aJ aW ak aw
  obtain ⟨a5, ax, am, az, a0, ab, a7⟩ := ak
  refine Zc (Zd (Za rfl rfl (Zq rfl a7 ab (Zb (Ze (Zc (W_false (Zx (decide_eq_false (by omega))) (W_exit (at_exit (at_exit (ib_here (Ze ?_))))))))))))
  refine ⟨_, .inl aw, ?_⟩; exact ⟨a5, ax, am, az, a0, ab⟩
 rintro aK aX ⟨aS, x, al⟩
 have hm := x.elim (aq _) (ao _)
 clear x
 obtain ⟨a6, ay, an, aN, aO, aP⟩ := al
 refine (Ze (Zc (Zd (Za rfl rfl (Zo (v := Value.bool (true)) rfl rfl (Zb (Ze (W_ret ?_))))))))
 have aH := Zu hm
 subst r
 refine ⟨_, ret1 rfl, ?_⟩
 exact ⟨a6, ay, an, rfl⟩
theorem temporal_States_sim {w0 w : World} {s : PHeap} {H : List Res} {y : Temporal} {ay : (List Launch)} {i : Value} {d : Value} {j : Value} {l : Value} {z : Value} {r : (List (List Int)) × (Option Int)} (hm : temporal_States_p y ay = some r) (hS : St w0 s (H) w) (ab : SliceRep (encInt .i64) s i y.Vars) (q : SliceRep (encInt .i64) s d y.Init) (ac : SliceRep encFact s j y.Goal) (ad : SliceRep encJob s l y.Jobs) (ah : SliceRep encLaunch s z ay) :
  Calls Try.prog 13 #[Value.agg #[i, d, j, l], z] w fun e w' => ∃ v, e = .returned v ∧ ((un2 fun (bf : (List (List Int))) (bg : (Option Int)) => ∃ (an : PHeap) (a3 : Value), PHeap.le s an ∧ St w0 an (H) w' ∧ v = Value.tuple #[a3, errV 69 (bg)] ∧ SliceRep (encSlice (encInt .i64)) an a3 bf) r) := by
 unfold temporal_States_p at hm
 refine calls_of_W Try.func13 rfl rfl (Zc (Zd (Za rfl rfl (Exec.box (cs := [i, d, j, l]) hS rfl rfl rfl ?_))))
 intro au b1 av
 refine Za rfl rfl (Zo (v := Value.slice none 0 0) rfl rfl (Za rfl rfl (Zo (v := errV 69 (none)) rfl rfl (Zb (Ze (Zc (Zc (Zd (Za rfl rfl (Exec.load_box_agg (ds := [i, d, j, l]) (av) A26 rfl rfl rfl (Za rfl rfl (Zm (v := z) rfl rfl ?_))))))))))))
 obtain ⟨af, aM, hm⟩ := Zg hm
 refine Za rfl rfl (Tc rfl rfl rfl (Zi rfl (Zi rfl args_nil)) (temporal_accept_sim aM av ab q ac ad ah).r ?_)
 rintro _ b2 ⟨aW, a, ai, rfl⟩
 refine Za rfl rfl (Zo (v := errV 69 (af)) rfl rfl (Zb (Ze (Zc (Zd (Za rfl rfl (Zm (v := errV 69 (af)) rfl rfl (Za rfl rfl (Exec.err_neq_nil (T := 69) Try.underlying31 rfl rfl rfl (Zb (Ze ?_)))))))))))
 rcases ite_some hm with ⟨t, hm⟩ | ⟨t, hm⟩
 ·refine W_cond_t rfl t (Zc (Zd (Za rfl rfl (Zm (v := errV 69 (af)) rfl rfl (Za rfl rfl (Zo (v := Value.slice none 0 0) rfl rfl (Za rfl rfl (Zo (v := errV 69 (af)) rfl rfl (Zb (Ze (W_ret (at_ret ?_))))))))))))
  have bk := Zu hm
  subst r
  refine ⟨_, ret2 rfl, ?_⟩
  exact ⟨aW, (Value.slice none 0 0), a, (ai).drop, (tup2 rfl rfl), (SliceRep.nil _ _)⟩
 refine W_cond_f rfl t ?_
 replace t := Zk t
 refine W_skip (Ze (Zc (Zd (Za rfl rfl (Exec.load_box_agg (ds := [i, d, j, l]) (ai) A26 rfl rfl rfl (Za rfl rfl (Zm (v := z) rfl rfl ?_)))))))
 obtain ⟨ag, aN, hm⟩ := Zg hm
 refine Za rfl rfl (Tc rfl rfl rfl (Zi rfl (Zi rfl args_nil)) (temporal_makespan_sim aN ai (ab.mono a) (q.mono a) (ac.mono a) (ad.mono a) (ah.mono a)).r ?_)
 rintro _ b3 ⟨aX, b, aj, rfl⟩
 refine Za rfl rfl (Zo (v := Vi (ag)) rfl rfl (Zb (Ze (Zc (Zc (Zd (Za rfl rfl (Zm (v := Vi (ag)) rfl rfl (Za rfl rfl (Exec.gtr rfl rfl rfl (Zb (Ze ?_))))))))))))
 rcases ite_some hm with ⟨u, hm⟩ | ⟨u, hm⟩
 ·refine W_cond_t rfl u (Zc (Zd (Za rfl rfl (Exec.makeInterface C69 rfl rfl (Za rfl rfl (Zo (v := Value.slice none 0 0) rfl rfl (Za rfl rfl (Zo (v := errV 69 (some 5)) rfl rfl (Zb (Ze (W_ret (at_ret ?_))))))))))))
  have bl := Zu hm
  subst r
  refine ⟨_, ret2 rfl, ?_⟩
  exact ⟨aX, (Value.slice none 0 0), (Zt a b), (aj).drop, (tup2 rfl rfl), (SliceRep.nil _ _)⟩
 refine W_cond_f rfl u ?_
 replace u := Zk u
 refine W_skip (Ze (Zc (Zd (Za rfl rfl (Exec.load_box_agg (ds := [i, d, j, l]) (aj) A26 rfl rfl rfl (Za rfl rfl (Zm (v := z) rfl rfl ?_)))))))
 obtain ⟨bb, aO, hm⟩ := Zg hm
 obtain ⟨bh, bA⟩ := bb
 replace hm := un2_eq hm
 refine Za rfl rfl (Tc rfl rfl rfl (Zi rfl (Zi rfl args_nil)) (temporal_happenings_sim aO aj (ab.mono (Zt a b)) (q.mono (Zt a b)) (ac.mono (Zt a b)) (ad.mono (Zt a b)) (ah.mono (Zt a b))).r ?_)
 rintro _ b4 ⟨a2, aq, o, n, aw, rfl, bu⟩
 refine Za rfl rfl (Zm (v := Value.tuple #[Value.map (some o), aq]) rfl rfl (Za rfl rfl (Exec.extract (v := Value.map (some o)) rfl rfl rfl (Za rfl rfl (Exec.extract (v := aq) rfl rfl rfl (Za rfl rfl (Zo (v := Value.map (some o)) rfl rfl (Za rfl rfl (Zo (v := aq) rfl rfl (Zb (Ze (Zc (Zd (Za rfl rfl (Zp F26_1 rfl rfl rfl (Za rfl rfl (Zn ((aw).f1) A22 rfl rfl rfl (Za rfl rfl (Zo (v := d) rfl rfl (Zb (Ze (Zc (Zd (Za rfl rfl (Zo (v := Value.slice none 0 0) rfl rfl (Zb (Ze (Zc (Zc (Zd (Za rfl rfl (Zm (v := Vi (ag)) rfl rfl (Za rfl rfl (Exec.add rfl rfl rfl (Za rfl rfl (Zm (v := Vi (0)) rfl rfl (Zb (Ze ?_))))))))))))))))))))))))))))))))))))))
 obtain ⟨bz, aP, hm⟩ := Zg hm
 obtain ⟨bc, a5, hm⟩ := Zg hm
 refine W_block (W_forS (fun k' s' f' w' => (un2 fun (ap : (List Int)) (al : (List (List Int))) => ∃ (ao : PHeap) (aa : Value) (m : Value), PHeap.le a2 ao ∧ St w0 ao (Res.box au 26 [i, d, j, l] :: Res.fmap Try.prog 3 enctemporal_happening o bh :: Res.arr (encSlice (encInt .i64)) 22 m al :: H) w' ∧ f' 2 = Value.pointer (some ⟨au, 0, none⟩) ∧ f' 8 = Value.map (some o) ∧ f' 10 = aa ∧ f' 11 = m ∧ f' 34 = Vi (IntKind.i64.wrap (ag + 1)) ∧ f' 35 = Vi (k' : Int) ∧ SliceRep (encInt .i64) ao aa ap) s') a5 ?_ ?_ ?_)
 ·have a8 := aw.nilArr (encSlice (encInt .i64)) 22
  exact ⟨a2, d, (Value.slice none 0 0), (Zv _), ((a8).f1).f2, rfl, rfl, rfl, rfl, rfl, rfl, (q.mono (Zt (Zt a b) n))⟩
 ·intro ae bd aY bo b5 aE a6 g
  obtain ⟨ap, al⟩ := bd
  replace g := un2_eq g
  obtain ⟨bw, aa, m, x, ak, az, a0, aI, aJ, a1, ar, ax⟩ := a6
  refine Zc (Zd (Za rfl rfl (Zq rfl ar a1 (Zb (Ze (Zc (W_true (Zx (decide_eq_true (by omega))) (W_skip (Ze (Zc (W_block (Zc (Zd (Za rfl rfl (Zm (v := Vi ((ae : Int))) rfl ar (Za rfl rfl (Zo (v := Vi ((ae : Int))) rfl rfl (Zb (Ze (Zc (Zd (Za rfl rfl (Exec.load_box_agg (ds := [i, d, j, l]) (ak) A26 rfl az rfl (Za rfl rfl (Zm (v := aa) rfl aI (Za rfl rfl (Zm (v := Value.map (some o)) rfl a0 (Za rfl rfl (Zm (v := Vi ((ae : Int))) rfl rfl ?_)))))))))))))))))))))))))))))
  obtain ⟨bv, aQ, g⟩ := Zg g
  refine Za rfl rfl (Exec.fmap_look ((ak).f1) ⟨Try.underlying62, Try.underlying3⟩ Z67 rfl rfl rfl aQ ?_)
  intro b0 aR
  have aU := encSlice_val.1 aR
  obtain ⟨bi, aS, g⟩ := Zg g
  refine Za rfl rfl (Tc rfl rfl rfl (Zi rfl (Zi rfl (Zi rfl args_nil))) (temporal_after_sim aS ak (ab.mono (Zt (Zt (Zt a b) n) x)) (q.mono (Zt (Zt (Zt a b) n) x)) (ac.mono (Zt (Zt (Zt a b) n) x)) (ad.mono (Zt (Zt (Zt a b) n) x)) ax aU).r ?_)
  rintro p b6 ⟨aZ, _, aF, a9, rfl, am⟩
  refine Za rfl rfl (Zo (v := p) rfl rfl (Zb (Ze (Zd (Za rfl rfl (Zm (v := m) rfl aJ (Za rfl rfl (Zm (v := p) rfl rfl (Za rfl rfl (Exec.buildSlice (Te := 22) (cs := [p]) a9 rfl (parts_cons (c := [p]) (cells_of rfl (cells_one (am).one)) parts_nil) (fun _ => by kernel_rfl) ?_))))))))))
  intro bj b7 aA
  obtain ⟨bq, aT, g⟩ := Zg g
  refine Za rfl rfl (Exec.append_box (E := (encSlice (encInt .i64))) (ys := [bi]) (aA).f3 S35 Z22 rfl (by decide) rfl rfl rfl rfl ⟨[p], [], rfl, ⟨_, rfl, am⟩, rfl⟩ rfl aT ?_)
  intro a4 b8 aB
  refine Za rfl rfl (Zo (v := a4) rfl rfl (Zb (ib_normal (Ze (Zd (Za rfl rfl (Exec.add rfl ar rfl (Za rfl rfl (Zm (v := Vi (IntKind.i64.wrap ((ae : Int) + 1))) rfl rfl (Zb (Ze ?_)))))))))))
  have bm := Zu g
  subst aY
  exact ⟨aZ, p, a4, (Zt x aF), ((aB).f2).f2, az, a0, rfl, rfl, a1, (Eq.trans rfl (wrap_up aE (by have h := must_some aP; simp at h; simp only [maxLen]; omega))), am⟩
 intro bp b9 a7
 obtain ⟨ap, al⟩ := bc
 replace hm := un2_eq hm
 obtain ⟨bx, aa, m, aG, aC, br, bs, bt, aK, aL, be, ax⟩ := a7
 refine Zc (Zd (Za rfl rfl (Zq rfl be aL (Zb (Ze (Zc (W_false (Zx (decide_eq_false (by omega))) (W_exit (at_exit (at_exit (ib_here (Ze (Zc (Zd (Za rfl rfl (Zm (v := m) rfl aK (Za rfl rfl (Zo (v := m) rfl rfl (Za rfl rfl (Zo (v := errV 69 (none)) rfl rfl (Zb (Ze (W_ret ?_)))))))))))))))))))))))
 have bn := Zu hm
 subst r
 refine ⟨_, ret2 rfl, ?_⟩
 obtain ⟨ba, aH, aD, aV⟩ := (aC).f2.freezeArr
 exact ⟨ba, m, (Zt (Zt (Zt (Zt a b) n) aG) aH), ((aD).drop).drop, (tup2 rfl rfl), aV⟩
theorem law58_before_sim {w0 w : World} {s : PHeap} {H : List Res} {a : simulate_Event} {b : simulate_Event}  {r : Bool} (hm : law58_before_p a b = some r) (hS : St w0 s (H) w)  :
  Calls Try.prog 14 #[Value.agg #[Vi (a.At), Vi (a.Launch), Value.bool (a.End)], Value.agg #[Vi (b.At), Vi (b.Launch), Value.bool (b.End)]] w fun e w' => ∃ v, e = .returned v ∧ ((fun (ae : Bool) => ∃ (q : PHeap) , PHeap.le s q ∧ St w0 q (H) w' ∧ v = Value.bool (ae)) r) := by
 unfold law58_before_p at hm
 refine calls_of_W Try.func14 rfl rfl (Zc (Zd (Za rfl rfl (Exec.box (cs := [Vi (a.At), Vi (a.Launch), Value.bool (a.End)]) hS rfl rfl rfl ?_))))
 intro l aj z
 refine Za rfl rfl (Exec.box (cs := [Vi (b.At), Vi (b.Launch), Value.bool (b.End)]) z rfl rfl rfl ?_)
 intro m ak h
 refine Za rfl rfl (Zo (v := Value.bool (false)) rfl rfl (Zb (Ze (Zc (Zc (W_mid (M := fun f' w' => ∃ (t : PHeap) , PHeap.le s t ∧ St w0 t (Res.box l 50 [Vi (a.At), Vi (a.Launch), Value.bool (a.End)] :: Res.box m 50 [Vi (b.At), Vi (b.Launch), Value.bool (b.End)] :: H) w' ∧ f' 2 = Value.pointer (some ⟨l, 0, none⟩) ∧ f' 3 = Value.pointer (some ⟨m, 0, none⟩) ∧ f' 16 = Value.bool (((!decide (a.At = b.At)) || !(a.End == b.End)))) ?_ ?_))))))
 ·refine Zd (Za rfl rfl (Zp F50_0 rfl rfl rfl (Za rfl rfl (Zn ((h).f1) A3 rfl rfl rfl (Za rfl rfl (Zp F50_0 rfl rfl rfl (Za rfl rfl (Zn (h) A3 rfl rfl rfl (Za rfl rfl (Exec.neq rfl rfl rfl (Za rfl rfl (Zm (v := Value.bool (!decide (a.At = b.At))) rfl rfl ?_))))))))))))
  by_cases c : (!decide (a.At = b.At)) = true
  ·refine WL_passes 6 (by rw [c]; rfl) ?_
   refine Zb (Ze ?_)
   exact ⟨s, (Zv _), (h).f1, rfl, rfl, (Zx (or_t c)).symm⟩
  replace c := Zk c
  refine WL_run rfl (Zf rfl (Zx c)) rfl (Zp F50_2 rfl rfl rfl (WL_run rfl (Zf rfl (Zx c)) rfl (Zn ((h).f1) A4 rfl rfl rfl (WL_run rfl (Zf rfl (Zx c)) rfl (Zp F50_2 rfl rfl rfl (WL_run rfl (Zf rfl (Zx c)) rfl (Zn (h) A4 rfl rfl rfl (WL_run rfl (Zf rfl (Zx c)) rfl (Exec.bool_neq Try.underlying4 rfl rfl rfl (Za rfl rfl (Exec.pick_f (v := Value.bool (!(a.End == b.End))) rfl (Zx c) rfl (Zb (Ze ?_)))))))))))))
  exact ⟨s, (Zv _), (h).f1, rfl, rfl, (Zx (or_f c)).symm⟩
 intro ah al x
 obtain ⟨j, n, d, k, o, p⟩ := x
 refine (Ze ?_)
 rcases ite_some hm with ⟨i, hm⟩ | ⟨i, hm⟩
 ·refine W_cond_t p i (Zc (W_mid (M := fun f' w' => ∃ (u : PHeap) , PHeap.le j u ∧ St w0 u (H) w' ∧ f' 4 = Value.bool (((decide (a.At = b.At)) && a.End))) ?_ ?_))
  ·refine Zd (Za rfl rfl (Zp F50_0 rfl k rfl (Za rfl rfl (Zn (d) A3 rfl rfl rfl (Za rfl rfl (Zp F50_0 rfl o rfl (Za rfl rfl (Zn ((d).f1) A3 rfl rfl rfl (Za rfl rfl (Exec.eql rfl rfl rfl (Za rfl rfl (Zm (v := Value.bool (decide (a.At = b.At))) rfl rfl ?_))))))))))))
   by_cases g : (decide (a.At = b.At)) = true
   ·refine WL_run rfl (Zf rfl (Zx g)) rfl (Zp F50_2 rfl k rfl (WL_run rfl (Zf rfl (Zx g)) rfl (Zn (d) A4 rfl rfl rfl ?_)))
    refine WL_passes 2 (by rw [g]; rfl) ?_
    refine Zb (Ze ?_)
    exact ⟨j, (Zv _), ((d).drop).drop, (Zx (and_t g)).symm⟩
   replace g := Zk g
   refine WL_passes 4 (by rw [g]; rfl) ?_
   refine Zb (Ze ?_)
   exact ⟨j, (Zv _), ((d).drop).drop, (Zx (and_f g)).symm⟩
  intro ai am y
  obtain ⟨ad, ab, aa, ac⟩ := y
  refine (Ze (W_ret (at_ret ?_)))
  have af := Zu hm
  subst r
  refine ⟨_, ret1 rfl, ?_⟩
  exact ⟨ad, (Zt n ab), aa, ac⟩
 refine W_cond_f p i ?_
 replace i := Zk i
 refine W_skip (Ze (Zc (Zd (Za rfl rfl (Zp F50_1 rfl k rfl (Za rfl rfl (Zn (d) A3 rfl rfl rfl (Za rfl rfl (Zp F50_1 rfl o rfl (Za rfl rfl (Zn ((d).f1) A3 rfl rfl rfl (Za rfl rfl (Zq rfl rfl rfl (Za rfl rfl (Zo (v := Value.bool (decide (a.Launch < b.Launch))) rfl rfl (Zb (Ze (W_ret ?_))))))))))))))))))
 have ag := Zu hm
 subst r
 refine ⟨_, ret1 rfl, ?_⟩
 exact ⟨j, n, ((d).drop).drop, rfl⟩
theorem law58_SimulateStates_sim {w0 w : World} {s : PHeap} {H : List Res} {fu : Nat} {aF : Temporal} {aL : (List Launch)} {ac : Value} {ad : Value} {ae : Value} {af : Value} {u : Value} {r : Bool} (hm : law58_SimulateStates_p fu aF aL = some r) (hS : St w0 s (H) w) (b3 : SliceRep (encInt .i64) s ac aF.Vars) (b4 : SliceRep (encInt .i64) s ad aF.Init) (b5 : SliceRep encFact s ae aF.Goal) (aV : SliceRep encJob s af aF.Jobs) (a9 : SliceRep encLaunch s u aL) :
  Calls Try.prog 5 #[Value.agg #[ac, ad, ae, af], u] w fun e w' => ∃ v, e = .returned v ∧ ((fun (eV : Bool) => ∃ (cC : PHeap) , PHeap.le s cC ∧ St w0 cC (H) w' ∧ v = Value.bool (eV)) r) := by
 unfold law58_SimulateStates_p at hm
 refine calls_of_W Try.func5 rfl rfl (Zc (Zd (Za rfl rfl (Exec.box (cs := [ac, ad, ae, af]) hS rfl rfl rfl ?_))))
 intro m gy dq
 refine Za rfl rfl (Zo (v := Value.bool (false)) rfl rfl (Zb (Ze (Zc (Zc ?_)))))
 obtain ⟨bm, a3, hm⟩ := Zg hm
 refine W_mid (M := fun f' w' => (fun (bm : Bool) => ∃ (cD : PHeap) , PHeap.le s cD ∧ St w0 cD (Res.box m 26 [ac, ad, ae, af] :: H) w' ∧ f' 1 = u ∧ f' 2 = Value.pointer (some ⟨m, 0, none⟩) ∧ f' 20 = Value.bool (bm)) bm) ?_ ?_
 ·refine Zd ?_
  obtain ⟨eW, ej, a3⟩ := Zg a3
  refine Za rfl rfl (Tc rfl rfl rfl args_nil (law58_awake_sim ej dq ).r ?_)
  rintro _ gz ⟨eF, aD, b6, rfl⟩
  refine Za rfl rfl (Exec.not rfl rfl (Za rfl rfl (Zm (v := Value.bool (!eW)) rfl rfl ?_)))
  rcases ite_some a3 with ⟨a0, a3⟩ | ⟨a0, a3⟩
  ·refine WL_passes 5 (by rw [a0]; rfl) ?_
   refine Zb (Ze ?_)
   have fl := Zu a3
   subst bm
   exact ⟨eF, aD, b6, rfl, rfl, rfl⟩
  replace a0 := Zk a0
  refine WL_run rfl (Zf rfl (Zx a0)) rfl (Exec.load_box_agg (ds := [ac, ad, ae, af]) (b6) A26 rfl rfl rfl (WL_run rfl (Zf rfl (Zx a0)) rfl (Zm (v := u) rfl rfl ?_)))
  obtain ⟨eX, ek, a3⟩ := Zg a3
  refine WL_run rfl (Zf rfl (Zx a0)) rfl (Tc rfl rfl rfl (Zi rfl (Zi rfl args_nil)) (law58_few_sim ek b6 (b3.mono aD) (b4.mono aD) (b5.mono aD) (aV.mono aD) (a9.mono aD)).r ?_)
  rintro _ g0 ⟨eG, dA, dr, rfl⟩
  refine WL_run rfl (Zf rfl (Zx a0)) rfl (Exec.not rfl rfl (Za rfl rfl (Exec.pick_f (v := Value.bool (!eX)) rfl (Zx a0) rfl (Zb (Ze ?_)))))
  have fm := Zu a3
  subst bm
  exact ⟨eG, (Zt aD dA), dr, rfl, rfl, rfl⟩
 intro fO g1 df
 obtain ⟨gq, i, b7, bC, bD, ci⟩ := df
 refine (Ze ?_)
 rcases ite_some hm with ⟨aX, hm⟩ | ⟨aX, hm⟩
 ·refine W_cond_t ci aX (Zc (Zd ?_))
  obtain ⟨eY, el, hm⟩ := Zg hm
  refine Za rfl rfl (Tc rfl rfl rfl args_nil (law58_awake_sim el b7 ).r ?_)
  rintro _ g2 ⟨eH, dB, dt, rfl⟩
  refine Za rfl rfl (Zo (v := Value.bool (eY)) rfl rfl (Zb (Ze (W_ret (at_ret ?_)))))
  have fn := Zu hm
  subst r
  refine ⟨_, ret1 rfl, ?_⟩
  exact ⟨eH, (Zt i dB), (dt).drop, rfl⟩
 refine W_cond_f ci aX ?_
 replace aX := Zk aX
 refine W_skip (Ze (Zc (Zd (Za rfl rfl (Exec.load_box_agg (ds := [ac, ad, ae, af]) (b7) A26 rfl bD rfl (Za rfl rfl (Zm (v := u) rfl bC ?_)))))))
 obtain ⟨eN, em, hm⟩ := Zg hm
 obtain ⟨aG, d⟩ := eN
 replace hm := un2_eq hm
 refine Za rfl rfl (Tc rfl rfl rfl (Zi rfl (Zi rfl args_nil)) (simulate_Run_sim em b7 (b3.mono i) (b4.mono i) (b5.mono i) (aV.mono i) (a9.mono i)).r ?_)
 rintro _ g3 ⟨bT, o, an, ao, t, du, rfl, a8, aS, eA⟩
 refine Za rfl rfl (Zm (v := Value.tuple #[Value.agg #[o, an, ao, Vi (d.Makespan)], errV 69 (aG)]) rfl rfl (Za rfl rfl (Exec.extract (v := Value.agg #[o, an, ao, Vi (d.Makespan)]) rfl rfl rfl (Za rfl rfl (Exec.extract (v := errV 69 (aG)) rfl rfl rfl (Za rfl rfl (Exec.alloc (cs := [Value.slice none 0 0, Value.slice none 0 0, Value.slice none 0 0, Vi (0)]) du Z38 rfl rfl ?_)))))))
 intro p g4 dv
 refine Za rfl rfl (Exec.store_box (ds := [o, an, ao, Vi (d.Makespan)]) (es := [o, an, ao, Vi (d.Makespan)]) dv A38 rfl rfl rfl rfl (Zj (a8).one (Zj (aS).one (Zj (eA).one (Zj rfl one_nil)))) (Nat.le_of_ble_eq_true rfl) rfl ?_)
 intro g5 b8
 refine Za rfl rfl (Zo (v := errV 69 (aG)) rfl rfl (Zb (Ze (Zc (Zc (W_mid (M := fun f' w' => ∃ (cE : PHeap) , PHeap.le bT cE ∧ St w0 cE (Res.box m 26 [ac, ad, ae, af] :: Res.box p 38 [o, an, ao, Vi (d.Makespan)] :: H) w' ∧ f' 1 = u ∧ f' 2 = Value.pointer (some ⟨m, 0, none⟩) ∧ f' 5 = Value.pointer (some ⟨p, 0, none⟩) ∧ f' 34 = Value.bool ((aG.isSome || decide (1000 < d.Makespan)))) ?_ ?_))))))
 ·refine Zd (Za rfl rfl (Zm (v := errV 69 (aG)) rfl rfl (Za rfl rfl (Exec.err_neq_nil (T := 69) Try.underlying31 rfl rfl rfl (Za rfl rfl (Zm (v := Value.bool (aG.isSome)) rfl rfl ?_))))))
  by_cases a1 : aG.isSome = true
  ·refine WL_passes 4 (by rw [a1]; rfl) ?_
   refine Zb (Ze ?_)
   exact ⟨bT, (Zv _), (b8).f1, bC, bD, rfl, (Zx (or_t a1)).symm⟩
  replace a1 := Zk a1
  refine WL_run rfl (Zf rfl (Zx a1)) rfl (Zp F38_3 rfl rfl rfl (WL_run rfl (Zf rfl (Zx a1)) rfl (Zn (b8) A3 rfl rfl rfl (WL_run rfl (Zf rfl (Zx a1)) rfl (Exec.gtr rfl rfl rfl (Za rfl rfl (Exec.pick_f (v := Value.bool (decide (1000 < d.Makespan))) rfl (Zx a1) rfl (Zb (Ze ?_)))))))))
  exact ⟨bT, (Zv _), (b8).f1, bC, bD, rfl, (Zx (or_f a1)).symm⟩
 intro fP g6 dg
 obtain ⟨eI, c, b9, bq, bE, bF, cj⟩ := dg
 refine (Ze ?_)
 rcases ite_some hm with ⟨aY, hm⟩ | ⟨aY, hm⟩
 ·refine W_cond_t cj aY (Zc (Zd (Za rfl rfl (Zo (v := Value.bool (true)) rfl rfl (Zb (Ze (W_ret (at_ret ?_))))))))
  have fo := Zu hm
  subst r
  refine ⟨_, ret1 rfl, ?_⟩
  exact ⟨eI, (Zt (Zt i t) c), ((b9).drop).drop, rfl⟩
 refine W_cond_f cj aY ?_
 replace aY := Zk aY
 refine W_skip (Ze (Zc (Zd (Za rfl rfl (Exec.load_box_agg (ds := [ac, ad, ae, af]) (b9) A26 rfl bE rfl (Za rfl rfl (Zm (v := u) rfl bq ?_)))))))
 obtain ⟨eO, en, hm⟩ := Zg hm
 obtain ⟨b2, aH⟩ := eO
 replace hm := un2_eq hm
 refine Za rfl rfl (Tc rfl rfl rfl (Zi rfl (Zi rfl args_nil)) (temporal_States_sim en b9 (b3.mono (Zt (Zt i t) c)) (b4.mono (Zt (Zt i t) c)) (b5.mono (Zt (Zt i t) c)) (aV.mono (Zt (Zt i t) c)) (a9.mono (Zt (Zt i t) c))).r ?_)
 rintro _ g7 ⟨bU, ah, j, bA, rfl, bw⟩
 refine Za rfl rfl (Zm (v := Value.tuple #[ah, errV 69 (aH)]) rfl rfl (Za rfl rfl (Exec.extract (v := ah) rfl rfl rfl (Za rfl rfl (Exec.extract (v := errV 69 (aH)) rfl rfl rfl (Za rfl rfl (Zo (v := ah) rfl rfl (Za rfl rfl (Zo (v := errV 69 (aH)) rfl rfl (Zb (Ze (Zc (Zc (W_mid (M := fun f' w' => ∃ (cF : PHeap) , PHeap.le bU cF ∧ St w0 cF (Res.box m 26 [ac, ad, ae, af] :: Res.box p 38 [o, an, ao, Vi (d.Makespan)] :: H) w' ∧ f' 1 = u ∧ f' 2 = Value.pointer (some ⟨m, 0, none⟩) ∧ f' 5 = Value.pointer (some ⟨p, 0, none⟩) ∧ f' 7 = ah ∧ f' 51 = Value.bool ((aH.isSome || !decide ((d.Events.length : Int) = (IntKind.i64.wrap (2 * (aL.length : Int))))))) ?_ ?_))))))))))))))
 ·refine Zd (Za rfl rfl (Zm (v := errV 69 (aH)) rfl rfl (Za rfl rfl (Exec.err_neq_nil (T := 69) Try.underlying31 rfl rfl rfl (Za rfl rfl (Zm (v := Value.bool (aH.isSome)) rfl rfl ?_))))))
  by_cases ap : aH.isSome = true
  ·refine WL_passes 8 (by rw [ap]; rfl) ?_
   refine Zb (Ze ?_)
   exact ⟨bU, (Zv _), ((bA).f1).f1, bq, bE, bF, rfl, (Zx (or_t ap)).symm⟩
  replace ap := Zk ap
  refine WL_run rfl (Zf rfl (Zx ap)) rfl (Zp F38_0 rfl bF rfl (WL_run rfl (Zf rfl (Zx ap)) rfl (Zn ((bA).f1) A34 rfl rfl rfl (WL_run rfl (Zf rfl (Zx ap)) rfl (Zr S34 rfl rfl (a8.mono (Zt c j)) (WL_run rfl (Zf rfl (Zx ap)) rfl (Zm (v := u) rfl bq (WL_run rfl (Zf rfl (Zx ap)) rfl (Zr S27 rfl rfl (a9.mono (Zt (Zt (Zt i t) c) j)) (WL_run rfl (Zf rfl (Zx ap)) rfl (Exec.mul rfl rfl rfl (WL_run rfl (Zf rfl (Zx ap)) rfl (Exec.neq rfl rfl rfl (Za rfl rfl (Exec.pick_f (v := Value.bool (!decide ((d.Events.length : Int) = (IntKind.i64.wrap (2 * (aL.length : Int)))))) rfl (Zx ap) rfl (Zb (Ze ?_)))))))))))))))))
  exact ⟨bU, (Zv _), ((bA).f1).f1, bq, bE, bF, rfl, (Zx (or_f ap)).symm⟩
 intro fQ g8 dh
 obtain ⟨bx, g, bB, dF, dG, ck, dH, cl⟩ := dh
 refine (Ze ?_)
 rcases ite_some hm with ⟨aZ, hm⟩ | ⟨aZ, hm⟩
 ·refine W_cond_t cl aZ (Zc (Zd (Za rfl rfl (Zo (v := Value.bool (false)) rfl rfl (Zb (Ze (W_ret (at_ret ?_))))))))
  have fp := Zu hm
  subst r
  refine ⟨_, ret1 rfl, ?_⟩
  exact ⟨bx, (Zt (Zt (Zt (Zt i t) c) j) g), ((bB).drop).drop, rfl⟩
 refine W_cond_f cl aZ ?_
 replace aZ := Zk aZ
 refine W_skip (Ze (Zc (Zd (Za rfl rfl (Zo (v := Vi ((-1))) rfl rfl (Zb (Ze (Zc (Zc (Zd (Za rfl rfl (Zp F38_0 rfl ck rfl (Za rfl rfl (Zn ((bB).f1) A34 rfl rfl rfl (Za rfl rfl (Zr S34 rfl rfl (a8.mono (Zt (Zt c j) g)) (Za rfl rfl (Zm (v := Vi (0)) rfl rfl (Zb (Ze ?_))))))))))))))))))))
 obtain ⟨bX, dc, aJ, d2, d1⟩ := ctl_some hm
 refine W_mid (M := fun f' w' => ∃ s', (bX = .next s' ∨ bX = .brk s') ∧ (fun (bp : Int) => ∃ (cG : PHeap) , PHeap.le bx cG ∧ St w0 cG (Res.box m 26 [ac, ad, ae, af] :: Res.box p 38 [o, an, ao, Vi (d.Makespan)] :: H) w' ∧ f' 1 = u ∧ f' 2 = Value.pointer (some ⟨m, 0, none⟩) ∧ f' 5 = Value.pointer (some ⟨p, 0, none⟩) ∧ f' 7 = ah ∧ f' 8 = Vi (bp) ∧ f' 53 = o ∧ f' 54 = Vi ((d.Events.length : Int))) s') ?_ ?_
 ·refine W_block (W_forC (fun k' s' f' w' => (fun (ab : Int) => ∃ (cH : PHeap) , PHeap.le bx cH ∧ St w0 cH (Res.box m 26 [ac, ad, ae, af] :: Res.box p 38 [o, an, ao, Vi (d.Makespan)] :: H) w' ∧ f' 1 = u ∧ f' 2 = Value.pointer (some ⟨m, 0, none⟩) ∧ f' 5 = Value.pointer (some ⟨p, 0, none⟩) ∧ f' 7 = ah ∧ f' 8 = Vi (ab) ∧ f' 53 = o ∧ f' 54 = Vi ((d.Events.length : Int)) ∧ f' 55 = Vi (k' : Int)) s') dc ?_ ?_ ?_)
  ·have dw := (bB).f1
   exact ⟨bx, (Zv _), (dw).f1, dF, dG, ck, dH, rfl, rfl, rfl, rfl⟩
  ·intro y ab a5 fR g9 ce dd a aK
   obtain ⟨bV, l, bY, bG, cm, cn, co, cp, bH, bI, bl⟩ := dd
   refine Zc (Zd (Za rfl rfl (Zq rfl bl bI (Zb (Ze (Zc (W_true (Zx (decide_eq_true (by omega))) (W_skip (Ze (Zc (W_block (Zc (Zd (Za rfl rfl (Zm (v := Vi ((y : Int))) rfl bl ?_)))))))))))))))
   obtain ⟨b, eo, a⟩ := Zg a
   refine Za rfl rfl (Exec.index_rep S34 rfl bH bl (a8.mono (Zt (Zt (Zt c j) g) l)) eo ?_)
   intro fb ga cS
   refine Za rfl rfl (Zw (E := encsimulate_Event) bY A50 rfl rfl rfl cS ?_)
   intro gr ep
   obtain rfl := encsimulate_Event_val.1 ep
   refine Za rfl rfl (Exec.alloc (cs := [Vi (0), Vi (0), Value.bool (false)]) bY Z50 rfl rfl ?_)
   intro a4 gA dx
   refine Za rfl rfl (Zo (v := Vi ((y : Int))) rfl rfl (Za rfl rfl (Exec.store_box (ds := [Vi (b.At), Vi (b.Launch), Value.bool (b.End)]) (es := [Vi (b.At), Vi (b.Launch), Value.bool (b.End)]) dx A50 rfl rfl rfl rfl (Zj rfl (Zj rfl (Zj rfl one_nil))) (Nat.le_of_ble_eq_true rfl) rfl ?_)))
   intro gB bo
   refine Zb (Ze (Zc (Zc (W_mid (M := fun f' w' => ∃ (cI : PHeap) , PHeap.le bV cI ∧ St w0 cI (Res.box m 26 [ac, ad, ae, af] :: Res.box p 38 [o, an, ao, Vi (d.Makespan)] :: Res.box a4 50 [Vi (b.At), Vi (b.Launch), Value.bool (b.End)] :: H) w' ∧ f' 1 = u ∧ f' 2 = Value.pointer (some ⟨m, 0, none⟩) ∧ f' 5 = Value.pointer (some ⟨p, 0, none⟩) ∧ f' 7 = ah ∧ f' 8 = Vi (ab) ∧ f' 9 = Vi ((y : Int)) ∧ f' 10 = Value.pointer (some ⟨a4, 0, none⟩) ∧ f' 53 = o ∧ f' 54 = Vi ((d.Events.length : Int)) ∧ f' 55 = Vi ((y : Int)) ∧ f' 69 = Value.bool (((decide (b.Launch < 0)) || decide ((aL.length : Int) ≤ b.Launch)))) ?_ ?_))))
   ·refine Zd (Za rfl rfl (Zp F50_1 rfl rfl rfl (Za rfl rfl (Zn (bo) A3 rfl rfl rfl (Za rfl rfl (Zq rfl rfl rfl (Za rfl rfl (Zm (v := Value.bool (decide (b.Launch < 0))) rfl rfl ?_))))))))
    by_cases ar : (decide (b.Launch < 0)) = true
    ·refine WL_passes 6 (by rw [ar]; rfl) ?_
     refine Zb (Ze ?_)
     exact ⟨bV, (Zv _), ((bo).f2).f2, bG, cm, cn, co, cp, rfl, rfl, bH, bI, bl, (Zx (or_t ar)).symm⟩
    replace ar := Zk ar
    refine WL_run rfl (Zf rfl (Zx ar)) rfl (Zp F50_1 rfl rfl rfl (WL_run rfl (Zf rfl (Zx ar)) rfl (Zn (bo) A3 rfl rfl rfl (WL_run rfl (Zf rfl (Zx ar)) rfl (Zm (v := u) rfl bG (WL_run rfl (Zf rfl (Zx ar)) rfl (Zr S27 rfl rfl (a9.mono (Zt (Zt (Zt (Zt (Zt i t) c) j) g) l)) (WL_run rfl (Zf rfl (Zx ar)) rfl (Exec.geq rfl rfl rfl (Za rfl rfl (Exec.pick_f (v := Value.bool (decide ((aL.length : Int) ≤ b.Launch))) rfl (Zx ar) rfl (Zb (Ze ?_)))))))))))))
    exact ⟨bV, (Zv _), ((bo).f2).f2, bG, cm, cn, co, cp, rfl, rfl, bH, bI, bl, (Zx (or_f ar)).symm⟩
   intro fS gC di
   obtain ⟨bk, n, a6, br, bs, bJ, bK, bL, bM, bi, bN, bO, bP, cq⟩ := di
   refine (Ze ?_)
   rcases ite_some a with ⟨ba, a⟩ | ⟨ba, a⟩
   ·refine W_cond_t cq ba (Zc (Zd (Za rfl rfl (Zo (v := Value.bool (false)) rfl rfl (Zb (Ze (W_ret (at_ret (ib_ret (at_ret (at_ret (ib_ret (at_ret (at_ret ?_))))))))))))))
    have fq := Zu a
    subst a5
    have d3 := aJ _ (aK (by intro _ h; cases h))
    have fr := Zu d3
    subst r
    refine ⟨_, ret1 rfl, ?_⟩
    exact ⟨bk, (Zt (Zt (Zt (Zt (Zt (Zt i t) c) j) g) l) n), (((a6).drop).drop).drop, rfl⟩
   refine W_cond_f cq ba ?_
   replace ba := Zk ba
   refine W_skip (Ze (Zc (Zd (Za rfl rfl (Zm (v := u) rfl br (Za rfl rfl (Zp F50_1 rfl bi rfl (Za rfl rfl (Zn ((a6).f2) A3 rfl rfl rfl ?_)))))))))
   obtain ⟨al, cB, a⟩ := Zg a
   refine Za rfl rfl (Exec.index_rep S27 rfl rfl rfl (a9.mono (Zt (Zt (Zt (Zt (Zt (Zt i t) c) j) g) l) n)) cB ?_)
   intro fc gb cT
   refine Za rfl rfl (Zp F45_1 rfl rfl rfl (Za rfl rfl (Zw (E := (encInt .i64)) a6 A3 rfl rfl rfl (cT.sub (Sub.iso (Sub.snd (Sub.refl _) rfl)) rfl) ?_)))
   intro eP er
   obtain rfl : eP = Vi (al.Job) := encInt_val.1 er
   refine Za rfl rfl (Zo (v := Vi (al.Job)) rfl rfl (Zb (Ze (Zc (Zc (W_mid (M := fun f' w' => ∃ (cJ : PHeap) , PHeap.le bk cJ ∧ St w0 cJ (Res.box m 26 [ac, ad, ae, af] :: Res.box p 38 [o, an, ao, Vi (d.Makespan)] :: Res.box a4 50 [Vi (b.At), Vi (b.Launch), Value.bool (b.End)] :: H) w' ∧ f' 1 = u ∧ f' 2 = Value.pointer (some ⟨m, 0, none⟩) ∧ f' 5 = Value.pointer (some ⟨p, 0, none⟩) ∧ f' 7 = ah ∧ f' 8 = Vi (ab) ∧ f' 9 = Vi ((y : Int)) ∧ f' 10 = Value.pointer (some ⟨a4, 0, none⟩) ∧ f' 11 = Vi (al.Job) ∧ f' 53 = o ∧ f' 54 = Vi ((d.Events.length : Int)) ∧ f' 55 = Vi ((y : Int)) ∧ f' 89 = Value.bool (((decide (al.Job < 0)) || ((decide ((aF.Jobs.length : Int) ≤ al.Job)) || decide (b.At < 0))))) ?_ ?_))))))
   ·refine Zd (Za rfl rfl (Zm (v := Vi (al.Job)) rfl rfl (Za rfl rfl (Zq rfl rfl rfl (Za rfl rfl (Zm (v := Value.bool (decide (al.Job < 0))) rfl rfl ?_))))))
    by_cases aq : (decide (al.Job < 0)) = true
    ·refine WL_passes 11 (by rw [aq]; rfl) ?_
     refine Zb (Ze ?_)
     exact ⟨bk, (Zv _), (((a6).f2).f2).f2, br, bs, bJ, bK, bL, bM, bi, rfl, bN, bO, bP, (Zx (or_t aq)).symm⟩
    replace aq := Zk aq
    refine WL_run rfl (Zf rfl (Zx aq)) rfl (Zm (v := Vi (al.Job)) rfl rfl (WL_run rfl (Zf rfl (Zx aq)) rfl (Zp F26_3 rfl bs rfl (WL_run rfl (Zf rfl (Zx aq)) rfl (Zn (a6) A24 rfl rfl rfl (WL_run rfl (Zf rfl (Zx aq)) rfl (Zr S24 rfl rfl (aV.mono (Zt (Zt (Zt (Zt (Zt (Zt i t) c) j) g) l) n)) (WL_run rfl (Zf rfl (Zx aq)) rfl (Exec.geq rfl rfl rfl ?_)))))))))
    refine WL_passes 2 (by rw [aq]; rfl) ?_
    by_cases a2 : (decide ((aF.Jobs.length : Int) ≤ al.Job)) = true
    ·refine WL_passes 4 (by rw [a2]; rfl) ?_
     refine Zb (Ze ?_)
     exact ⟨bk, (Zv _), (((a6).f2).f2).f2, br, bs, bJ, bK, bL, bM, bi, rfl, bN, bO, bP, (Zx (Eq.trans (or_f aq) (or_t a2))).symm⟩
    replace a2 := Zk a2
    refine WL_run rfl (Zf rfl (Zx a2)) rfl (Zp F50_0 rfl bi rfl (WL_run rfl (Zf rfl (Zx a2)) rfl (Zn ((a6).f2) A3 rfl rfl rfl (WL_run rfl (Zf rfl (Zx a2)) rfl (Zq rfl rfl rfl (Za rfl rfl (Exec.pick_f (v := Value.bool (decide (b.At < 0))) rfl (Zx a2) rfl (Zb (Ze ?_)))))))))
    exact ⟨bk, (Zv _), (((a6).f2).f2).f2, br, bs, bJ, bK, bL, bM, bi, rfl, bN, bO, bP, (Zx (Eq.trans (or_f aq) (or_f a2))).symm⟩
   intro fT gD dj
   obtain ⟨bz, x, a7, bQ, bR, cr, ct, cu, cv, bt, dI, cw, cx, cy, cz⟩ := dj
   refine (Ze ?_)
   rcases ite_some a with ⟨bb, a⟩ | ⟨bb, a⟩
   ·refine W_cond_t cz bb (Zc (Zd (Za rfl rfl (Zo (v := Value.bool (false)) rfl rfl (Zb (Ze (W_ret (at_ret (ib_ret (at_ret (at_ret (ib_ret (at_ret (at_ret ?_))))))))))))))
    have fs := Zu a
    subst a5
    have d4 := aJ _ (aK (by intro _ h; cases h))
    have ft := Zu d4
    subst r
    refine ⟨_, ret1 rfl, ?_⟩
    exact ⟨bz, (Zt (Zt (Zt (Zt (Zt (Zt (Zt i t) c) j) g) l) n) x), (((a7).drop).drop).drop, rfl⟩
   refine W_cond_f cz bb ?_
   replace bb := Zk bb
   refine W_skip (Ze (Zc (Zd (Za rfl rfl (Zm (v := u) rfl bQ (Za rfl rfl (Zp F50_1 rfl bt rfl (Za rfl rfl (Zn ((a7).f2) A3 rfl rfl rfl (Za rfl rfl (Exec.index_rep S27 rfl rfl rfl (a9.mono (Zt (Zt (Zt (Zt (Zt (Zt (Zt i t) c) j) g) l) n) x)) cB ?_)))))))))))
   intro fd gc cU
   refine Za rfl rfl (Zp F45_0 rfl rfl rfl (Za rfl rfl (Zw (E := (encInt .i64)) a7 A3 rfl rfl rfl (cU.sub (Sub.iso (Sub.fst (Sub.refl _))) rfl) ?_)))
   intro eQ et
   obtain rfl : eQ = Vi (al.At) := encInt_val.1 et
   refine Za rfl rfl (Zo (v := Vi (al.At)) rfl rfl (Zb (Ze (Zc (Zc (Zd (Za rfl rfl (Zp F50_2 rfl bt rfl (Za rfl rfl (Zn ((a7).f2) A4 rfl rfl rfl (Zb (Ze ?_))))))))))))
   obtain ⟨aI, aB, a⟩ := Zg a
   refine W_mid (M := fun f' w' => (fun (aI : Int) => ∃ (cK : PHeap) , PHeap.le bz cK ∧ St w0 cK (Res.box m 26 [ac, ad, ae, af] :: Res.box p 38 [o, an, ao, Vi (d.Makespan)] :: Res.box a4 50 [Vi (b.At), Vi (b.Launch), Value.bool (b.End)] :: H) w' ∧ f' 1 = u ∧ f' 2 = Value.pointer (some ⟨m, 0, none⟩) ∧ f' 5 = Value.pointer (some ⟨p, 0, none⟩) ∧ f' 7 = ah ∧ f' 8 = Vi (ab) ∧ f' 9 = Vi ((y : Int)) ∧ f' 10 = Value.pointer (some ⟨a4, 0, none⟩) ∧ f' 12 = Vi (aI) ∧ f' 53 = o ∧ f' 54 = Vi ((d.Events.length : Int)) ∧ f' 55 = Vi ((y : Int))) aI) ?_ ?_
   ·rcases ite_some aB with ⟨bc, aB⟩ | ⟨bc, aB⟩
    ·refine W_cond_t rfl bc (Zd (Za rfl rfl (Zm (v := Vi (al.At)) rfl rfl (Za rfl rfl (Zp F26_3 rfl bR rfl (Za rfl rfl (Zn (a7) A24 rfl rfl rfl (Za rfl rfl (Zm (v := Vi (al.Job)) rfl dI ?_)))))))))
     obtain ⟨cQ, eu, aB⟩ := Zg aB
     refine Za rfl rfl (Exec.index_rep S24 rfl rfl rfl (aV.mono (Zt (Zt (Zt (Zt (Zt (Zt (Zt i t) c) j) g) l) n) x)) eu ?_)
     intro fe gd cV
     refine Za rfl rfl (Zp F52_1 rfl rfl rfl (Za rfl rfl (Zw (E := (encInt .i64)) a7 A3 rfl rfl rfl (cV.sub (Sub.iso (Sub.snd (Sub.fst (Sub.refl _)) rfl)) rfl) ?_)))
     intro eR ev
     obtain rfl : eR = Vi (cQ.Duration) := encInt_val.1 ev
     refine Za rfl rfl (Exec.add rfl rfl rfl (Za rfl rfl (Zo (v := Vi (IntKind.i64.wrap (al.At + cQ.Duration))) rfl rfl (Zb (Ze ?_)))))
     have fv := Zu aB
     subst aI
     exact ⟨bz, (Zv _), (((a7).f2).f2).f2, bQ, bR, cr, ct, cu, cv, bt, rfl, cw, cx, cy⟩
    refine W_cond_f rfl bc ?_
    replace bc := Zk bc
    refine W_skip (Ze ?_)
    have fw := Zu aB
    subst aI
    exact ⟨bz, (Zv _), (((a7).f2).f2).f2, bQ, bR, cr, ct, cu, cv, bt, rfl, cw, cx, cy⟩
   intro fU gE dk
   obtain ⟨b0, ag, aA, c0, c1, bS, c2, c3, bu, bv, dJ, c4, c5, c6⟩ := dk
   refine (Ze (Zc (Zc (Zd (Za rfl rfl (Zp F50_0 rfl bv rfl (Za rfl rfl (Zn ((aA).f2) A3 rfl rfl rfl (Za rfl rfl (Zm (v := Vi (aI)) rfl dJ (Za rfl rfl (Exec.neq rfl rfl rfl (Zb (Ze ?_))))))))))))))
   rcases ite_some a with ⟨bd, a⟩ | ⟨bd, a⟩
   ·refine W_cond_t rfl bd (Zc (Zd (Za rfl rfl (Zo (v := Value.bool (false)) rfl rfl (Zb (Ze (W_ret (at_ret (ib_ret (at_ret (at_ret (ib_ret (at_ret (at_ret ?_))))))))))))))
    have fx := Zu a
    subst a5
    have d5 := aJ _ (aK (by intro _ h; cases h))
    have fy := Zu d5
    subst r
    refine ⟨_, ret1 rfl, ?_⟩
    exact ⟨b0, (Zt (Zt (Zt (Zt (Zt (Zt (Zt (Zt i t) c) j) g) l) n) x) ag), (((aA).drop).drop).drop, rfl⟩
   refine W_cond_f rfl bd ?_
   replace bd := Zk bd
   refine W_skip (Ze (Zc (Zc ?_)))
   obtain ⟨bn, aC, a⟩ := Zg a
   refine W_mid (M := fun f' w' => (fun (bn : Bool) => ∃ (cL : PHeap) , PHeap.le b0 cL ∧ St w0 cL (Res.box m 26 [ac, ad, ae, af] :: Res.box p 38 [o, an, ao, Vi (d.Makespan)] :: Res.box a4 50 [Vi (b.At), Vi (b.Launch), Value.bool (b.End)] :: H) w' ∧ f' 1 = u ∧ f' 2 = Value.pointer (some ⟨m, 0, none⟩) ∧ f' 5 = Value.pointer (some ⟨p, 0, none⟩) ∧ f' 7 = ah ∧ f' 8 = Vi (ab) ∧ f' 9 = Vi ((y : Int)) ∧ f' 10 = Value.pointer (some ⟨a4, 0, none⟩) ∧ f' 53 = o ∧ f' 54 = Vi ((d.Events.length : Int)) ∧ f' 55 = Vi ((y : Int)) ∧ f' 123 = Value.bool (bn)) bn) ?_ ?_
   ·refine W_dl (n0 := 14) (qs 0 14 .done) hmix (by kernel_rfl) (by kernel_rfl) (DL_q rfl rfl (Zm (v := Vi ((y : Int))) rfl bu ⟨rfl, ?_⟩))
    refine DL_q rfl rfl (Exec.eql rfl rfl rfl ⟨rfl, ?_⟩)
    refine DL_q rfl rfl (Zm (v := Value.bool (decide ((y : Int) = 0))) rfl rfl ⟨rfl, ?_⟩)
    rcases ite_some aC with ⟨ai, aC⟩ | ⟨ai, aC⟩
    ·refine DL_passes 11 (by rw [ai]; rfl) ?_
     refine DL_done (Zb (Ze ?_))
     have fz := Zu aC
     subst bn
     exact ⟨b0, (Zv _), (((aA.drew).f2).f2).f2, c0, c1, bS, c2, c3, bu, bv, c4, c5, c6, rfl⟩
    replace ai := Zk ai
    refine DL_qg rfl rfl (Zf rfl (Zx ai)) (Zp F38_0 rfl bS rfl ⟨rfl, ?_⟩)
    refine DL_qg rfl rfl (Zf rfl (Zx ai)) (Zn ((aA.drew).f1) A34 rfl rfl rfl ⟨rfl, ?_⟩)
    refine DL_qg rfl rfl (Zf rfl (Zx ai)) (Zm (v := Vi ((y : Int))) rfl bu ⟨rfl, ?_⟩)
    refine DL_qg rfl rfl (Zf rfl (Zx ai)) (Exec.sub rfl rfl rfl ⟨rfl, ?_⟩)
    obtain ⟨cR, ew, aC⟩ := Zg aC
    refine DL_qg rfl rfl (Zf rfl (Zx ai)) (Exec.index_repE S34 rfl rfl rfl (a8.mono (Zt (Zt (Zt (Zt (Zt (Zt c j) g) l) n) x) ag)) ew ?_)
    intro ff gf cW f0
    refine ⟨rfl, ?_⟩
    refine DL_qg rfl rfl (Zf rfl (Zx ai)) (Zp F50_0 rfl rfl rfl ⟨rfl, ?_⟩)
    refine DL_qg rfl rfl (Zf rfl (Zx ai)) (Zw (E := (encInt .i64)) aA.drew A3 rfl rfl rfl (cW.sub (Sub.iso (Sub.fst (Sub.refl _))) rfl) ?_)
    intro eS ex
    obtain rfl : eS = Vi (cR.At) := encInt_val.1 ex
    refine ⟨rfl, ?_⟩
    refine DL_qg rfl rfl (Zf rfl (Zx ai)) (Zp F50_0 rfl bv rfl ⟨rfl, ?_⟩)
    refine DL_qg rfl rfl (Zf rfl (Zx ai)) (Zn ((aA.drew).f2) A3 rfl rfl rfl ⟨rfl, ?_⟩)
    refine DL_qg rfl rfl (Zf rfl (Zx ai)) (Zq rfl rfl rfl ⟨rfl, ?_⟩)
    refine DL_q rfl rfl (Exec.pick_f (v := Value.bool (decide (cR.At < b.At))) rfl (Zx ai) rfl ⟨rfl, ?_⟩)
    refine DL_done (Zb (Ze ?_))
    have f3 := Zu aC
    subst bn
    exact ⟨b0, (Zv _), (((aA.drew).f2).f2).f2, c0, c1, bS, c2, c3, bu, bv, c4, c5, c6, rfl⟩
   intro fV gF dl
   obtain ⟨bW, am, aW, aM, aN, au, ax, aO, dK, bj, aP, aQ, aR, c7⟩ := dl
   refine (Ze ?_)
   rcases ite_some a with ⟨be, a⟩ | ⟨be, a⟩
   ·refine W_cond_t c7 be (Zd (Za rfl rfl (Zm (v := Vi (ab)) rfl aO (Za rfl rfl (Exec.add rfl rfl rfl (Za rfl rfl (Zo (v := Vi (IntKind.i64.wrap (ab + 1))) rfl rfl (Zb (Ze (Zc ?_))))))))))
    obtain ⟨aT, aj, a⟩ := Zg a
    refine W_mid (M := fun f' w' => (fun (aT : Bool) => ∃ (cM : PHeap) , PHeap.le bW cM ∧ St w0 cM (Res.box m 26 [ac, ad, ae, af] :: Res.box p 38 [o, an, ao, Vi (d.Makespan)] :: H) w' ∧ f' 1 = u ∧ f' 2 = Value.pointer (some ⟨m, 0, none⟩) ∧ f' 5 = Value.pointer (some ⟨p, 0, none⟩) ∧ f' 7 = ah ∧ f' 8 = Vi (IntKind.i64.wrap (ab + 1)) ∧ f' 53 = o ∧ f' 54 = Vi ((d.Events.length : Int)) ∧ f' 55 = Vi ((y : Int)) ∧ f' 160 = Value.bool (aT)) aT) ?_ ?_
    ·refine W_dl (n0 := 26) (qs 0 23 (.e 23 [] (.q 24 (.q 25 .done)))) hmix (by kernel_rfl) (by kernel_rfl) ?_
     have ay := aW.drew
     refine DL_q rfl rfl (Zm (v := Vi (IntKind.i64.wrap (ab + 1))) rfl rfl ⟨rfl, ?_⟩)
     refine DL_q rfl rfl (Zp F38_1 rfl au rfl ⟨rfl, ?_⟩)
     refine DL_q rfl rfl (Zn ((ay).f1) A35 rfl rfl rfl ⟨rfl, ?_⟩)
     refine DL_q rfl rfl (Zr S35 rfl rfl (aS.mono (Zt (Zt (Zt (Zt (Zt (Zt (Zt c j) g) l) n) x) ag) am)) ⟨rfl, ?_⟩)
     refine DL_q rfl rfl (Exec.geq rfl rfl rfl ⟨rfl, ?_⟩)
     refine DL_q rfl rfl (Zm (v := Value.bool (decide ((d.States.length : Int) ≤ (IntKind.i64.wrap (ab + 1))))) rfl rfl ⟨rfl, ?_⟩)
     rcases ite_some aj with ⟨av, aj⟩ | ⟨av, aj⟩
     ·refine DL_passes 20 (by rw [av]; rfl) ?_
      refine DL_done (Zb (Ze ?_))
      have f4 := Zu aj
      subst aT
      exact ⟨bW, (Zv _), ((((ay).f2).drop).f1).f1, aM, aN, au, ax, rfl, aP, aQ, aR, rfl⟩
     replace av := Zk av
     refine DL_qg rfl rfl (Zf rfl (Zx av)) (Zp F50_0 rfl bj rfl ⟨rfl, ?_⟩)
     refine DL_qg rfl rfl (Zf rfl (Zx av)) (Zn ((ay).f2) A3 rfl rfl rfl ⟨rfl, ?_⟩)
     refine DL_qg rfl rfl (Zf rfl (Zx av)) (Zm (v := ah) rfl ax ⟨rfl, ?_⟩)
     refine DL_qg rfl rfl (Zf rfl (Zx av)) (Zr S35 rfl rfl (bw.mono (Zt (Zt (Zt (Zt (Zt g l) n) x) ag) am)) ⟨rfl, ?_⟩)
     refine DL_qg rfl rfl (Zf rfl (Zx av)) (Exec.geq rfl rfl rfl ⟨rfl, ?_⟩)
     refine DL_q rfl rfl (Exec.pick_f (v := Value.bool (decide ((b2.length : Int) ≤ b.At))) rfl (Zx av) rfl ⟨rfl, ?_⟩)
     refine DL_q rfl rfl (Zm (v := Value.bool (decide ((b2.length : Int) ≤ b.At))) rfl rfl ⟨rfl, ?_⟩)
     rcases ite_some aj with ⟨z, aj⟩ | ⟨z, aj⟩
     ·refine DL_passes 13 (by rw [z]; rfl) ?_
      refine DL_done (Zb (Ze ?_))
      have f5 := Zu aj
      subst aT
      exact ⟨bW, (Zv _), ((((ay).f2).drop).f1).f1, aM, aN, au, ax, rfl, aP, aQ, aR, rfl⟩
     replace z := Zk z
     refine DL_qg rfl rfl (Zf rfl (Zx z)) (Zp F38_1 rfl au rfl ⟨rfl, ?_⟩)
     refine DL_qg rfl rfl (Zf rfl (Zx z)) (Zn ((ay).f1) A35 rfl rfl rfl ⟨rfl, ?_⟩)
     refine DL_qg rfl rfl (Zf rfl (Zx z)) (Zm (v := Vi (IntKind.i64.wrap (ab + 1))) rfl rfl ⟨rfl, ?_⟩)
     obtain ⟨gN, ey, aj⟩ := Zg aj
     refine DL_qg rfl rfl (Zf rfl (Zx z)) (Exec.index_repE S35 rfl rfl rfl (aS.mono (Zt (Zt (Zt (Zt (Zt (Zt (Zt c j) g) l) n) x) ag) am)) ey ?_)
     intro fg gg cX f6
     refine ⟨rfl, ?_⟩
     refine DL_qg rfl rfl (Zf rfl (Zx z)) (Zw (E := (encSlice (encInt .i64))) ay A22 rfl rfl rfl cX ?_)
     intro gs ez
     have eB := encSlice_val.1 ez
     refine ⟨rfl, ?_⟩
     refine DL_qg rfl rfl (Zf rfl (Zx z)) (Zm (v := ah) rfl ax ⟨rfl, ?_⟩)
     refine DL_qg rfl rfl (Zf rfl (Zx z)) (Zp F50_0 rfl bj rfl ⟨rfl, ?_⟩)
     refine DL_qg rfl rfl (Zf rfl (Zx z)) (Zn ((ay).f2) A3 rfl rfl rfl ⟨rfl, ?_⟩)
     obtain ⟨gO, e0, aj⟩ := Zg aj
     refine DL_qg rfl rfl (Zf rfl (Zx z)) (Exec.index_repE S35 rfl rfl rfl (bw.mono (Zt (Zt (Zt (Zt (Zt g l) n) x) ag) am)) e0 ?_)
     intro fh gh cY f7
     refine ⟨rfl, ?_⟩
     refine DL_qg rfl rfl (Zf rfl (Zx z)) (Zw (E := (encSlice (encInt .i64))) ay A22 rfl rfl rfl cY ?_)
     intro gu e1
     have eC := encSlice_val.1 e1
     refine ⟨rfl, ?_⟩
     obtain ⟨eZ, e2, aj⟩ := Zg aj
     refine DL_eg rfl rfl (Zf rfl (Zx z)) (Tc rfl rfl rfl (Zi rfl (Zi rfl args_nil)) (base_Ints_sim e2 ay eB eC).r ?_)
     rintro _ gG ⟨eJ, dC, dy, rfl⟩
     refine ⟨ag_nil, ?_⟩
     refine DL_qg rfl rfl (Zf rfl (Zx z)) (Exec.not rfl rfl ⟨rfl, ?_⟩)
     refine DL_q rfl rfl (Exec.pick_f (v := Value.bool (!eZ)) rfl (Zx z) rfl ⟨rfl, ?_⟩)
     refine DL_done (Zb (Ze ?_))
     have f8 := Zu aj
     subst aT
     exact ⟨eJ, dC, ((((dy).f2).drop).f1).f1, aM, aN, au, ax, rfl, aP, aQ, aR, rfl⟩
    intro fW gH dm
    obtain ⟨cN, cf, bZ, dL, dM, dN, dO, dP, dQ, dR, dS, c8⟩ := dm
    refine (Ze ?_)
    rcases ite_some a with ⟨bf, a⟩ | ⟨bf, a⟩
    ·refine W_cond_t c8 bf (Zc (Zd (Za rfl rfl (Zo (v := Value.bool (false)) rfl rfl (Zb (Ze (W_ret (ib_ret (at_ret (at_ret (ib_ret (at_ret (at_ret ?_)))))))))))))
     have f9 := Zu a
     subst a5
     have d6 := aJ _ (aK (by intro _ h; cases h))
     have fA := Zu d6
     subst r
     refine ⟨_, ret1 rfl, ?_⟩
     exact ⟨cN, (Zt (Zt (Zt (Zt (Zt (Zt (Zt (Zt (Zt (Zt i t) c) j) g) l) n) x) ag) am) cf), ((bZ).drop).drop, rfl⟩
    refine W_cond_f c8 bf ?_
    replace bf := Zk bf
    refine W_skip (ib_normal (Ze (Zd (Za rfl rfl (Exec.add rfl dS rfl (Za rfl rfl (Zm (v := Vi (IntKind.i64.wrap ((y : Int) + 1))) rfl rfl (Zb (Ze ?_)))))))))
    have fB := Zu a
    subst a5
    refine ⟨_, rfl, ?_⟩; exact ⟨cN, (Zt (Zt (Zt (Zt (Zt l n) x) ag) am) cf), ((bZ).f1).f1, dL, dM, dN, dO, dP, dQ, dR, (Eq.trans rfl (wrap_up ce (SliceRep.le (a8.mono (Zt (Zt c j) g)))))⟩
   refine W_cond_f c7 be ?_
   replace be := Zk be
   refine Zc (W_dl (n0 := 9) (qs 0 7 (.e 7 [] (.q 8 .done))) hmix (by kernel_rfl) (by kernel_rfl) (DL_q rfl rfl (Zp F38_0 rfl au rfl ⟨rfl, ?_⟩)))
   refine DL_q rfl rfl (Zn ((aW.drew).f1) A34 rfl rfl rfl ⟨rfl, ?_⟩)
   refine DL_q rfl rfl (Zm (v := Vi ((y : Int))) rfl dK ⟨rfl, ?_⟩)
   refine DL_q rfl rfl (Exec.sub rfl rfl rfl ⟨rfl, ?_⟩)
   obtain ⟨eT, e3, a⟩ := Zg a
   refine DL_q rfl rfl (Exec.index_repE S34 rfl rfl rfl (a8.mono (Zt (Zt (Zt (Zt (Zt (Zt (Zt c j) g) l) n) x) ag) am)) e3 ?_)
   intro fi gi cZ fC
   refine ⟨rfl, ?_⟩
   refine DL_q rfl rfl (Zw (E := encsimulate_Event) aW.drew A50 rfl rfl rfl cZ ?_)
   intro gv e4
   obtain rfl := encsimulate_Event_val.1 e4
   refine ⟨rfl, ?_⟩
   refine DL_q rfl rfl (Exec.load_box_agg (ds := [Vi (b.At), Vi (b.Launch), Value.bool (b.End)]) ((aW.drew).f2) A50 rfl bj rfl ⟨rfl, ?_⟩)
   refine DL_e rfl rfl (Tc rfl rfl rfl (Zi rfl (Zi rfl args_nil)) (law58_before_sim (law58_before_tot eT b) aW.drew ).r ?_)
   rintro _ gI ⟨b1, aE, ca, rfl⟩
   refine ⟨ag_nil, ?_⟩
   refine DL_q rfl rfl (Exec.not rfl rfl ⟨rfl, ?_⟩)
   refine DL_done (Zb (Ze ?_))
   rcases ite_some a with ⟨bg, a⟩ | ⟨bg, a⟩
   ·refine W_cond_t rfl bg (Zc (Zd (Za rfl rfl (Zo (v := Value.bool (false)) rfl rfl (Zb (Ze (W_ret (at_ret (ib_ret (at_ret (at_ret (ib_ret (at_ret (at_ret ?_))))))))))))))
    have fD := Zu a
    subst a5
    have d7 := aJ _ (aK (by intro _ h; cases h))
    have fE := Zu d7
    subst r
    refine ⟨_, ret1 rfl, ?_⟩
    exact ⟨b1, (Zt (Zt (Zt (Zt (Zt (Zt (Zt (Zt (Zt (Zt i t) c) j) g) l) n) x) ag) am) aE), (((ca).drop).drop).drop, rfl⟩
   refine W_cond_f rfl bg ?_
   replace bg := Zk bg
   refine W_skip (Ze (Zc ?_))
   obtain ⟨aU, ak, a⟩ := Zg a
   refine W_mid (M := fun f' w' => (fun (aU : Bool) => ∃ (cO : PHeap) , PHeap.le b1 cO ∧ St w0 cO (Res.box m 26 [ac, ad, ae, af] :: Res.box p 38 [o, an, ao, Vi (d.Makespan)] :: H) w' ∧ f' 1 = u ∧ f' 2 = Value.pointer (some ⟨m, 0, none⟩) ∧ f' 5 = Value.pointer (some ⟨p, 0, none⟩) ∧ f' 7 = ah ∧ f' 8 = Vi (ab) ∧ f' 53 = o ∧ f' 54 = Vi ((d.Events.length : Int)) ∧ f' 55 = Vi ((y : Int)) ∧ f' 160 = Value.bool (aU)) aU) ?_ ?_
   ·refine W_dl (n0 := 26) (qs 0 23 (.e 23 [] (.q 24 (.q 25 .done)))) hmix (by kernel_rfl) (by kernel_rfl) ?_
    have az := ca.drew
    refine DL_q rfl rfl (Zm (v := Vi (ab)) rfl aO ⟨rfl, ?_⟩)
    refine DL_q rfl rfl (Zp F38_1 rfl au rfl ⟨rfl, ?_⟩)
    refine DL_q rfl rfl (Zn ((az).f1) A35 rfl rfl rfl ⟨rfl, ?_⟩)
    refine DL_q rfl rfl (Zr S35 rfl rfl (aS.mono (Zt (Zt (Zt (Zt (Zt (Zt (Zt (Zt c j) g) l) n) x) ag) am) aE)) ⟨rfl, ?_⟩)
    refine DL_q rfl rfl (Exec.geq rfl rfl rfl ⟨rfl, ?_⟩)
    refine DL_q rfl rfl (Zm (v := Value.bool (decide ((d.States.length : Int) ≤ ab))) rfl rfl ⟨rfl, ?_⟩)
    rcases ite_some ak with ⟨aw, ak⟩ | ⟨aw, ak⟩
    ·refine DL_passes 20 (by rw [aw]; rfl) ?_
     refine DL_done (Zb (Ze ?_))
     have fF := Zu ak
     subst aU
     exact ⟨b1, (Zv _), ((((az).f2).drop).f1).f1, aM, aN, au, ax, aO, aP, aQ, aR, rfl⟩
    replace aw := Zk aw
    refine DL_qg rfl rfl (Zf rfl (Zx aw)) (Zp F50_0 rfl bj rfl ⟨rfl, ?_⟩)
    refine DL_qg rfl rfl (Zf rfl (Zx aw)) (Zn ((az).f2) A3 rfl rfl rfl ⟨rfl, ?_⟩)
    refine DL_qg rfl rfl (Zf rfl (Zx aw)) (Zm (v := ah) rfl ax ⟨rfl, ?_⟩)
    refine DL_qg rfl rfl (Zf rfl (Zx aw)) (Zr S35 rfl rfl (bw.mono (Zt (Zt (Zt (Zt (Zt (Zt g l) n) x) ag) am) aE)) ⟨rfl, ?_⟩)
    refine DL_qg rfl rfl (Zf rfl (Zx aw)) (Exec.geq rfl rfl rfl ⟨rfl, ?_⟩)
    refine DL_q rfl rfl (Exec.pick_f (v := Value.bool (decide ((b2.length : Int) ≤ b.At))) rfl (Zx aw) rfl ⟨rfl, ?_⟩)
    refine DL_q rfl rfl (Zm (v := Value.bool (decide ((b2.length : Int) ≤ b.At))) rfl rfl ⟨rfl, ?_⟩)
    rcases ite_some ak with ⟨aa, ak⟩ | ⟨aa, ak⟩
    ·refine DL_passes 13 (by rw [aa]; rfl) ?_
     refine DL_done (Zb (Ze ?_))
     have fG := Zu ak
     subst aU
     exact ⟨b1, (Zv _), ((((az).f2).drop).f1).f1, aM, aN, au, ax, aO, aP, aQ, aR, rfl⟩
    replace aa := Zk aa
    refine DL_qg rfl rfl (Zf rfl (Zx aa)) (Zp F38_1 rfl au rfl ⟨rfl, ?_⟩)
    refine DL_qg rfl rfl (Zf rfl (Zx aa)) (Zn ((az).f1) A35 rfl rfl rfl ⟨rfl, ?_⟩)
    refine DL_qg rfl rfl (Zf rfl (Zx aa)) (Zm (v := Vi (ab)) rfl aO ⟨rfl, ?_⟩)
    obtain ⟨gP, e5, ak⟩ := Zg ak
    refine DL_qg rfl rfl (Zf rfl (Zx aa)) (Exec.index_repE S35 rfl rfl rfl (aS.mono (Zt (Zt (Zt (Zt (Zt (Zt (Zt (Zt c j) g) l) n) x) ag) am) aE)) e5 ?_)
    intro fj gj da fH
    refine ⟨rfl, ?_⟩
    refine DL_qg rfl rfl (Zf rfl (Zx aa)) (Zw (E := (encSlice (encInt .i64))) az A22 rfl rfl rfl da ?_)
    intro gw e6
    have eD := encSlice_val.1 e6
    refine ⟨rfl, ?_⟩
    refine DL_qg rfl rfl (Zf rfl (Zx aa)) (Zm (v := ah) rfl ax ⟨rfl, ?_⟩)
    refine DL_qg rfl rfl (Zf rfl (Zx aa)) (Zp F50_0 rfl bj rfl ⟨rfl, ?_⟩)
    refine DL_qg rfl rfl (Zf rfl (Zx aa)) (Zn ((az).f2) A3 rfl rfl rfl ⟨rfl, ?_⟩)
    obtain ⟨gQ, e7, ak⟩ := Zg ak
    refine DL_qg rfl rfl (Zf rfl (Zx aa)) (Exec.index_repE S35 rfl rfl rfl (bw.mono (Zt (Zt (Zt (Zt (Zt (Zt g l) n) x) ag) am) aE)) e7 ?_)
    intro fk gk db fI
    refine ⟨rfl, ?_⟩
    refine DL_qg rfl rfl (Zf rfl (Zx aa)) (Zw (E := (encSlice (encInt .i64))) az A22 rfl rfl rfl db ?_)
    intro gx e8
    have eE := encSlice_val.1 e8
    refine ⟨rfl, ?_⟩
    obtain ⟨fa, e9, ak⟩ := Zg ak
    refine DL_eg rfl rfl (Zf rfl (Zx aa)) (Tc rfl rfl rfl (Zi rfl (Zi rfl args_nil)) (base_Ints_sim e9 az eD eE).r ?_)
    rintro _ gJ ⟨eK, dD, dz, rfl⟩
    refine ⟨ag_nil, ?_⟩
    refine DL_qg rfl rfl (Zf rfl (Zx aa)) (Exec.not rfl rfl ⟨rfl, ?_⟩)
    refine DL_q rfl rfl (Exec.pick_f (v := Value.bool (!fa)) rfl (Zx aa) rfl ⟨rfl, ?_⟩)
    refine DL_done (Zb (Ze ?_))
    have fJ := Zu ak
    subst aU
    exact ⟨eK, dD, ((((dz).f2).drop).f1).f1, aM, aN, au, ax, aO, aP, aQ, aR, rfl⟩
   intro fX gK dn
   obtain ⟨cP, cg, cb, dT, dU, dV, dW, dX, dY, dZ, ea, c9⟩ := dn
   refine (Ze ?_)
   rcases ite_some a with ⟨bh, a⟩ | ⟨bh, a⟩
   ·refine W_cond_t c9 bh (Zc (Zd (Za rfl rfl (Zo (v := Value.bool (false)) rfl rfl (Zb (Ze (W_ret (ib_ret (at_ret (at_ret (ib_ret (at_ret (at_ret ?_)))))))))))))
    have fK := Zu a
    subst a5
    have d8 := aJ _ (aK (by intro _ h; cases h))
    have fL := Zu d8
    subst r
    refine ⟨_, ret1 rfl, ?_⟩
    exact ⟨cP, (Zt (Zt (Zt (Zt (Zt (Zt (Zt (Zt (Zt (Zt (Zt i t) c) j) g) l) n) x) ag) am) aE) cg), ((cb).drop).drop, rfl⟩
   refine W_cond_f c9 bh ?_
   replace bh := Zk bh
   refine W_skip (ib_normal (Ze (Zd (Za rfl rfl (Exec.add rfl ea rfl (Za rfl rfl (Zm (v := Vi (IntKind.i64.wrap ((y : Int) + 1))) rfl rfl (Zb (Ze ?_)))))))))
   have fM := Zu a
   subst a5
   refine ⟨_, rfl, ?_⟩; exact ⟨cP, (Zt (Zt (Zt (Zt (Zt (Zt l n) x) ag) am) aE) cg), ((cb).f1).f1, dT, dU, dV, dW, dX, dY, dZ, (Eq.trans rfl (wrap_up ce (SliceRep.le (a8.mono (Zt (Zt c j) g)))))⟩
  intro ab fY gL de d9
  obtain ⟨eL, dE, d0, eb, ec, ed, ee, ef, eg, cA, eU⟩ := de
  refine Zc (Zd (Za rfl rfl (Zq rfl eU cA (Zb (Ze (Zc (W_false (Zx (decide_eq_false (by omega))) (W_exit (at_exit (at_exit (ib_here (Ze ?_))))))))))))
  refine ⟨_, .inl d9, ?_⟩; exact ⟨eL, dE, ((d0).f1).f1, eb, ec, ed, ee, ef, eg, cA⟩
 rintro fZ gM ⟨bp, cd, dp⟩
 have hm := cd.elim (d2 _) (d1 _)
 clear cd
 obtain ⟨eM, ch, cc, gl, gm, eh, gn, ei, go, gp⟩ := dp
 refine (Ze (Zc (Zd (Za rfl rfl (Zm (v := Vi (bp)) rfl ei (Za rfl rfl (Exec.add rfl rfl rfl (Za rfl rfl (Zp F38_1 rfl eh rfl (Za rfl rfl (Zn ((cc).f1) A35 rfl rfl rfl (Za rfl rfl (Zr S35 rfl rfl (aS.mono (Zt (Zt (Zt c j) g) ch)) (Za rfl rfl (Exec.eql rfl rfl rfl (Za rfl rfl (Zo (v := Value.bool (decide ((IntKind.i64.wrap (bp + 1)) = (d.States.length : Int)))) rfl rfl (Zb (Ze (W_ret ?_))))))))))))))))))))
 have fN := Zu hm
 subst r
 refine ⟨_, ret1 rfl, ?_⟩
 exact ⟨eM, (Zt (Zt (Zt (Zt (Zt i t) c) j) g) ch), ((cc).drop).drop, rfl⟩
end Go.Pw
