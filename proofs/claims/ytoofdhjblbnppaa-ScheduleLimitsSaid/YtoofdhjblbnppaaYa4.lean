/-
  The walks (printed by my generator).
-/
import Derived.Test.YtoofdhjblbnppaaL29
import Derived.Test.YtoofdhjblbnppaaL27
import Derived.Test.YtoofdhjblbnppaaYa3
set_option maxRecDepth 100000
set_option maxHeartbeats 4000000
set_option linter.unusedVariables false
namespace Go.Pw
open Go.Proofs
theorem ZZ45 : (Try.prog.info? 45).map (·.zero) = some (some (.int .i64 0)) := by kernel_rfl
theorem base_Num_sim {w0 w : World} {s : PHeap} {H : List Res} {a : (Option Int)}  {r : Int} (hm : base_Num_p a = some r) (hS : St w0 s (H) w)  :
  Calls Try.prog 30 #[errV 45 (a)] w fun e w' => ∃ v, e = .returned v ∧ ((fun (f : Int) => ∃ (d : PHeap) , PHeap.le s d ∧ St w0 d (H) w' ∧ v = Vi (f)) r) := by
 unfold base_Num_p at hm
 refine calls_of_W Try.func30 rfl rfl (Zc (Zd (Za rfl rfl (Zo (v := Vi (0)) rfl rfl (Zb (Ze (Zc (Zc (Zd (Za rfl rfl (Zm (v := errV 45 (a)) rfl rfl (Za rfl rfl (Exec.err_eql_nil (T := 45) Try.underlying31 rfl rfl rfl (Zb (Ze ?_)))))))))))))))
 rcases ite_some hm with ⟨b, hm⟩ | ⟨b, hm⟩
 ·refine W_cond_t rfl b (Zc (Zd (Za rfl rfl (Zo (v := Vi (0)) rfl rfl (Zb (Ze (W_ret (at_ret ?_))))))))
  have g := Zu hm
  subst r
  refine ⟨_, ret1 rfl, ?_⟩
  exact ⟨s, (Zv _), hS, rfl⟩
 refine W_cond_f rfl b ?_
 replace b := Zk b
 refine W_skip (Ze (Zc (Zc (Zd (Za rfl rfl (Zm (v := errV 45 (a)) rfl rfl (Za rfl rfl (Exec.err_assert Try.underlying45 ZZ45 rfl rfl (Za rfl rfl (Zm (v := Value.tuple #[Vi (a.getD 0), Value.bool (a.isSome)]) rfl rfl (Za rfl rfl (Exec.extract (v := Vi (a.getD 0)) rfl rfl rfl (Za rfl rfl (Exec.extract (v := Value.bool (a.isSome)) rfl rfl rfl (Za rfl rfl (Zo (v := Vi (a.getD 0)) rfl rfl (Za rfl rfl (Zo (v := Value.bool (a.isSome)) rfl rfl (Zb (Ze (Zc (Zd (Za rfl rfl (Zm (v := Value.bool (a.isSome)) rfl rfl (Zb (Ze ?_))))))))))))))))))))))))))
 rcases ite_some hm with ⟨c, hm⟩ | ⟨c, hm⟩
 ·refine W_cond_t rfl c (Zc (Zd (Za rfl rfl (Zm (v := Vi (a.getD 0)) rfl rfl (Za rfl rfl (Zo (v := Vi (a.getD 0)) rfl rfl (Zb (Ze (W_ret (at_ret ?_))))))))))
  have h := Zu hm
  subst r
  refine ⟨_, ret1 rfl, ?_⟩
  exact ⟨s, (Zv _), hS, rfl⟩
 refine W_cond_f rfl c ?_
 replace c := Zk c
 refine W_skip (Ze (Zc (Zd (Za rfl rfl (Zo (v := Vi ((-1))) rfl rfl (Zb (Ze (W_ret ?_))))))))
 have i := Zu hm
 subst r
 refine ⟨_, ret1 rfl, ?_⟩
 exact ⟨s, (Zv _), hS, rfl⟩
theorem base_Is_sim {w0 w : World} {s : PHeap} {H : List Res} {b : (Option Int)} {c : Int}  {r : Bool} (hm : base_Is_p b c = some r) (hS : St w0 s (H) w)  :
  Calls Try.prog 15 #[errV 45 (b), Vi (c)] w fun e w' => ∃ v, e = .returned v ∧ ((fun (p : Bool) => ∃ (d : PHeap) , PHeap.le s d ∧ St w0 d (H) w' ∧ v = Value.bool (p)) r) := by
 unfold base_Is_p at hm
 refine calls_of_W Try.func15 rfl rfl (Zc (Zd (Za rfl rfl (Zo (v := Value.bool (false)) rfl rfl (Zb (Ze (Zc (W_mid (M := fun f' w' => ∃ (g : PHeap) , PHeap.le s g ∧ St w0 g (H) w' ∧ f' 4 = Value.bool ((b.isSome && decide ((base_Num_t b) = c)))) ?_ ?_))))))))
 ·refine Zd (Za rfl rfl (Zm (v := errV 45 (b)) rfl rfl (Za rfl rfl (Exec.err_neq_nil (T := 45) Try.underlying31 rfl rfl rfl (Za rfl rfl (Zm (v := Value.bool (b.isSome)) rfl rfl ?_))))))
  by_cases a : b.isSome = true
  ·refine WL_run rfl (Zf rfl (Zx a)) rfl (Zm (v := errV 45 (b)) rfl rfl (WL_run rfl (Zf rfl (Zx a)) rfl (Tc rfl rfl rfl (Zi rfl args_nil) (base_Num_sim (base_Num_tot b) hS ).r ?_)))
   rintro _ u ⟨n, k, i, rfl⟩
   refine WL_run rfl (Zf rfl (Zx a)) rfl (Zm (v := Vi (c)) rfl rfl (WL_run rfl (Zf rfl (Zx a)) rfl (Exec.eql rfl rfl rfl ?_)))
   refine WL_passes 2 (by rw [a]; rfl) ?_
   refine Zb (Ze ?_)
   exact ⟨n, k, i, (Zx (and_t a)).symm⟩
  replace a := Zk a
  refine WL_passes 6 (by rw [a]; rfl) ?_
  refine Zb (Ze ?_)
  exact ⟨s, (Zv _), hS, (Zx (and_f a)).symm⟩
 intro t x h
 obtain ⟨o, l, j, m⟩ := h
 refine (Ze (W_ret ?_))
 have q := Zu hm
 subst r
 refine ⟨_, ret1 rfl, ?_⟩
 exact ⟨o, l, j, m⟩
theorem law57_ScheduleLimits_sim {w0 w : World} {s : PHeap} {H : List Res} {a : Int} {d : Int}  {r : Bool} (hm : law57_ScheduleLimits_p a d = some r) (hS : St w0 s (H) w)  :
  Calls Try.prog 4 #[Value.int .u8 (a), Value.int .u8 (d)] w fun e w' => ∃ v, e = .returned v ∧ ((fun (cl : Bool) => ∃ (aW : PHeap) , PHeap.le s aW ∧ St w0 aW (H) w' ∧ v = Value.bool (cl)) r) := by
 unfold law57_ScheduleLimits_p at hm
 refine calls_of_W Try.func4 rfl rfl (Zc (Zd (Za rfl rfl (Zo (v := Value.bool (false)) rfl rfl (Zb (Ze (Zc (Zc (Zd ?_)))))))))
 obtain ⟨dg, bS, hm⟩ := Zg hm
 refine Za rfl rfl (Tc rfl rfl rfl args_nil (law57_awake_sim bS hS ).r ?_)
 rintro _ cL ⟨a8, al, aE, rfl⟩
 refine Za rfl rfl (Exec.not rfl rfl (Zb (Ze ?_)))
 rcases ite_some hm with ⟨ah, hm⟩ | ⟨ah, hm⟩
 ·refine W_cond_t rfl ah (Zc (Zd (Za rfl rfl (Zo (v := Value.bool (false)) rfl rfl (Zb (Ze (W_ret (at_ret ?_))))))))
  have cq := Zu hm
  subst r
  refine ⟨_, ret1 rfl, ?_⟩
  exact ⟨a8, al, aE, rfl⟩
 refine W_cond_f rfl ah ?_
 replace ah := Zk ah
 refine W_skip (Ze (Zc (Zd (Za rfl rfl (Zm (v := Value.int .u8 (a)) rfl rfl ?_)))))
 refine Za rfl rfl (Exec.convert_int (by rw [Try.underlying5]; rfl) Try.underlying3 rfl rfl ?_)
 refine Za rfl rfl (Exec.rem rfl rfl rfl (by decide) (Za rfl rfl (Zo (v := Vi ((IntKind.i64.wrap a).tmod 66)) rfl rfl (Zb (Ze (Zc (Zd (Za rfl rfl (Zo (v := Value.slice none 0 0) rfl rfl (Zb (Ze (Zc (Zc (Zd (Za rfl rfl (Zm (v := Vi ((IntKind.i64.wrap a).tmod 66)) rfl rfl (Za rfl rfl (Zm (v := Vi (0)) rfl rfl (Zb (Ze ?_))))))))))))))))))))
 obtain ⟨cJ, bT, hm⟩ := Zg hm
 obtain ⟨a1, bh, hm⟩ := Zg hm
 refine W_block (W_forS (fun k' s' f' w' => (fun (a1 : (List Launch)) => ∃ (aX : PHeap) (af : Value), PHeap.le a8 aX ∧ St w0 aX (Res.arr encLaunch 39 af a1 :: H) w' ∧ f' 1 = Value.int .u8 (d) ∧ f' 5 = Vi ((IntKind.i64.wrap a).tmod 66) ∧ f' 6 = af ∧ f' 21 = Vi ((IntKind.i64.wrap a).tmod 66) ∧ f' 22 = Vi (k' : Int)) s') bh ?_ ?_ ?_)
 ·have br := aE.nilArr encLaunch 39
  exact ⟨a8, (Value.slice none 0 0), (Zv _), br, rfl, rfl, rfl, rfl, rfl⟩
 ·intro j a1 ca cz cM b7 bj a0
  obtain ⟨cb, af, bE, bs, aO, bJ, bK, aP, aA⟩ := bj
  refine Zc (Zd (Za rfl rfl (Zq rfl aA aP (Zb (Ze (Zc (W_true (Zx (decide_eq_true (by omega))) (W_skip (Ze (Zc (W_block (Zc (Zd (Za rfl rfl (Zm (v := Vi ((j : Int))) rfl aA (Za rfl rfl (Zo (v := Vi ((j : Int))) rfl rfl (Zb (Ze (Zd (Za rfl rfl (Zm (v := af) rfl bK (Za rfl rfl (Zm (v := Vi ((j : Int))) rfl rfl (Za rfl rfl (Zm (v := Value.int .u8 (d)) rfl aO ?_))))))))))))))))))))))))))
  refine Za rfl rfl (Exec.convert_int (by rw [Try.underlying5]; rfl) Try.underlying3 rfl rfl ?_)
  refine Za rfl rfl (Exec.add rfl rfl rfl (Za rfl rfl (Exec.mul rfl rfl rfl (Za rfl rfl (Exec.build rfl (parts_cons (c := [Vi (IntKind.i64.wrap ((j : Int) * (IntKind.i64.wrap (2 + (IntKind.i64.wrap d)))))]) (cells_of rfl rfl) (parts_cons (c := [Vi (2)]) (cells_of rfl rfl) parts_nil)) (v := Value.agg #[Vi (IntKind.i64.wrap ((j : Int) * (IntKind.i64.wrap (2 + (IntKind.i64.wrap d))))), Vi (2)]) (fun _ => by kernel_rfl) (Za rfl rfl (Exec.buildSlice (Te := 39) (cs := [Vi (IntKind.i64.wrap ((j : Int) * (IntKind.i64.wrap (2 + (IntKind.i64.wrap d))))), Vi (2)]) bs rfl (parts_cons (c := [Vi (IntKind.i64.wrap ((j : Int) * (IntKind.i64.wrap (2 + (IntKind.i64.wrap d))))), Vi (2)]) (cells_of rfl rfl) parts_nil) (fun _ => by kernel_rfl) ?_)))))))
  intro cm cN bt
  obtain ⟨c7, bU, a0⟩ := Zg a0
  refine Za rfl rfl (Exec.append_box (E := encLaunch) (ys := [(⟨IntKind.i64.wrap ((j : Int) * (IntKind.i64.wrap (2 + (IntKind.i64.wrap d)))), 2⟩ : Launch)]) (bt).f1 S27 Z39 rfl (by decide) rfl rfl rfl rfl ⟨[Vi (IntKind.i64.wrap ((j : Int) * (IntKind.i64.wrap (2 + (IntKind.i64.wrap d))))), Vi (2)], [], rfl, ⟨[Vi (IntKind.i64.wrap ((j : Int) * (IntKind.i64.wrap (2 + (IntKind.i64.wrap d)))))], [Vi (2)], rfl, rfl, rfl⟩, rfl⟩ rfl bU ?_)
  intro be cO bu
  refine Za rfl rfl (Zo (v := be) rfl rfl (Zb (ib_normal (Ze (Zd (Za rfl rfl (Exec.add rfl aA rfl (Za rfl rfl (Zm (v := Vi (IntKind.i64.wrap ((j : Int) + 1))) rfl rfl (Zb (Ze ?_)))))))))))
  have cr := Zu a0
  subst ca
  exact ⟨cb, be, bE, bu, aO, bJ, rfl, aP, (Eq.trans rfl (wrap_up b7 (by have h := must_some bT; simp at h; simp only [maxLen]; omega)))⟩
 intro c0 cP bk
 obtain ⟨cC, af, av, bv, c9, ax, aQ, bL, cj⟩ := bk
 refine Zc (Zd (Za rfl rfl (Zq rfl cj bL (Zb (Ze (Zc (W_false (Zx (decide_eq_false (by omega))) (W_exit (at_exit (at_exit (ib_here (Ze (Zc (Zd (Za rfl rfl (Tc rfl rfl rfl args_nil (law57_delivery_sim law57_delivery_tot bv ).r ?_))))))))))))))))
 rintro _ cQ ⟨cD, an, ao, bf, ap, aw, bw, rfl, a5, a6, bZ, a7⟩
 refine Za rfl rfl (Exec.alloc (cs := [Value.slice none 0 0, Value.slice none 0 0, Value.slice none 0 0, Value.slice none 0 0]) bw Z26 rfl rfl ?_)
 intro cn cR bx
 refine Za rfl rfl (Exec.store_box (ds := [an, ao, bf, ap]) (es := [an, ao, bf, ap]) bx A26 rfl rfl rfl rfl (Zj (a5).one (Zj (a6).one (Zj (bZ).one (Zj (a7).one one_nil)))) (Nat.le_of_ble_eq_true rfl) rfl ?_)
 intro cS bz
 refine Zb (Ze (Zc (Zd (Za rfl rfl (Zp F26_2 rfl rfl rfl (Za rfl rfl (Exec.store_box (ds := [Value.slice none 0 0]) (es := [an, ao, Value.slice none 0 0, ap]) bz A23 rfl rfl rfl rfl (Zj rfl one_nil) (Nat.le_of_ble_eq_true rfl) rfl ?_)))))))
 intro cT aF
 refine Zb (Ze (Zc (Zd (Za rfl rfl (Exec.load_box_agg (ds := [an, ao, Value.slice none 0 0, ap]) (aF) A26 rfl rfl rfl (Za rfl rfl (Zm (v := af) rfl aQ ?_)))))))
 obtain ⟨cE, n, b0, aU⟩ := (aF).f1.freezeArr
 obtain ⟨ch, bV, hm⟩ := Zg hm
 obtain ⟨ac, l⟩ := ch
 replace hm := un2_eq hm
 refine Za rfl rfl (Tc rfl rfl rfl (Zi rfl (Zi rfl args_nil)) (schedule_Shift_sim bV b0 (a5.mono n) (a6.mono n) (SliceRep.nil _ _) (a7.mono n) aU).r ?_)
 rintro _ cU ⟨cF, o, aa, aG, rfl, am⟩
 refine Za rfl rfl (Zm (v := Value.tuple #[o, errV 45 (l)]) rfl rfl (Za rfl rfl (Exec.extract (v := o) rfl rfl rfl (Za rfl rfl (Exec.extract (v := errV 45 (l)) rfl rfl rfl (Za rfl rfl (Zo (v := o) rfl rfl (Za rfl rfl (Zo (v := errV 45 (l)) rfl rfl (Zb (Ze (Zc (Zd (Za rfl rfl (Exec.load_box_agg (ds := [an, ao, Value.slice none 0 0, ap]) (aG) A26 rfl rfl rfl (Za rfl rfl (Zm (v := af) rfl aQ ?_)))))))))))))))))
 obtain ⟨ci, bW, hm⟩ := Zg hm
 obtain ⟨az, aB, x⟩ := ci
 replace hm := un3_eq hm
 refine Za rfl rfl (Tc rfl rfl rfl (Zi rfl (Zi rfl args_nil)) (schedule_Network_sim bW aG (a5.mono (Zt n aa)) (a6.mono (Zt n aa)) (SliceRep.nil _ _) (a7.mono (Zt n aa)) (aU.mono aa)).r ?_)
 rintro _ cV ⟨ab, aq, t, ad, rfl, aV⟩
 refine Za rfl rfl (Zm (v := Value.tuple #[aq, Vi (aB), errV 45 (x)]) rfl rfl (Za rfl rfl (Exec.extract (v := aq) rfl rfl rfl (Za rfl rfl (Exec.extract (v := Vi (aB)) rfl rfl rfl (Za rfl rfl (Exec.extract (v := errV 45 (x)) rfl rfl rfl (Za rfl rfl (Zo (v := aq) rfl rfl (Za rfl rfl (Zo (v := Vi (aB)) rfl rfl (Za rfl rfl (Zo (v := errV 45 (x)) rfl rfl (Zb (Ze (Zc (Zc (Zd (Za rfl rfl (Zm (v := Vi ((IntKind.i64.wrap a).tmod 66)) rfl ax (Za rfl rfl (Exec.gtr rfl rfl rfl (Zb (Ze ?_))))))))))))))))))))))))
 rcases ite_some hm with ⟨ai, hm⟩ | ⟨ai, hm⟩
 ·refine W_cond_t rfl ai (Zc (W_mid (M := fun f' w' => ∃ (aY : PHeap) , PHeap.le ab aY ∧ St w0 aY (H) w' ∧ f' 4 = Value.bool (((decide ((ac.length : Int) = 0)) && ((decide ((az.length : Int) = 0)) && ((base_Is_t l 5) && (base_Is_t x 5)))))) ?_ ?_))
  ·refine Zd (Za rfl rfl (Zm (v := o) rfl rfl (Za rfl rfl (Zr S27 rfl rfl (am.mono t) (Za rfl rfl (Exec.eql rfl rfl rfl (Za rfl rfl (Zm (v := Value.bool (decide ((ac.length : Int) = 0))) rfl rfl ?_))))))))
   by_cases g : (decide ((ac.length : Int) = 0)) = true
   ·refine WL_run rfl (Zf rfl (Zx g)) rfl (Zm (v := aq) rfl rfl (WL_run rfl (Zf rfl (Zx g)) rfl (Zr S41 rfl rfl aV (WL_run rfl (Zf rfl (Zx g)) rfl (Exec.eql rfl rfl rfl ?_)))))
    refine WL_passes 2 (by rw [g]; rfl) ?_
    by_cases p : (decide ((az.length : Int) = 0)) = true
    ·refine WL_run rfl (Zf rfl (Zx p)) rfl (Zm (v := errV 45 (l)) rfl rfl (WL_run rfl (Zf rfl (Zx p)) rfl (Tc rfl rfl rfl (Zi rfl (Zi rfl args_nil)) (base_Is_sim (base_Is_tot l 5) ad ).r ?_)))
     rintro _ cW ⟨cc, aM, aH, rfl⟩
     refine WL_passes 2 (by rw [p]; rfl) ?_
     by_cases y : (base_Is_t l 5) = true
     ·refine WL_run rfl (Zf rfl (Zx y)) rfl (Zm (v := errV 45 (x)) rfl rfl (WL_run rfl (Zf rfl (Zx y)) rfl (Tc rfl rfl rfl (Zi rfl (Zi rfl args_nil)) (base_Is_sim (base_Is_tot x 5) aH ).r ?_)))
      rintro _ cX ⟨cd, bF, b1, rfl⟩
      refine WL_passes 2 (by rw [y]; rfl) ?_
      refine Zb (Ze ?_)
      exact ⟨cd, (Zt aM bF), (b1).drop, (Zx (Eq.trans (and_t g) (Eq.trans (and_t p) (and_t y)))).symm⟩
     replace y := Zk y
     refine WL_passes 4 (by rw [y]; rfl) ?_
     refine Zb (Ze ?_)
     exact ⟨cc, aM, (aH).drop, (Zx (Eq.trans (and_t g) (Eq.trans (and_t p) (and_f y)))).symm⟩
    replace p := Zk p
    refine WL_passes 8 (by rw [p]; rfl) ?_
    refine Zb (Ze ?_)
    exact ⟨ab, (Zv _), (ad).drop, (Zx (Eq.trans (and_t g) (and_f p))).symm⟩
   replace g := Zk g
   refine WL_passes 13 (by rw [g]; rfl) ?_
   refine Zb (Ze ?_)
   exact ⟨ab, (Zv _), (ad).drop, (Zx (and_f g)).symm⟩
  intro c1 cY bn
  obtain ⟨ce, bG, b2, bM⟩ := bn
  refine (Ze (W_ret (at_ret ?_)))
  have ct := Zu hm
  subst r
  refine ⟨_, ret1 rfl, ?_⟩
  exact ⟨ce, (Zt (Zt (Zt (Zt (Zt (Zt al av) aw) n) aa) t) bG), b2, bM⟩
 refine W_cond_f rfl ai ?_
 replace ai := Zk ai
 refine W_skip (Ze (Zc (Zc (W_mid (M := fun f' w' => ∃ (aZ : PHeap) , PHeap.le ab aZ ∧ St w0 aZ (H) w' ∧ f' 9 = o ∧ f' 90 = Value.bool ((l.isSome || (x.isSome || ((!decide ((ac.length : Int) = ((IntKind.i64.wrap a).tmod 66))) || !decide ((az.length : Int) = (IntKind.i64.wrap ((IntKind.i64.wrap (3 * ((IntKind.i64.wrap a).tmod 66))) + (max 0 (IntKind.i64.wrap (((IntKind.i64.wrap a).tmod 66) - 1))))))))))) ?_ ?_))))
 ·refine Zd (Za rfl rfl (Zm (v := errV 45 (l)) rfl rfl (Za rfl rfl (Exec.err_neq_nil (T := 45) Try.underlying31 rfl rfl rfl (Za rfl rfl (Zm (v := Value.bool (l.isSome)) rfl rfl ?_))))))
  by_cases m : l.isSome = true
  ·refine WL_passes 20 (by rw [m]; rfl) ?_
   refine Zb (Ze ?_)
   exact ⟨ab, (Zv _), (ad).drop, rfl, (Zx (or_t m)).symm⟩
  replace m := Zk m
  refine WL_run rfl (Zf rfl (Zx m)) rfl (Zm (v := errV 45 (x)) rfl rfl (WL_run rfl (Zf rfl (Zx m)) rfl (Exec.err_neq_nil (T := 45) Try.underlying31 rfl rfl rfl ?_)))
  refine WL_passes 2 (by rw [m]; rfl) ?_
  by_cases i : x.isSome = true
  ·refine WL_passes 16 (by rw [i]; rfl) ?_
   refine Zb (Ze ?_)
   exact ⟨ab, (Zv _), (ad).drop, rfl, (Zx (Eq.trans (or_f m) (or_t i))).symm⟩
  replace i := Zk i
  refine WL_run rfl (Zf rfl (Zx i)) rfl (Zm (v := o) rfl rfl (WL_run rfl (Zf rfl (Zx i)) rfl (Zr S27 rfl rfl (am.mono t) (WL_run rfl (Zf rfl (Zx i)) rfl (Zm (v := Vi ((IntKind.i64.wrap a).tmod 66)) rfl ax (WL_run rfl (Zf rfl (Zx i)) rfl (Exec.neq rfl rfl rfl ?_)))))))
  refine WL_passes 2 (by rw [i]; rfl) ?_
  by_cases b : (!decide ((ac.length : Int) = ((IntKind.i64.wrap a).tmod 66))) = true
  ·refine WL_passes 10 (by rw [b]; rfl) ?_
   refine Zb (Ze ?_)
   exact ⟨ab, (Zv _), (ad).drop, rfl, (Zx (Eq.trans (or_f m) (Eq.trans (or_f i) (or_t b)))).symm⟩
  replace b := Zk b
  refine WL_run rfl (Zf rfl (Zx b)) rfl (Zm (v := aq) rfl rfl (WL_run rfl (Zf rfl (Zx b)) rfl (Zr S41 rfl rfl aV (WL_run rfl (Zf rfl (Zx b)) rfl (Zm (v := Vi ((IntKind.i64.wrap a).tmod 66)) rfl ax (WL_run rfl (Zf rfl (Zx b)) rfl (Exec.mul rfl rfl rfl (WL_run rfl (Zf rfl (Zx b)) rfl (Zm (v := Vi ((IntKind.i64.wrap a).tmod 66)) rfl ax (WL_run rfl (Zf rfl (Zx b)) rfl (Exec.sub rfl rfl rfl (WL_run rfl (Zf rfl (Zx b)) rfl (Exec.max2 rfl rfl rfl (WL_run rfl (Zf rfl (Zx b)) rfl (Exec.add rfl rfl rfl (WL_run rfl (Zf rfl (Zx b)) rfl (Exec.neq rfl rfl rfl (Za rfl rfl (Exec.pick_f (v := Value.bool (!decide ((az.length : Int) = (IntKind.i64.wrap ((IntKind.i64.wrap (3 * ((IntKind.i64.wrap a).tmod 66))) + (max 0 (IntKind.i64.wrap (((IntKind.i64.wrap a).tmod 66) - 1)))))))) rfl (Zx b) rfl (Zb (Ze ?_)))))))))))))))))))))
  exact ⟨ab, (Zv _), (ad).drop, rfl, (Zx (Eq.trans (or_f m) (Eq.trans (or_f i) (or_f b)))).symm⟩
 intro c2 cZ bo
 obtain ⟨ay, ag, aI, bN, aR⟩ := bo
 refine (Ze ?_)
 rcases ite_some hm with ⟨aj, hm⟩ | ⟨aj, hm⟩
 ·refine W_cond_t aR aj (Zc (Zd (Za rfl rfl (Zo (v := Value.bool (false)) rfl rfl (Zb (Ze (W_ret (at_ret ?_))))))))
  have cu := Zu hm
  subst r
  refine ⟨_, ret1 rfl, ?_⟩
  exact ⟨ay, (Zt (Zt (Zt (Zt (Zt (Zt al av) aw) n) aa) t) ag), aI, rfl⟩
 refine W_cond_f aR aj ?_
 replace aj := Zk aj
 refine W_skip (Ze (Zc (Zc (Zd (Za rfl rfl (Zm (v := o) rfl bN (Za rfl rfl (Zr S27 rfl rfl (am.mono (Zt t ag)) (Za rfl rfl (Zm (v := Vi (0)) rfl rfl (Zb (Ze ?_))))))))))))
 obtain ⟨aC, bi, bB, b9, b6⟩ := ctl_some hm
 refine W_mid (M := fun f' w' => ∃ s', (aC = .next s' ∨ aC = .brk s') ∧ (fun (_ : Unit) => ∃ (ba : PHeap) , PHeap.le ay ba ∧ St w0 ba (H) w' ∧ f' 91 = o ∧ f' 92 = Vi ((ac.length : Int))) s') ?_ ?_
 ·refine W_block (W_forC (fun k' s' f' w' => (fun (_ : Unit) => ∃ (bb : PHeap) , PHeap.le ay bb ∧ St w0 bb (H) w' ∧ f' 91 = o ∧ f' 92 = Vi ((ac.length : Int)) ∧ f' 93 = Vi (k' : Int)) s') bi ?_ ?_ ?_)
  ·exact ⟨ay, (Zv _), aI, rfl, rfl, rfl⟩
  ·intro z cG aD c3 da b8 bl ae bC
   obtain ⟨a9, a2, aJ, a3, a4, ar⟩ := bl
   refine Zc (Zd (Za rfl rfl (Zq rfl ar a4 (Zb (Ze (Zc (W_true (Zx (decide_eq_true (by omega))) (W_skip (Ze (Zc (W_block (Zc (Zd (Za rfl rfl (Zm (v := Vi ((z : Int))) rfl ar ?_)))))))))))))))
   obtain ⟨u, bX, ae⟩ := Zg ae
   refine Za rfl rfl (Exec.index_rep S27 rfl a3 ar (am.mono (Zt (Zt t ag) a2)) bX ?_)
   intro co c8 bg
   refine Za rfl rfl (Zw (E := encLaunch) aJ A39 rfl rfl rfl bg ?_)
   intro cK bY
   obtain rfl := encLaunch_val.1 bY
   refine Za rfl rfl (Exec.alloc (cs := [Vi (0), Vi (0)]) aJ Z39 rfl rfl ?_)
   intro cp db b3
   refine Za rfl rfl (Zo (v := Vi ((z : Int))) rfl rfl (Za rfl rfl (Exec.store_box (ds := [Vi (u.At), Vi (u.Job)]) (es := [Vi (u.At), Vi (u.Job)]) b3 A39 rfl rfl rfl rfl (Zj rfl (Zj rfl one_nil)) (Nat.le_of_ble_eq_true rfl) rfl ?_)))
   intro dc au
   refine Zb (Ze (Zc (W_mid (M := fun f' w' => ∃ (bc : PHeap) , PHeap.le a9 bc ∧ St w0 bc (H) w' ∧ f' 91 = o ∧ f' 92 = Vi ((ac.length : Int)) ∧ f' 93 = Vi ((z : Int)) ∧ f' 107 = Value.bool (((!decide (u.At = (IntKind.i64.wrap (2 * (z : Int))))) || !decide (u.Job = 2)))) ?_ ?_)))
   ·refine Zd (Za rfl rfl (Zp F39_0 rfl rfl rfl (Za rfl rfl (Zn (au) A3 rfl rfl rfl (Za rfl rfl (Zm (v := Vi ((z : Int))) rfl rfl (Za rfl rfl (Exec.mul rfl rfl rfl (Za rfl rfl (Exec.neq rfl rfl rfl (Za rfl rfl (Zm (v := Value.bool (!decide (u.At = (IntKind.i64.wrap (2 * (z : Int)))))) rfl rfl ?_))))))))))))
    by_cases q : (!decide (u.At = (IntKind.i64.wrap (2 * (z : Int))))) = true
    ·refine WL_passes 4 (by rw [q]; rfl) ?_
     refine Zb (Ze ?_)
     exact ⟨a9, (Zv _), (au).drop, a3, a4, ar, (Zx (or_t q)).symm⟩
    replace q := Zk q
    refine WL_run rfl (Zf rfl (Zx q)) rfl (Zp F39_1 rfl rfl rfl (WL_run rfl (Zf rfl (Zx q)) rfl (Zn (au) A3 rfl rfl rfl (WL_run rfl (Zf rfl (Zx q)) rfl (Exec.neq rfl rfl rfl (Za rfl rfl (Exec.pick_f (v := Value.bool (!decide (u.Job = 2))) rfl (Zx q) rfl (Zb (Ze ?_)))))))))
    exact ⟨a9, (Zv _), (au).drop, a3, a4, ar, (Zx (or_f q)).symm⟩
   intro c4 dd bp
   obtain ⟨bd, aN, aK, bO, bP, bQ, aS⟩ := bp
   refine (Ze ?_)
   rcases ite_some ae with ⟨ak, ae⟩ | ⟨ak, ae⟩
   ·refine W_cond_t aS ak (Zc (Zd (Za rfl rfl (Zo (v := Value.bool (false)) rfl rfl (Zb (Ze (W_ret (ib_ret (at_ret (at_ret (ib_ret (at_ret (at_ret ?_)))))))))))))
    have cv := Zu ae
    subst aD
    have bA := bB _ (bC (by intro _ h; cases h))
    have cw := Zu bA
    subst r
    refine ⟨_, ret1 rfl, ?_⟩
    exact ⟨bd, (Zt (Zt (Zt (Zt (Zt (Zt (Zt (Zt al av) aw) n) aa) t) ag) a2) aN), aK, rfl⟩
   refine W_cond_f aS ak ?_
   replace ak := Zk ak
   refine W_skip (ib_normal (Ze (Zd (Za rfl rfl (Exec.add rfl bQ rfl (Za rfl rfl (Zm (v := Vi (IntKind.i64.wrap ((z : Int) + 1))) rfl rfl (Zb (Ze ?_)))))))))
   have cx := Zu ae
   subst aD
   refine ⟨_, rfl, ?_⟩; exact ⟨bd, (Zt a2 aN), aK, bO, bP, (Eq.trans rfl (wrap_up b8 (SliceRep.le (am.mono (Zt t ag)))))⟩
  intro cH c5 de bm bD
  obtain ⟨cf, bH, b4, bR, aT, ck⟩ := bm
  refine Zc (Zd (Za rfl rfl (Zq rfl ck aT (Zb (Ze (Zc (W_false (Zx (decide_eq_false (by omega))) (W_exit (at_exit (at_exit (ib_here (Ze ?_))))))))))))
  refine ⟨_, .inl bD, ?_⟩; exact ⟨cf, bH, b4, bR, aT⟩
 rintro c6 df ⟨cI, aL, bq⟩
 have hm := aL.elim (b9 _) (b6 _)
 clear aL
 obtain ⟨cg, bI, b5, cA, cB⟩ := bq
 refine (Ze (Zc (Zd (Za rfl rfl (Zo (v := Value.bool (true)) rfl rfl (Zb (Ze (W_ret ?_))))))))
 have cy := Zu hm
 subst r
 refine ⟨_, ret1 rfl, ?_⟩
 exact ⟨cg, (Zt (Zt (Zt (Zt (Zt (Zt (Zt al av) aw) n) aa) t) ag) bI), b5, rfl⟩
end Go.Pw
