/-
  The walks (printed by my generator).
-/
import Derived.Test.YtdhfofhginfdnaaWhP
import Derived.Test.YtdhfofhginfdnaaL8
import Derived.Test.YtdhfofhginfdnaaL9
import Derived.Test.YtdhfofhginfdnaaL12
import Derived.Test.YtdhfofhginfdnaaL11
import Derived.Test.YtdhfofhginfdnaaLB
import Derived.Test.YtdhfofhginfdnaaL23
import Derived.Test.YtdhfofhginfdnaaL26
import Derived.Test.YtdhfofhginfdnaaProg
import Derived.KernelRfl
set_option maxRecDepth 100000
set_option maxHeartbeats 4000000
set_option linter.unusedVariables false
namespace Go.Pw
open Go.Proofs
theorem Z26 : tyZero Try.prog 26 = some (Value.agg #[Value.int .i64 (0), Value.int .i64 (0), Value.slice none 0 0, Value.slice none 0 0, Value.slice none 0 0]) := by kernel_rfl
theorem A26 : tyAgg Try.prog 26 = some (true, 5) := by kernel_rfl
theorem N26 : (Try.f26.name == "runtime.NumGoroutine") = false := by kernel_rfl
theorem law44_example_sim {w0 w : World} {s : PHeap} {H : List Res}   {r : System} (hm : law44_example_p  = some r) (hS : St w0 s (H) w)  :
  Calls Try.prog 26 #[] w fun e w' => ∃ v, e = .returned v ∧ ((fun (y47 : System) => ∃ (s69 : PHeap) (v66 : Value) (v67 : Value) (v68 : Value), PHeap.le s s69 ∧ St w0 s69 (H) w' ∧ v = Value.agg #[Value.int .i64 (y47.States), Value.int .i64 (y47.Init), v66, v67, v68] ∧ SliceRep (encInt .i64) s69 v66 y47.Costs ∧ SliceRep encEdge s69 v67 y47.Edges ∧ SliceRep encBool s69 v68 y47.Goals) r) := by
 unfold law44_example_p at hm
 refine calls_of_W Try.func26 rfl rfl (Zc (Zd (Za rfl rfl (Exec.alloc (cs := [Value.int .i64 (0), Value.int .i64 (0), Value.slice none 0 0, Value.slice none 0 0, Value.slice none 0 0]) hS Z26 rfl rfl ?_))))
 intro b73 w74 hS75
 refine Zb (Ze (Zc (Zd (Za rfl rfl (Exec.buildSlice (Te := 3) (cs := [Value.int .i64 (2), Value.int .i64 (0)]) hS75 rfl (parts_cons (c := [Value.int .i64 (2)]) (cells_of rfl rfl) (parts_cons (c := [Value.int .i64 (0)]) (cells_of rfl rfl) parts_nil)) (fun _ => by kernel_rfl) ?_)))))
 intro b88 w89 hS90
 refine Za rfl rfl (Exec.build rfl (parts_cons (c := [Value.int .i64 (0)]) (cells_of rfl rfl) (parts_cons (c := [Value.int .i64 (0)]) (cells_of rfl rfl) (parts_cons (c := [Value.int .i64 (1)]) (cells_of rfl rfl) parts_nil))) (v := Value.agg #[Value.int .i64 (0), Value.int .i64 (0), Value.int .i64 (1)]) (fun _ => by kernel_rfl) (Za rfl rfl (Exec.build rfl (parts_cons (c := [Value.int .i64 (1)]) (cells_of rfl rfl) (parts_cons (c := [Value.int .i64 (1)]) (cells_of rfl rfl) (parts_cons (c := [Value.int .i64 (1)]) (cells_of rfl rfl) parts_nil))) (v := Value.agg #[Value.int .i64 (1), Value.int .i64 (1), Value.int .i64 (1)]) (fun _ => by kernel_rfl) (Za rfl rfl (Exec.buildSlice (Te := 66) (cs := [Value.int .i64 (0), Value.int .i64 (0), Value.int .i64 (1), Value.int .i64 (1), Value.int .i64 (1), Value.int .i64 (1)]) hS90 rfl (parts_cons (c := [Value.int .i64 (0), Value.int .i64 (0), Value.int .i64 (1)]) (cells_of rfl rfl) (parts_cons (c := [Value.int .i64 (1), Value.int .i64 (1), Value.int .i64 (1)]) (cells_of rfl rfl) parts_nil)) (fun _ => by kernel_rfl) ?_)))))
 intro b91 w92 hS93
 refine Za rfl rfl (Exec.buildSlice (Te := 4) (cs := [Value.bool (false), Value.bool (true)]) hS93 rfl (parts_cons (c := [Value.bool (false)]) (cells_of rfl rfl) (parts_cons (c := [Value.bool (true)]) (cells_of rfl rfl) parts_nil)) (fun _ => by kernel_rfl) ?_)
 intro b94 w95 hS96
 refine Za rfl rfl (Exec.build rfl (parts_cons (c := [Value.int .i64 (2)]) (cells_of rfl rfl) (parts_cons (c := [Value.slice (some ⟨b88, 0, none⟩) 2 2]) (cells_of rfl rfl) (parts_cons (c := [Value.slice (some ⟨b91, 0, none⟩) 2 2]) (cells_of rfl rfl) (parts_cons (c := [Value.slice (some ⟨b94, 0, none⟩) 2 2]) (cells_of rfl rfl) parts_nil)))) (v := Value.agg #[Value.int .i64 (2), Value.int .i64 (0), Value.slice (some ⟨b88, 0, none⟩) 2 2, Value.slice (some ⟨b91, 0, none⟩) 2 2, Value.slice (some ⟨b94, 0, none⟩) 2 2]) (fun _ => by kernel_rfl) ?_)
 have hS97 := (hS96).f3
 refine Za rfl rfl (Exec.store_box (ds := [Value.int .i64 (2), Value.int .i64 (0), Value.slice (some ⟨b88, 0, none⟩) 2 2, Value.slice (some ⟨b91, 0, none⟩) 2 2, Value.slice (some ⟨b94, 0, none⟩) 2 2]) (es := [Value.int .i64 (2), Value.int .i64 (0), Value.slice (some ⟨b88, 0, none⟩) 2 2, Value.slice (some ⟨b91, 0, none⟩) 2 2, Value.slice (some ⟨b94, 0, none⟩) 2 2]) hS97 A26 rfl rfl rfl rfl (Zj rfl (Zj rfl (Zj rfl (Zj rfl (Zj rfl one_nil))))) (Nat.le_of_ble_eq_true rfl) rfl ?_)
 intro w98 hS99
 refine Zb (Ze (W_ret ?_))
 have e101 := Zu hm
 subst r
 refine ⟨_, retG1 rfl ⟨_, _, rfl, cellRes (hS99) A26⟩, ?_⟩
 have hS102 := (hS99).f3
 have hS103 := St.boxArr (E := (encInt .i64)) (xs := [2, 0]) hS102 ⟨[Value.int .i64 (2)], [Value.int .i64 (0)], rfl, rfl, ⟨[Value.int .i64 (0)], [], rfl, rfl, rfl⟩⟩ (by simp [maxLen])
 obtain ⟨s104, l105, hS106, r107⟩ := hS103.freezeArr
 have hS108 := (hS106).f2
 have hS109 := St.boxArr (E := encEdge) (xs := [(⟨0, 0, 1⟩ : Edge), (⟨1, 1, 1⟩ : Edge)]) hS108 ⟨[Value.int .i64 (0), Value.int .i64 (0), Value.int .i64 (1)], [Value.int .i64 (1), Value.int .i64 (1), Value.int .i64 (1)], rfl, ⟨[Value.int .i64 (0)], [Value.int .i64 (0), Value.int .i64 (1)], rfl, rfl, ⟨[Value.int .i64 (0)], [Value.int .i64 (1)], rfl, rfl, rfl⟩⟩, ⟨[Value.int .i64 (1), Value.int .i64 (1), Value.int .i64 (1)], [], rfl, ⟨[Value.int .i64 (1)], [Value.int .i64 (1), Value.int .i64 (1)], rfl, rfl, ⟨[Value.int .i64 (1)], [Value.int .i64 (1)], rfl, rfl, rfl⟩⟩, rfl⟩⟩ (by simp [maxLen])
 obtain ⟨s110, l111, hS112, r113⟩ := hS109.freezeArr
 have hS114 := (hS112).f1
 have hS115 := St.boxArr (E := encBool) (xs := [false, true]) hS114 ⟨[Value.bool (false)], [Value.bool (true)], rfl, rfl, ⟨[Value.bool (true)], [], rfl, rfl, rfl⟩⟩ (by simp [maxLen])
 obtain ⟨s116, l117, hS118, r119⟩ := hS115.freezeArr
 have hS120 := (hS118).drop
 exact ⟨s116, (Value.slice (some ⟨b88, 0, none⟩) 2 2), (Value.slice (some ⟨b91, 0, none⟩) 2 2), (Value.slice (some ⟨b94, 0, none⟩) 2 2), (Zt (Zt l105 l111) l117), hS120, rfl, (r107.mono (Zt l111 l117)), (r113.mono l117), r119⟩
theorem F26_0 : tyField Try.prog 26 0 = some 0 := by kernel_rfl
theorem A3 : tyAgg Try.prog 3 = some (false, 1) := by kernel_rfl
theorem F26_1 : tyField Try.prog 26 1 = some 1 := by kernel_rfl
theorem F26_4 : tyField Try.prog 26 4 = some 4 := by kernel_rfl
theorem A24 : tyAgg Try.prog 24 = some (false, 1) := by kernel_rfl
theorem S24 : tySlice Try.prog 24 = some (4, 1, 1) := by kernel_rfl
theorem F26_2 : tyField Try.prog 26 2 = some 2 := by kernel_rfl
theorem A22 : tyAgg Try.prog 22 = some (false, 1) := by kernel_rfl
theorem S22 : tySlice Try.prog 22 = some (3, 1, 8) := by kernel_rfl
theorem F26_3 : tyField Try.prog 26 3 = some 3 := by kernel_rfl
theorem A23 : tyAgg Try.prog 23 = some (false, 1) := by kernel_rfl
theorem S23 : tySlice Try.prog 23 = some (66, 3, 24) := by kernel_rfl
theorem A66 : tyAgg Try.prog 66 = some (true, 3) := by kernel_rfl
theorem Z66 : tyZero Try.prog 66 = some (Value.agg #[Value.int .i64 (0), Value.int .i64 (0), Value.int .i64 (0)]) := by kernel_rfl
theorem hmix : Try.prog.follows .mixedOrders = true := by kernel_rfl
theorem F66_0 : tyField Try.prog 66 0 = some 0 := by kernel_rfl
theorem F66_2 : tyField Try.prog 66 2 = some 2 := by kernel_rfl
theorem F66_1 : tyField Try.prog 66 1 = some 1 := by kernel_rfl
theorem N75 : (Try.f75.name == "runtime.NumGoroutine") = false := by kernel_rfl
theorem cmp_isNaN_int__sim {w0 w : World} {s : PHeap} {H : List Res} {x404 : Int}  {r : Bool} (hm : cmp_isNaN_int__p x404 = some r) (hS : St w0 s (H) w)  :
  Calls Try.prog 75 #[Value.int .i64 (x404)] w fun e w' => ∃ v, e = .returned v ∧ ((fun (y406 : Bool) => ∃ (s407 : PHeap) , PHeap.le s s407 ∧ St w0 s407 (H) w' ∧ v = Value.bool (y406)) r) := by
 unfold cmp_isNaN_int__p at hm
 refine calls_of_W Try.func75 rfl rfl (Zc (Zd (Za rfl rfl (Zo (v := Value.bool (false)) rfl rfl (Zb (Ze (Zc (Zd (Za rfl rfl (Zm (v := Value.int .i64 (x404)) rfl rfl ?_))))))))))
 refine Za rfl rfl (Zm (v := Value.int .i64 (x404)) rfl rfl (Za rfl rfl (Exec.neq rfl rfl rfl (Za rfl rfl (Zo (v := Value.bool (!decide (x404 = x404))) rfl rfl (Zb (Ze (W_ret ?_))))))))
 have e409 := Zu hm
 subst r
 refine ⟨_, ret1 rfl, ?_⟩
 exact ⟨s, (Zv _), hS, rfl⟩
theorem N56 : (Try.f56.name == "runtime.NumGoroutine") = false := by kernel_rfl
theorem cmp_Compare_int__sim {w0 w : World} {s : PHeap} {H : List Res} {x402 : Int} {y403 : Int}  {r : Int} (hm : cmp_Compare_int__p x402 y403 = some r) (hS : St w0 s (H) w)  :
  Calls Try.prog 56 #[Value.int .i64 (x402), Value.int .i64 (y403)] w fun e w' => ∃ v, e = .returned v ∧ ((fun (y432 : Int) => ∃ (s433 : PHeap) , PHeap.le s s433 ∧ St w0 s433 (H) w' ∧ v = Value.int .i64 (y432)) r) := by
 unfold cmp_Compare_int__p at hm
 refine calls_of_W Try.func56 rfl rfl (Zc (Zd (Za rfl rfl (Zo (v := Value.int .i64 (0)) rfl rfl (Zb (Ze (Zc (Zd (Za rfl rfl (Zm (v := Value.int .i64 (x402)) rfl rfl ?_))))))))))
 refine Za rfl rfl (Exec.call rfl rfl Try.func75 rfl N75 (Zi rfl args_nil) ((cmp_isNaN_int__sim (cmp_isNaN_int__tot x402) hS ).mono ?_))
 rintro _ w438 ⟨_, rfl, ⟨s439, l440, hS441, rfl⟩⟩
 refine ⟨_, rfl, ?_⟩
 refine Za rfl rfl (Zo (v := Value.bool ((cmp_isNaN_int__t x402))) rfl rfl (Zb (Ze (Zc (Zd (Za rfl rfl (Zm (v := Value.int .i64 (y403)) rfl rfl (Za rfl rfl (Exec.call rfl rfl Try.func75 rfl N75 (Zi rfl args_nil) ((cmp_isNaN_int__sim (cmp_isNaN_int__tot y403) hS441 ).mono ?_))))))))))
 rintro _ w446 ⟨_, rfl, ⟨s447, l448, hS449, rfl⟩⟩
 refine ⟨_, rfl, ?_⟩
 refine Za rfl rfl (Zo (v := Value.bool ((cmp_isNaN_int__t y403))) rfl rfl (Zb (Ze (Zc (Zc (Zd (Za rfl rfl (Zm (v := Value.bool ((cmp_isNaN_int__t x402))) rfl rfl (Zb (Ze ?_))))))))))
 rcases ite_some hm with ⟨hc450, hm⟩ | ⟨hc450, hm⟩
 ·refine W_cond_t rfl hc450 (Zc (Zc (Zd (Za rfl rfl (Zm (v := Value.bool ((cmp_isNaN_int__t y403))) rfl rfl (Zb (Ze ?_)))))))
  rcases ite_some hm with ⟨hc451, hm⟩ | ⟨hc451, hm⟩
  ·refine W_cond_t rfl hc451 (Zc (Zd (Za rfl rfl (Zo (v := Value.int .i64 (0)) rfl rfl (Zb (Ze (W_ret (at_ret (at_ret ?_)))))))))
   have e453 := Zu hm
   subst r
   refine ⟨_, ret1 rfl, ?_⟩
   exact ⟨s447, (Zt l440 l448), hS449, rfl⟩
  refine W_cond_f rfl hc451 ?_
  replace hc451 := Zk hc451
  refine W_skip (Ze (Zc (Zd (Za rfl rfl (Zo (v := Value.int .i64 ((-1))) rfl rfl (Zb (Ze (W_ret (at_ret ?_)))))))))
  have e455 := Zu hm
  subst r
  refine ⟨_, ret1 rfl, ?_⟩
  exact ⟨s447, (Zt l440 l448), hS449, rfl⟩
 refine W_cond_f rfl hc450 ?_
 replace hc450 := Zk hc450
 refine W_skip (Ze (Zc (Zc (Zd (Za rfl rfl (Zm (v := Value.bool ((cmp_isNaN_int__t y403))) rfl rfl (Zb (Ze ?_))))))))
 rcases ite_some hm with ⟨hc456, hm⟩ | ⟨hc456, hm⟩
 ·refine W_cond_t rfl hc456 (Zc (Zd (Za rfl rfl (Zo (v := Value.int .i64 (1)) rfl rfl (Zb (Ze (W_ret (at_ret ?_))))))))
  have e458 := Zu hm
  subst r
  refine ⟨_, ret1 rfl, ?_⟩
  exact ⟨s447, (Zt l440 l448), hS449, rfl⟩
 refine W_cond_f rfl hc456 ?_
 replace hc456 := Zk hc456
 refine W_skip (Ze (Zc (Zc (Zd (Za rfl rfl (Zm (v := Value.int .i64 (x402)) rfl rfl (Za rfl rfl (Zm (v := Value.int .i64 (y403)) rfl rfl (Za rfl rfl (Zq rfl rfl rfl (Zb (Ze ?_))))))))))))
 rcases ite_some hm with ⟨hc459, hm⟩ | ⟨hc459, hm⟩
 ·refine W_cond_t rfl hc459 (Zc (Zd (Za rfl rfl (Zo (v := Value.int .i64 ((-1))) rfl rfl (Zb (Ze (W_ret (at_ret ?_))))))))
  have e461 := Zu hm
  subst r
  refine ⟨_, ret1 rfl, ?_⟩
  exact ⟨s447, (Zt l440 l448), hS449, rfl⟩
 refine W_cond_f rfl hc459 ?_
 replace hc459 := Zk hc459
 refine W_skip (Ze (Zc (Zc (Zd (Za rfl rfl (Zm (v := Value.int .i64 (x402)) rfl rfl (Za rfl rfl (Zm (v := Value.int .i64 (y403)) rfl rfl (Za rfl rfl (Exec.gtr rfl rfl rfl (Zb (Ze ?_))))))))))))
 rcases ite_some hm with ⟨hc462, hm⟩ | ⟨hc462, hm⟩
 ·refine W_cond_t rfl hc462 (Zc (Zd (Za rfl rfl (Zo (v := Value.int .i64 (1)) rfl rfl (Zb (Ze (W_ret (at_ret ?_))))))))
  have e464 := Zu hm
  subst r
  refine ⟨_, ret1 rfl, ?_⟩
  exact ⟨s447, (Zt l440 l448), hS449, rfl⟩
 refine W_cond_f rfl hc462 ?_
 replace hc462 := Zk hc462
 refine W_skip (Ze (Zc (Zd (Za rfl rfl (Zo (v := Value.int .i64 (0)) rfl rfl (Zb (Ze (W_ret ?_))))))))
 have e466 := Zu hm
 subst r
 refine ⟨_, ret1 rfl, ?_⟩
 exact ⟨s447, (Zt l440 l448), hS449, rfl⟩
theorem N55 : (Try.f55.name == "runtime.NumGoroutine") = false := by kernel_rfl
theorem cmp_Or_int__sim {w0 w : World} {s : PHeap} {H : List Res} {vals487 : (List Int)} {v488 : Value} {r : Int} (hm : cmp_Or_int__p vals487 = some r) (hS : St w0 s (H) w) (a489 : SliceRep (encInt .i64) s v488 vals487) :
  Calls Try.prog 55 #[v488] w fun e w' => ∃ v, e = .returned v ∧ ((fun (y586 : Int) => ∃ (s587 : PHeap) , PHeap.le s s587 ∧ St w0 s587 (H) w' ∧ v = Value.int .i64 (y586)) r) := by
 unfold cmp_Or_int__p at hm
 refine calls_of_W Try.func55 rfl rfl (Zc (Zd (Za rfl rfl (Zo (v := Value.int .i64 (0)) rfl rfl (Zb (Ze (Zc (Zd (Za rfl rfl (Zo (v := Value.int .i64 (0)) rfl rfl ?_))))))))))
 refine Zb (Ze (Zc (Zc (Zd (Za rfl rfl (Zm (v := v488) rfl rfl (Za rfl rfl (Zr S22 rfl rfl a489 (Za rfl rfl (Zm (v := Value.int .i64 (0)) rfl rfl (Zb (Ze ?_))))))))))))
 obtain ⟨c621, hB622, hr623, hn624, hb625⟩ := ctl_some hm
 refine W_mid (M := fun f' w' => ∃ s', (c621 = .next s' ∨ c621 = .brk s') ∧ (fun (_ : Unit) => ∃ (s627 : PHeap) , PHeap.le s s627 ∧ St w0 s627 (H) w' ∧ f' 3 = Value.int .i64 (0) ∧ f' 6 = v488 ∧ f' 7 = Value.int .i64 ((vals487.length : Int))) s') ?_ ?_
 ·refine W_block (W_forC (fun k' s' f' w' => (fun (_ : Unit) => ∃ (s626 : PHeap) , PHeap.le s s626 ∧ St w0 s626 (H) w' ∧ f' 3 = Value.int .i64 (0) ∧ f' 6 = v488 ∧ f' 7 = Value.int .i64 ((vals487.length : Int)) ∧ f' 8 = Value.int .i64 (k' : Int)) s') hB622 ?_ ?_ ?_)
  ·exact ⟨s, (Zv _), hS, rfl, rfl, rfl, rfl⟩
  ·intro i588 t635 c629 f630 w631 hi636 hI632 hm633 hres634
   obtain ⟨s637, l638, hS639, p640, p641, p642, x643⟩ := hI632
   refine Zc (Zd (Za rfl rfl (Zq rfl x643 p642 (Zb (Ze (Zc (W_true (congrArg Value.bool (decide_eq_true (by omega))) (W_skip (Ze (Zc ?_))))))))))
   refine W_block (Zc (Zd ?_))
   obtain ⟨x651, q652, hm633⟩ := Zg hm633
   refine Za rfl rfl (Exec.index_rep S22 rfl p641 x643 (a489.mono l638) q652 ?_)
   intro b653 o654 a655
   refine Za rfl rfl (Zw (E := (encInt .i64)) hS639 A3 rfl rfl rfl a655 ?_)
   intro v656 q657
   obtain rfl := encInt_val.1 q657
   refine Za rfl rfl (Zo (v := Value.int .i64 (x651)) rfl rfl (Zb (Ze (Zc (Zd (Za rfl rfl (Zm (v := Value.int .i64 (x651)) rfl rfl (Za rfl rfl (Zm (v := Value.int .i64 (0)) rfl p640 (Za rfl rfl (Exec.neq rfl rfl rfl (Zb (Ze ?_)))))))))))))
   rcases ite_some hm633 with ⟨hc658, hm633⟩ | ⟨hc658, hm633⟩
   ·refine W_cond_t rfl hc658 (Zc (Zd (Za rfl rfl (Zm (v := Value.int .i64 (x651)) rfl rfl (Za rfl rfl (Zo (v := Value.int .i64 (x651)) rfl rfl (Zb (Ze (W_ret (ib_ret (at_ret (at_ret (ib_ret (at_ret (at_ret ?_)))))))))))))))
    have e659 := Zu hm633
    subst c629
    have hq660 := hr623 _ (hres634 (by intro _ h; cases h))
    have e661 := Zu hq660
    subst r
    refine ⟨_, ret1 rfl, ?_⟩
    exact ⟨s637, l638, hS639, rfl⟩
   refine W_cond_f rfl hc658 ?_
   replace hc658 := Zk hc658
   refine W_skip (ib_normal (Ze (Zd (Za rfl rfl (Exec.add rfl x643 rfl (Za rfl rfl (Zm (v := Value.int .i64 (IntKind.i64.wrap ((i588 : Int) + 1))) rfl rfl (Zb (Ze ?_)))))))))
   have e662 := Zu hm633
   subst c629
   refine ⟨_, rfl, ?_⟩; exact ⟨s637, l638, hS639, p640, p641, p642, (Eq.trans rfl (wrap_up hi636 (SliceRep.le a489)))⟩
  intro t663 f664 w665 hI666 hres667
  obtain ⟨s668, l669, hS670, p671, p672, p673, x674⟩ := hI666
  refine Zc (Zd (Za rfl rfl (Zq rfl x674 p673 (Zb (Ze (Zc (W_false (congrArg Value.bool (decide_eq_false (by omega))) (W_exit (at_exit (at_exit (ib_here (Ze ?_))))))))))))
  refine ⟨_, .inl hres667, ?_⟩; exact ⟨s668, l669, hS670, p671, p672, p673⟩
 rintro f675 w676 ⟨t677, hc678, hM679⟩
 have hm := hc678.elim (hn624 _) (hb625 _)
 clear hc678
 obtain ⟨s680, l681, hS682, p683, p684, p685⟩ := hM679
 refine (Ze (Zc (Zd (Za rfl rfl (Zm (v := Value.int .i64 (0)) rfl p683 (Za rfl rfl (Zo (v := Value.int .i64 (0)) rfl rfl (Zb (Ze (W_ret ?_))))))))))
 have e687 := Zu hm
 subst r
 refine ⟨_, ret1 rfl, ?_⟩
 exact ⟨s680, l681, hS682, rfl⟩
theorem N39 : (Try.f39.name == "runtime.NumGoroutine") = false := by kernel_rfl
theorem transys_compare_sim {w0 w : World} {s : PHeap} {H : List Res} {a387 : Edge} {b388 : Edge}  {r : Int} (hm : transys_compare_p a387 b388 = some r) (hS : St w0 s (H) w)  :
  Calls Try.prog 39 #[Value.agg #[Value.int .i64 (a387.From), Value.int .i64 (a387.Label), Value.int .i64 (a387.To)], Value.agg #[Value.int .i64 (b388.From), Value.int .i64 (b388.Label), Value.int .i64 (b388.To)]] w fun e w' => ∃ v, e = .returned v ∧ ((fun (y780 : Int) => ∃ (s781 : PHeap) , PHeap.le s s781 ∧ St w0 s781 (H) w' ∧ v = Value.int .i64 (y780)) r) := by
 unfold transys_compare_p at hm
 refine calls_of_W Try.func39 rfl rfl (Zc (Zd (Za rfl rfl (Exec.box (cs := [Value.int .i64 (a387.From), Value.int .i64 (a387.Label), Value.int .i64 (a387.To)]) hS rfl rfl rfl ?_))))
 intro b788 w789 hS790
 refine Za rfl rfl (Exec.box (cs := [Value.int .i64 (b388.From), Value.int .i64 (b388.Label), Value.int .i64 (b388.To)]) hS790 rfl rfl rfl ?_)
 intro b791 w792 hS793
 refine Za rfl rfl (Zo (v := Value.int .i64 (0)) rfl rfl (Zb (Ze (Zc (W_dl (n0 := 17) (.q 0 (.q 1 (.q 2 (.q 3 (.q 5 (.q 6 (.q 7 (.q 8 (.q 10 (.q 11 (.q 12 (.q 13 (.e 4 [5, 6, 7, 8, 10, 11, 12, 13] (.e 9 [10, 11, 12, 13] (.e 14 [] (.e 15 [] (.e 16 [] .done))))))))))))))))) hmix (by kernel_rfl) (by kernel_rfl) ?_)))))
 have hS878 := hS793.drew
 refine DL_q rfl rfl (Zp F66_0 rfl rfl rfl ⟨rfl, ?_⟩)
 refine DL_q rfl rfl (Zn ((hS878).f1) A3 rfl rfl rfl ⟨rfl, ?_⟩)
 refine DL_q rfl rfl (Zp F66_0 rfl rfl rfl ⟨rfl, ?_⟩)
 refine DL_q rfl rfl (Zn (hS878) A3 rfl rfl rfl ⟨rfl, ?_⟩)
 refine DL_q rfl rfl (Zp F66_1 rfl rfl rfl ⟨rfl, ?_⟩)
 refine DL_q rfl rfl (Zn ((hS878).f1) A3 rfl rfl rfl ⟨rfl, ?_⟩)
 refine DL_q rfl rfl (Zp F66_1 rfl rfl rfl ⟨rfl, ?_⟩)
 refine DL_q rfl rfl (Zn (hS878) A3 rfl rfl rfl ⟨rfl, ?_⟩)
 refine DL_q rfl rfl (Zp F66_2 rfl rfl rfl ⟨rfl, ?_⟩)
 refine DL_q rfl rfl (Zn ((hS878).f1) A3 rfl rfl rfl ⟨rfl, ?_⟩)
 refine DL_q rfl rfl (Zp F66_2 rfl rfl rfl ⟨rfl, ?_⟩)
 refine DL_q rfl rfl (Zn (hS878) A3 rfl rfl rfl ⟨rfl, ?_⟩)
 refine DL_e rfl rfl (Exec.call rfl rfl Try.func56 rfl N56 (Zi rfl (Zi rfl args_nil)) ((cmp_Compare_int__sim (cmp_Compare_int__tot a387.From b388.From) hS878 ).mono ?_))
 rintro _ w879 ⟨_, rfl, ⟨s880, l881, hS882, rfl⟩⟩
 refine ⟨_, rfl, ?_⟩
 refine ⟨(ag_cons (ag_r rfl rfl (Zp F66_1 rfl rfl rfl ⟨rfl, rfl⟩)) (ag_cons (ag_r rfl rfl (Zn ((hS882).f1) A3 rfl rfl rfl ⟨rfl, rfl⟩)) (ag_cons (ag_r rfl rfl (Zp F66_1 rfl rfl rfl ⟨rfl, rfl⟩)) (ag_cons (ag_r rfl rfl (Zn (hS882) A3 rfl rfl rfl ⟨rfl, rfl⟩)) (ag_cons (ag_r rfl rfl (Zp F66_2 rfl rfl rfl ⟨rfl, rfl⟩)) (ag_cons (ag_r rfl rfl (Zn ((hS882).f1) A3 rfl rfl rfl ⟨rfl, rfl⟩)) (ag_cons (ag_r rfl rfl (Zp F66_2 rfl rfl rfl ⟨rfl, rfl⟩)) (ag_cons (ag_r rfl rfl (Zn (hS882) A3 rfl rfl rfl ⟨rfl, rfl⟩)) ag_nil)))))))), ?_⟩
 refine DL_e rfl rfl (Exec.call rfl rfl Try.func56 rfl N56 (Zi rfl (Zi rfl args_nil)) ((cmp_Compare_int__sim (cmp_Compare_int__tot a387.Label b388.Label) hS882 ).mono ?_))
 rintro _ w883 ⟨_, rfl, ⟨s884, l885, hS886, rfl⟩⟩
 refine ⟨_, rfl, ?_⟩
 refine ⟨(ag_cons (ag_r rfl rfl (Zp F66_2 rfl rfl rfl ⟨rfl, rfl⟩)) (ag_cons (ag_r rfl rfl (Zn ((hS886).f1) A3 rfl rfl rfl ⟨rfl, rfl⟩)) (ag_cons (ag_r rfl rfl (Zp F66_2 rfl rfl rfl ⟨rfl, rfl⟩)) (ag_cons (ag_r rfl rfl (Zn (hS886) A3 rfl rfl rfl ⟨rfl, rfl⟩)) ag_nil)))), ?_⟩
 refine DL_e rfl rfl (Exec.call rfl rfl Try.func56 rfl N56 (Zi rfl (Zi rfl args_nil)) ((cmp_Compare_int__sim (cmp_Compare_int__tot a387.To b388.To) hS886 ).mono ?_))
 rintro _ w887 ⟨_, rfl, ⟨s888, l889, hS890, rfl⟩⟩
 refine ⟨_, rfl, ?_⟩
 refine ⟨ag_nil, ?_⟩
 refine DL_e rfl rfl (Exec.buildSlice (Te := 3) (cs := [Value.int .i64 ((cmp_Compare_int__t a387.From b388.From)), Value.int .i64 ((cmp_Compare_int__t a387.Label b388.Label)), Value.int .i64 ((cmp_Compare_int__t a387.To b388.To))]) hS890 rfl (parts_cons (c := [Value.int .i64 ((cmp_Compare_int__t a387.From b388.From))]) (cells_of rfl rfl) (parts_cons (c := [Value.int .i64 ((cmp_Compare_int__t a387.Label b388.Label))]) (cells_of rfl rfl) (parts_cons (c := [Value.int .i64 ((cmp_Compare_int__t a387.To b388.To))]) (cells_of rfl rfl) parts_nil))) (fun _ => by kernel_rfl) ?_)
 intro b891 w892 hS893
 refine ⟨ag_nil, ?_⟩
 have hS894 := St.boxArr (E := (encInt .i64)) (xs := [(cmp_Compare_int__t a387.From b388.From), (cmp_Compare_int__t a387.Label b388.Label), (cmp_Compare_int__t a387.To b388.To)]) hS893 ⟨[Value.int .i64 ((cmp_Compare_int__t a387.From b388.From))], [Value.int .i64 ((cmp_Compare_int__t a387.Label b388.Label)), Value.int .i64 ((cmp_Compare_int__t a387.To b388.To))], rfl, rfl, ⟨[Value.int .i64 ((cmp_Compare_int__t a387.Label b388.Label))], [Value.int .i64 ((cmp_Compare_int__t a387.To b388.To))], rfl, rfl, ⟨[Value.int .i64 ((cmp_Compare_int__t a387.To b388.To))], [], rfl, rfl, rfl⟩⟩⟩ (by simp [maxLen])
 obtain ⟨s895, l896, hS897, r898⟩ := hS894.freezeArr
 obtain ⟨y901, q900, hm⟩ := Zg hm
 refine DL_e rfl rfl (Exec.call rfl rfl Try.func55 rfl N55 (Zi rfl args_nil) ((cmp_Or_int__sim q900 hS897 r898).mono ?_))
 rintro _ w902 ⟨_, rfl, ⟨s903, l904, hS905, rfl⟩⟩
 refine ⟨_, rfl, ?_⟩
 refine ⟨ag_nil, ?_⟩
 refine DL_done (Za rfl rfl (Zo (v := Value.int .i64 (y901)) rfl rfl (Zb (Ze (W_ret ?_)))))
 have e907 := Zu hm
 subst r
 refine ⟨_, ret1 rfl, ?_⟩
 have hS908 := (hS905).drop
 have hS909 := (hS908).drop
 exact ⟨s903, (Zt (Zt (Zt (Zt l881 l885) l889) l896) l904), hS909, rfl⟩
theorem N25 : (Try.f25.name == "runtime.NumGoroutine") = false := by kernel_rfl
theorem transys_Valid_sim {w0 w : World} {s : PHeap} {H : List Res} {x173 : System} {v174 : Value} {v176 : Value} {v178 : Value} {r : Bool} (hm : transys_Valid_p x173 = some r) (hS : St w0 s (H) w) (a175 : SliceRep (encInt .i64) s v174 x173.Costs) (a177 : SliceRep encEdge s v176 x173.Edges) (a179 : SliceRep encBool s v178 x173.Goals) :
  Calls Try.prog 25 #[Value.agg #[Value.int .i64 (x173.States), Value.int .i64 (x173.Init), v174, v176, v178]] w fun e w' => ∃ v, e = .returned v ∧ ((fun (y100 : Bool) => ∃ (s100 : PHeap) , PHeap.le s s100 ∧ St w0 s100 (H) w' ∧ v = Value.bool (y100)) r) := by
 unfold transys_Valid_p at hm
 refine calls_of_W Try.func25 rfl rfl (Zc (Zd (Za rfl rfl (Exec.box (cs := [Value.int .i64 (x173.States), Value.int .i64 (x173.Init), v174, v176, v178]) hS rfl rfl rfl ?_))))
 intro b100 w100 hS100
 refine Za rfl rfl (Zo (v := Value.bool (false)) rfl rfl (Zb (Ze (Zc (Zc (W_mid (M := fun f' w' => ∃ (s101 : PHeap) , PHeap.le s s101 ∧ St w0 s101 (Res.box b100 26 [Value.int .i64 (x173.States), Value.int .i64 (x173.Init), v174, v176, v178] :: H) w' ∧ f' 1 = Value.pointer (some ⟨b100, 0, none⟩) ∧ f' 46 = Value.bool (((decide (x173.States < 1)) || ((decide (4096 < x173.States)) || ((decide (x173.Init < 0)) || ((decide (x173.States ≤ x173.Init)) || ((!decide ((x173.Goals.length : Int) = x173.States)) || ((decide (4096 < (x173.Costs.length : Int))) || decide (65536 < (x173.Edges.length : Int)))))))))) ?_ ?_))))))
 ·refine Zd (Za rfl rfl (Zp F26_0 rfl rfl rfl (Za rfl rfl (Zn (hS100) A3 rfl rfl rfl (Za rfl rfl (Zq rfl rfl rfl (Za rfl rfl (Zm (v := Value.bool (decide (x173.States < 1))) rfl rfl ?_))))))))
  by_cases hc100 : (decide (x173.States < 1)) = true
  ·refine Zl rfl (Zf rfl (congrArg Value.bool hc100)) rfl rfl (Zl rfl (Zf rfl (congrArg Value.bool hc100)) rfl rfl (Zl rfl (Zf rfl (congrArg Value.bool hc100)) rfl rfl (Za rfl rfl (Zs (v := Value.bool (true)) rfl (congrArg Value.bool hc100) rfl (Za rfl rfl (Zm (v := Value.bool (true)) rfl rfl (Zl rfl (Zf rfl rfl) rfl rfl (Zl rfl (Zf rfl rfl) rfl rfl (Zl rfl (Zf rfl rfl) rfl rfl ?_)))))))))
   refine Za rfl rfl (Zs (v := Value.bool (true)) rfl rfl rfl (Za rfl rfl (Zm (v := Value.bool (true)) rfl rfl (Zl rfl (Zf rfl rfl) rfl rfl (Zl rfl (Zf rfl rfl) rfl rfl (Zl rfl (Zf rfl rfl) rfl rfl (Zl rfl (Zf rfl rfl) rfl rfl (Zl rfl (Zf rfl rfl) rfl rfl (Za rfl rfl (Zs (v := Value.bool (true)) rfl rfl rfl ?_))))))))))
   refine Za rfl rfl (Zm (v := Value.bool (true)) rfl rfl (Zl rfl (Zf rfl rfl) rfl rfl (Zl rfl (Zf rfl rfl) rfl rfl (Zl rfl (Zf rfl rfl) rfl rfl (Zl rfl (Zf rfl rfl) rfl rfl (Zl rfl (Zf rfl rfl) rfl rfl (Zl rfl (Zf rfl rfl) rfl rfl (Za rfl rfl (Zs (v := Value.bool (true)) rfl rfl rfl ?_)))))))))
   refine Za rfl rfl (Zm (v := Value.bool (true)) rfl rfl (Zl rfl (Zf rfl rfl) rfl rfl (Zl rfl (Zf rfl rfl) rfl rfl (Zl rfl (Zf rfl rfl) rfl rfl (Zl rfl (Zf rfl rfl) rfl rfl (Za rfl rfl (Zs (v := Value.bool (true)) rfl rfl rfl (Za rfl rfl (Zm (v := Value.bool (true)) rfl rfl (Zl rfl (Zf rfl rfl) rfl rfl ?_))))))))))
   refine Zl rfl (Zf rfl rfl) rfl rfl (Zl rfl (Zf rfl rfl) rfl rfl (Zl rfl (Zf rfl rfl) rfl rfl (Za rfl rfl (Zs (v := Value.bool (true)) rfl rfl rfl (Zb (Ze ?_))))))
   exact ⟨s, (Zv _), hS100, rfl, (congrArg Value.bool (or_t hc100)).symm⟩
  replace hc100 := Zk hc100
  refine WL_run rfl (Zf rfl (congrArg Value.bool hc100)) rfl (Zp F26_0 rfl rfl rfl (WL_run rfl (Zf rfl (congrArg Value.bool hc100)) rfl (Zn (hS100) A3 rfl rfl rfl (WL_run rfl (Zf rfl (congrArg Value.bool hc100)) rfl (Exec.gtr rfl rfl rfl (Za rfl rfl (Exec.pick_f (v := Value.bool (decide (4096 < x173.States))) rfl (congrArg Value.bool hc100) rfl (Za rfl rfl (Zm (v := Value.bool (decide (4096 < x173.States))) rfl rfl ?_)))))))))
  by_cases hc101 : (decide (4096 < x173.States)) = true
  ·refine Zl rfl (Zf rfl (congrArg Value.bool hc101)) rfl rfl (Zl rfl (Zf rfl (congrArg Value.bool hc101)) rfl rfl (Zl rfl (Zf rfl (congrArg Value.bool hc101)) rfl rfl (Za rfl rfl (Zs (v := Value.bool (true)) rfl (congrArg Value.bool hc101) rfl (Za rfl rfl (Zm (v := Value.bool (true)) rfl rfl (Zl rfl (Zf rfl rfl) rfl rfl (Zl rfl (Zf rfl rfl) rfl rfl (Zl rfl (Zf rfl rfl) rfl rfl ?_)))))))))
   refine Zl rfl (Zf rfl rfl) rfl rfl (Zl rfl (Zf rfl rfl) rfl rfl (Za rfl rfl (Zs (v := Value.bool (true)) rfl rfl rfl (Za rfl rfl (Zm (v := Value.bool (true)) rfl rfl (Zl rfl (Zf rfl rfl) rfl rfl (Zl rfl (Zf rfl rfl) rfl rfl (Zl rfl (Zf rfl rfl) rfl rfl (Zl rfl (Zf rfl rfl) rfl rfl ?_)))))))))
   refine Zl rfl (Zf rfl rfl) rfl rfl (Zl rfl (Zf rfl rfl) rfl rfl (Za rfl rfl (Zs (v := Value.bool (true)) rfl rfl rfl (Za rfl rfl (Zm (v := Value.bool (true)) rfl rfl (Zl rfl (Zf rfl rfl) rfl rfl (Zl rfl (Zf rfl rfl) rfl rfl (Zl rfl (Zf rfl rfl) rfl rfl (Zl rfl (Zf rfl rfl) rfl rfl ?_)))))))))
   refine Za rfl rfl (Zs (v := Value.bool (true)) rfl rfl rfl (Za rfl rfl (Zm (v := Value.bool (true)) rfl rfl (Zl rfl (Zf rfl rfl) rfl rfl (Zl rfl (Zf rfl rfl) rfl rfl (Zl rfl (Zf rfl rfl) rfl rfl (Zl rfl (Zf rfl rfl) rfl rfl (Za rfl rfl (Zs (v := Value.bool (true)) rfl rfl rfl (Zb (Ze ?_)))))))))))
   exact ⟨s, (Zv _), hS100, rfl, (congrArg Value.bool (Eq.trans (or_f hc100) (or_t hc101))).symm⟩
  replace hc101 := Zk hc101
  refine WL_run rfl (Zf rfl (congrArg Value.bool hc101)) rfl (Zp F26_1 rfl rfl rfl (WL_run rfl (Zf rfl (congrArg Value.bool hc101)) rfl (Zn (hS100) A3 rfl rfl rfl (WL_run rfl (Zf rfl (congrArg Value.bool hc101)) rfl (Zq rfl rfl rfl (Za rfl rfl (Exec.pick_f (v := Value.bool (decide (x173.Init < 0))) rfl (congrArg Value.bool hc101) rfl (Za rfl rfl (Zm (v := Value.bool (decide (x173.Init < 0))) rfl rfl ?_)))))))))
  by_cases hc102 : (decide (x173.Init < 0)) = true
  ·refine Zl rfl (Zf rfl (congrArg Value.bool hc102)) rfl rfl (Zl rfl (Zf rfl (congrArg Value.bool hc102)) rfl rfl (Zl rfl (Zf rfl (congrArg Value.bool hc102)) rfl rfl (Zl rfl (Zf rfl (congrArg Value.bool hc102)) rfl rfl (Zl rfl (Zf rfl (congrArg Value.bool hc102)) rfl rfl (Za rfl rfl (Zs (v := Value.bool (true)) rfl (congrArg Value.bool hc102) rfl (Za rfl rfl (Zm (v := Value.bool (true)) rfl rfl (Zl rfl (Zf rfl rfl) rfl rfl ?_)))))))))
   refine Zl rfl (Zf rfl rfl) rfl rfl (Zl rfl (Zf rfl rfl) rfl rfl (Zl rfl (Zf rfl rfl) rfl rfl (Zl rfl (Zf rfl rfl) rfl rfl (Zl rfl (Zf rfl rfl) rfl rfl (Za rfl rfl (Zs (v := Value.bool (true)) rfl rfl rfl (Za rfl rfl (Zm (v := Value.bool (true)) rfl rfl (Zl rfl (Zf rfl rfl) rfl rfl ?_)))))))))
   refine Zl rfl (Zf rfl rfl) rfl rfl (Zl rfl (Zf rfl rfl) rfl rfl (Zl rfl (Zf rfl rfl) rfl rfl (Za rfl rfl (Zs (v := Value.bool (true)) rfl rfl rfl (Za rfl rfl (Zm (v := Value.bool (true)) rfl rfl (Zl rfl (Zf rfl rfl) rfl rfl (Zl rfl (Zf rfl rfl) rfl rfl (Zl rfl (Zf rfl rfl) rfl rfl ?_)))))))))
   refine Zl rfl (Zf rfl rfl) rfl rfl (Za rfl rfl (Zs (v := Value.bool (true)) rfl rfl rfl (Zb (Ze ?_))))
   exact ⟨s, (Zv _), hS100, rfl, (congrArg Value.bool (Eq.trans (or_f hc100) (Eq.trans (or_f hc101) (or_t hc102)))).symm⟩
  replace hc102 := Zk hc102
  refine WL_run rfl (Zf rfl (congrArg Value.bool hc102)) rfl (Zp F26_1 rfl rfl rfl (WL_run rfl (Zf rfl (congrArg Value.bool hc102)) rfl (Zn (hS100) A3 rfl rfl rfl (WL_run rfl (Zf rfl (congrArg Value.bool hc102)) rfl (Zp F26_0 rfl rfl rfl (WL_run rfl (Zf rfl (congrArg Value.bool hc102)) rfl (Zn (hS100) A3 rfl rfl rfl (WL_run rfl (Zf rfl (congrArg Value.bool hc102)) rfl (Exec.geq rfl rfl rfl (Za rfl rfl (Exec.pick_f (v := Value.bool (decide (x173.States ≤ x173.Init))) rfl (congrArg Value.bool hc102) rfl (Za rfl rfl (Zm (v := Value.bool (decide (x173.States ≤ x173.Init))) rfl rfl ?_)))))))))))))
  by_cases hc103 : (decide (x173.States ≤ x173.Init)) = true
  ·refine Zl rfl (Zf rfl (congrArg Value.bool hc103)) rfl rfl (Zl rfl (Zf rfl (congrArg Value.bool hc103)) rfl rfl (Zl rfl (Zf rfl (congrArg Value.bool hc103)) rfl rfl (Zl rfl (Zf rfl (congrArg Value.bool hc103)) rfl rfl (Zl rfl (Zf rfl (congrArg Value.bool hc103)) rfl rfl (Zl rfl (Zf rfl (congrArg Value.bool hc103)) rfl rfl (Za rfl rfl (Zs (v := Value.bool (true)) rfl (congrArg Value.bool hc103) rfl (Za rfl rfl (Zm (v := Value.bool (true)) rfl rfl ?_)))))))))
   refine Zl rfl (Zf rfl rfl) rfl rfl (Zl rfl (Zf rfl rfl) rfl rfl (Zl rfl (Zf rfl rfl) rfl rfl (Zl rfl (Zf rfl rfl) rfl rfl (Za rfl rfl (Zs (v := Value.bool (true)) rfl rfl rfl (Za rfl rfl (Zm (v := Value.bool (true)) rfl rfl (Zl rfl (Zf rfl rfl) rfl rfl (Zl rfl (Zf rfl rfl) rfl rfl ?_)))))))))
   refine Zl rfl (Zf rfl rfl) rfl rfl (Zl rfl (Zf rfl rfl) rfl rfl (Za rfl rfl (Zs (v := Value.bool (true)) rfl rfl rfl (Zb (Ze ?_)))))
   exact ⟨s, (Zv _), hS100, rfl, (congrArg Value.bool (Eq.trans (or_f hc100) (Eq.trans (or_f hc101) (Eq.trans (or_f hc102) (or_t hc103))))).symm⟩
  replace hc103 := Zk hc103
  refine WL_run rfl (Zf rfl (congrArg Value.bool hc103)) rfl (Zp F26_4 rfl rfl rfl (WL_run rfl (Zf rfl (congrArg Value.bool hc103)) rfl (Zn (hS100) A24 rfl rfl rfl (WL_run rfl (Zf rfl (congrArg Value.bool hc103)) rfl (Zr S24 rfl rfl a179 (WL_run rfl (Zf rfl (congrArg Value.bool hc103)) rfl (Zp F26_0 rfl rfl rfl (WL_run rfl (Zf rfl (congrArg Value.bool hc103)) rfl (Zn (hS100) A3 rfl rfl rfl (WL_run rfl (Zf rfl (congrArg Value.bool hc103)) rfl (Exec.neq rfl rfl rfl (Za rfl rfl (Exec.pick_f (v := Value.bool (!decide ((x173.Goals.length : Int) = x173.States))) rfl (congrArg Value.bool hc103) rfl (Za rfl rfl (Zm (v := Value.bool (!decide ((x173.Goals.length : Int) = x173.States))) rfl rfl ?_)))))))))))))))
  by_cases hc104 : (!decide ((x173.Goals.length : Int) = x173.States)) = true
  ·refine Zl rfl (Zf rfl (congrArg Value.bool hc104)) rfl rfl (Zl rfl (Zf rfl (congrArg Value.bool hc104)) rfl rfl (Zl rfl (Zf rfl (congrArg Value.bool hc104)) rfl rfl (Zl rfl (Zf rfl (congrArg Value.bool hc104)) rfl rfl (Za rfl rfl (Zs (v := Value.bool (true)) rfl (congrArg Value.bool hc104) rfl (Za rfl rfl (Zm (v := Value.bool (true)) rfl rfl (Zl rfl (Zf rfl rfl) rfl rfl (Zl rfl (Zf rfl rfl) rfl rfl ?_)))))))))
   refine Zl rfl (Zf rfl rfl) rfl rfl (Zl rfl (Zf rfl rfl) rfl rfl (Za rfl rfl (Zs (v := Value.bool (true)) rfl rfl rfl (Zb (Ze ?_)))))
   exact ⟨s, (Zv _), hS100, rfl, (congrArg Value.bool (Eq.trans (or_f hc100) (Eq.trans (or_f hc101) (Eq.trans (or_f hc102) (Eq.trans (or_f hc103) (or_t hc104)))))).symm⟩
  replace hc104 := Zk hc104
  refine WL_run rfl (Zf rfl (congrArg Value.bool hc104)) rfl (Zp F26_2 rfl rfl rfl (WL_run rfl (Zf rfl (congrArg Value.bool hc104)) rfl (Zn (hS100) A22 rfl rfl rfl (WL_run rfl (Zf rfl (congrArg Value.bool hc104)) rfl (Zr S22 rfl rfl a175 (WL_run rfl (Zf rfl (congrArg Value.bool hc104)) rfl (Exec.gtr rfl rfl rfl (Za rfl rfl (Exec.pick_f (v := Value.bool (decide (4096 < (x173.Costs.length : Int)))) rfl (congrArg Value.bool hc104) rfl (Za rfl rfl (Zm (v := Value.bool (decide (4096 < (x173.Costs.length : Int)))) rfl rfl ?_)))))))))))
  by_cases hc105 : (decide (4096 < (x173.Costs.length : Int))) = true
  ·refine Zl rfl (Zf rfl (congrArg Value.bool hc105)) rfl rfl (Zl rfl (Zf rfl (congrArg Value.bool hc105)) rfl rfl (Zl rfl (Zf rfl (congrArg Value.bool hc105)) rfl rfl (Zl rfl (Zf rfl (congrArg Value.bool hc105)) rfl rfl (Za rfl rfl (Zs (v := Value.bool (true)) rfl (congrArg Value.bool hc105) rfl (Zb (Ze ?_)))))))
   exact ⟨s, (Zv _), hS100, rfl, (congrArg Value.bool (Eq.trans (or_f hc100) (Eq.trans (or_f hc101) (Eq.trans (or_f hc102) (Eq.trans (or_f hc103) (Eq.trans (or_f hc104) (or_t hc105))))))).symm⟩
  replace hc105 := Zk hc105
  refine WL_run rfl (Zf rfl (congrArg Value.bool hc105)) rfl (Zp F26_3 rfl rfl rfl (WL_run rfl (Zf rfl (congrArg Value.bool hc105)) rfl (Zn (hS100) A23 rfl rfl rfl (WL_run rfl (Zf rfl (congrArg Value.bool hc105)) rfl (Zr S23 rfl rfl a177 (WL_run rfl (Zf rfl (congrArg Value.bool hc105)) rfl (Exec.gtr rfl rfl rfl (Za rfl rfl (Exec.pick_f (v := Value.bool (decide (65536 < (x173.Edges.length : Int)))) rfl (congrArg Value.bool hc105) rfl (Zb (Ze ?_)))))))))))
  exact ⟨s, (Zv _), hS100, rfl, (congrArg Value.bool (Eq.trans (or_f hc100) (Eq.trans (or_f hc101) (Eq.trans (or_f hc102) (Eq.trans (or_f hc103) (Eq.trans (or_f hc104) (or_f hc105))))))).symm⟩
 intro f100 w101 hM100
 obtain ⟨s102, l100, hS101, p100, p101⟩ := hM100
 refine (Ze ?_)
 rcases ite_some hm with ⟨hc106, hm⟩ | ⟨hc106, hm⟩
 ·refine W_cond_t p101 hc106 (Zc (Zd (Za rfl rfl (Zo (v := Value.bool (false)) rfl rfl (Zb (Ze (W_ret (at_ret ?_))))))))
  have e100 := Zu hm
  subst r
  refine ⟨_, ret1 rfl, ?_⟩
  have hS102 := (hS101).drop
  exact ⟨s102, l100, hS102, rfl⟩
 refine W_cond_f p101 hc106 ?_
 replace hc106 := Zk hc106
 refine W_skip (Ze (Zc (Zc (Zd (Za rfl rfl (Zp F26_2 rfl p100 rfl (Za rfl rfl (Zn (hS101) A22 rfl rfl rfl (Za rfl rfl (Zr S22 rfl rfl (a175.mono l100) (Za rfl rfl (Zm (v := Value.int .i64 (0)) rfl rfl ?_))))))))))))
 refine Zb (Ze ?_)
 obtain ⟨c100, hB100, hr100, hn100, hb100⟩ := ctl_some hm
 refine W_mid (M := fun f' w' => ∃ s', (c100 = .next s' ∨ c100 = .brk s') ∧ (fun (_ : Unit) => ∃ (s103 : PHeap) , PHeap.le s102 s103 ∧ St w0 s103 (Res.box b100 26 [Value.int .i64 (x173.States), Value.int .i64 (x173.Init), v174, v176, v178] :: H) w' ∧ f' 1 = Value.pointer (some ⟨b100, 0, none⟩) ∧ f' 48 = v174 ∧ f' 49 = Value.int .i64 ((x173.Costs.length : Int))) s') ?_ ?_
 ·refine W_block (W_forC (fun k' s' f' w' => (fun (_ : Unit) => ∃ (s104 : PHeap) , PHeap.le s102 s104 ∧ St w0 s104 (Res.box b100 26 [Value.int .i64 (x173.States), Value.int .i64 (x173.Init), v174, v176, v178] :: H) w' ∧ f' 1 = Value.pointer (some ⟨b100, 0, none⟩) ∧ f' 48 = v174 ∧ f' 49 = Value.int .i64 ((x173.Costs.length : Int)) ∧ f' 50 = Value.int .i64 (k' : Int)) s') hB100 ?_ ?_ ?_)
  ·exact ⟨s102, (Zv _), hS101, p100, rfl, rfl, rfl⟩
  ·intro i100 t100 c101 f101 w102 hi100 hI100 hm100 hres100
   obtain ⟨s105, l101, hS103, p102, p103, p104, x100⟩ := hI100
   refine Zc (Zd (Za rfl rfl (Zq rfl x100 p104 (Zb (Ze (Zc (W_true (congrArg Value.bool (decide_eq_true (by omega))) (W_skip (Ze (Zc ?_))))))))))
   refine W_block (Zc (Zd ?_))
   obtain ⟨x101, q100, hm100⟩ := Zg hm100
   refine Za rfl rfl (Exec.index_rep S22 rfl p103 x100 (a175.mono (Zt l100 l101)) q100 ?_)
   intro b101 o100 a100
   refine Za rfl rfl (Zw (E := (encInt .i64)) hS103 A3 rfl rfl rfl a100 ?_)
   intro v100 q101
   obtain rfl := encInt_val.1 q101
   refine Za rfl rfl (Zo (v := Value.int .i64 (x101)) rfl rfl (Zb (Ze (Zc (W_mid (M := fun f' w' => ∃ (s106 : PHeap) , PHeap.le s105 s106 ∧ St w0 s106 (Res.box b100 26 [Value.int .i64 (x173.States), Value.int .i64 (x173.Init), v174, v176, v178] :: H) w' ∧ f' 1 = Value.pointer (some ⟨b100, 0, none⟩) ∧ f' 48 = v174 ∧ f' 49 = Value.int .i64 ((x173.Costs.length : Int)) ∧ f' 50 = Value.int .i64 ((i100 : Int)) ∧ f' 59 = Value.bool (((decide (x101 < 0)) || decide (1048576 < x101)))) ?_ ?_)))))
   ·refine Zd (Za rfl rfl (Zm (v := Value.int .i64 (x101)) rfl rfl (Za rfl rfl (Zq rfl rfl rfl (Za rfl rfl (Zm (v := Value.bool (decide (x101 < 0))) rfl rfl ?_))))))
    by_cases hc107 : (decide (x101 < 0)) = true
    ·refine Zl rfl (Zf rfl (congrArg Value.bool hc107)) rfl rfl (Zl rfl (Zf rfl (congrArg Value.bool hc107)) rfl rfl (Za rfl rfl (Zs (v := Value.bool (true)) rfl (congrArg Value.bool hc107) rfl (Zb (Ze ?_)))))
     exact ⟨s105, (Zv _), hS103, p102, p103, p104, x100, (congrArg Value.bool (or_t hc107)).symm⟩
    replace hc107 := Zk hc107
    refine WL_run rfl (Zf rfl (congrArg Value.bool hc107)) rfl (Zm (v := Value.int .i64 (x101)) rfl rfl (WL_run rfl (Zf rfl (congrArg Value.bool hc107)) rfl (Exec.gtr rfl rfl rfl (Za rfl rfl (Exec.pick_f (v := Value.bool (decide (1048576 < x101))) rfl (congrArg Value.bool hc107) rfl (Zb (Ze ?_)))))))
    exact ⟨s105, (Zv _), hS103, p102, p103, p104, x100, (congrArg Value.bool (or_f hc107)).symm⟩
   intro f102 w103 hM101
   obtain ⟨s107, l102, hS104, p105, p106, p107, p108, p109⟩ := hM101
   refine (Ze ?_)
   rcases ite_some hm100 with ⟨hc108, hm100⟩ | ⟨hc108, hm100⟩
   ·refine W_cond_t p109 hc108 (Zc (Zd (Za rfl rfl (Zo (v := Value.bool (false)) rfl rfl (Zb (Ze (W_ret (ib_ret (at_ret (at_ret (ib_ret (at_ret (at_ret ?_)))))))))))))
    have e101 := Zu hm100
    subst c101
    have hq100 := hr100 _ (hres100 (by intro _ h; cases h))
    have e102 := Zu hq100
    subst r
    refine ⟨_, ret1 rfl, ?_⟩
    have hS105 := (hS104).drop
    exact ⟨s107, (Zt (Zt l100 l101) l102), hS105, rfl⟩
   refine W_cond_f p109 hc108 ?_
   replace hc108 := Zk hc108
   refine W_skip (ib_normal (Ze (Zd (Za rfl rfl (Exec.add rfl p108 rfl (Za rfl rfl (Zm (v := Value.int .i64 (IntKind.i64.wrap ((i100 : Int) + 1))) rfl rfl (Zb (Ze ?_)))))))))
   have e103 := Zu hm100
   subst c101
   refine ⟨_, rfl, ?_⟩; exact ⟨s107, (Zt l101 l102), hS104, p105, p106, p107, (Eq.trans rfl (wrap_up hi100 (SliceRep.le (a175.mono l100))))⟩
  intro t101 f103 w104 hI101 hres101
  obtain ⟨s108, l103, hS106, p110, p111, p112, x102⟩ := hI101
  refine Zc (Zd (Za rfl rfl (Zq rfl x102 p112 (Zb (Ze (Zc (W_false (congrArg Value.bool (decide_eq_false (by omega))) (W_exit (at_exit (at_exit (ib_here (Ze ?_))))))))))))
  refine ⟨_, .inl hres101, ?_⟩; exact ⟨s108, l103, hS106, p110, p111, p112⟩
 rintro f104 w105 ⟨t102, hc109, hM102⟩
 have hm := hc109.elim (hn100 _) (hb100 _)
 clear hc109
 obtain ⟨s109, l104, hS107, p113, p114, p115⟩ := hM102
 refine (Ze (Zc (Zc (Zd (Za rfl rfl (Zp F26_3 rfl p113 rfl (Za rfl rfl (Zn (hS107) A23 rfl rfl rfl (Za rfl rfl (Zr S23 rfl rfl (a177.mono (Zt l100 l104)) (Za rfl rfl (Zm (v := Value.int .i64 (0)) rfl rfl ?_))))))))))))
 refine Zb (Ze ?_)
 obtain ⟨c102, hB101, hr101, hn101, hb101⟩ := ctl_some hm
 refine W_mid (M := fun f' w' => ∃ s', (c102 = .next s' ∨ c102 = .brk s') ∧ (fun (_ : Unit) => ∃ (s110 : PHeap) , PHeap.le s109 s110 ∧ St w0 s110 (Res.box b100 26 [Value.int .i64 (x173.States), Value.int .i64 (x173.Init), v174, v176, v178] :: H) w' ∧ f' 1 = Value.pointer (some ⟨b100, 0, none⟩) ∧ f' 62 = v176 ∧ f' 63 = Value.int .i64 ((x173.Edges.length : Int))) s') ?_ ?_
 ·refine W_block (W_forC (fun k' s' f' w' => (fun (_ : Unit) => ∃ (s111 : PHeap) , PHeap.le s109 s111 ∧ St w0 s111 (Res.box b100 26 [Value.int .i64 (x173.States), Value.int .i64 (x173.Init), v174, v176, v178] :: H) w' ∧ f' 1 = Value.pointer (some ⟨b100, 0, none⟩) ∧ f' 62 = v176 ∧ f' 63 = Value.int .i64 ((x173.Edges.length : Int)) ∧ f' 64 = Value.int .i64 (k' : Int)) s') hB101 ?_ ?_ ?_)
  ·exact ⟨s109, (Zv _), hS107, p113, rfl, rfl, rfl⟩
  ·intro i101 t103 c103 f105 w106 hi101 hI102 hm101 hres102
   obtain ⟨s112, l105, hS108, p116, p117, p118, x103⟩ := hI102
   refine Zc (Zd (Za rfl rfl (Zq rfl x103 p118 (Zb (Ze (Zc (W_true (congrArg Value.bool (decide_eq_true (by omega))) (W_skip (Ze (Zc ?_))))))))))
   refine W_block (Zc (Zd (Za rfl rfl (Zm (v := Value.int .i64 ((i101 : Int))) rfl x103 ?_))))
   obtain ⟨x104, q102, hm101⟩ := Zg hm101
   refine Za rfl rfl (Exec.index_rep S23 rfl p117 x103 (a177.mono (Zt (Zt l100 l104) l105)) q102 ?_)
   intro b102 o101 a101
   refine Za rfl rfl (Zw (E := encEdge) hS108 A66 rfl rfl rfl a101 ?_)
   intro v101 q103
   obtain rfl := encEdge_val.1 q103
   refine Za rfl rfl (Exec.alloc (cs := [Value.int .i64 (0), Value.int .i64 (0), Value.int .i64 (0)]) hS108 Z66 rfl rfl ?_)
   intro b103 w107 hS109
   refine Za rfl rfl (Zo (v := Value.int .i64 ((i101 : Int))) rfl rfl (Za rfl rfl (Exec.store_box (ds := [Value.int .i64 (x104.From), Value.int .i64 (x104.Label), Value.int .i64 (x104.To)]) (es := [Value.int .i64 (x104.From), Value.int .i64 (x104.Label), Value.int .i64 (x104.To)]) hS109 A66 rfl rfl rfl rfl (Zj rfl (Zj rfl (Zj rfl one_nil))) (Nat.le_of_ble_eq_true rfl) rfl ?_)))
   intro w108 hS110
   refine Zb (Ze (Zc ?_))
   obtain ⟨z100, ht100, hm101⟩ := Zg hm101
   refine W_mid (M := fun f' w' => (fun (z100 : Bool) => ∃ (s113 : PHeap) , PHeap.le s112 s113 ∧ St w0 s113 (Res.box b100 26 [Value.int .i64 (x173.States), Value.int .i64 (x173.Init), v174, v176, v178] :: H) w' ∧ f' 1 = Value.pointer (some ⟨b100, 0, none⟩) ∧ f' 62 = v176 ∧ f' 63 = Value.int .i64 ((x173.Edges.length : Int)) ∧ f' 64 = Value.int .i64 ((i101 : Int)) ∧ f' 118 = Value.bool (z100)) z100) ?_ ?_
   ·refine W_dl (n0 := 50) (.q 0 (.q 1 (.q 2 (.q 3 (.q 4 (.q 5 (.q 6 (.q 7 (.q 8 (.q 9 (.q 10 (.q 11 (.q 12 (.q 13 (.q 14 (.q 15 (.q 16 (.q 17 (.q 18 (.q 19 (.q 20 (.q 21 (.q 22 (.q 23 (.q 24 (.q 25 (.q 26 (.q 27 (.q 28 (.q 29 (.q 30 (.q 31 (.q 32 (.q 33 (.q 34 (.q 35 (.q 36 (.q 37 (.q 38 (.q 39 (.q 40 (.q 41 (.q 42 (.q 43 (.q 44 (.q 45 (.e 46 [] (.q 47 (.q 48 (.q 49 .done)))))))))))))))))))))))))))))))))))))))))))))))))) hmix (by kernel_rfl) (by kernel_rfl) ?_
    have hS111 := hS110.drew
    refine DL_q rfl rfl (Zp F66_0 rfl rfl rfl ⟨rfl, ?_⟩)
    refine DL_q rfl rfl (Zn (hS111) A3 rfl rfl rfl ⟨rfl, ?_⟩)
    refine DL_q rfl rfl (Zq rfl rfl rfl ⟨rfl, ?_⟩)
    refine DL_q rfl rfl (Zm (v := Value.bool (decide (x104.From < 0))) rfl rfl ⟨rfl, ?_⟩)
    rcases ite_some ht100 with ⟨hc110, ht100⟩ | ⟨hc110, ht100⟩
    ·refine DL_qp rfl rfl (Zf rfl (congrArg Value.bool hc110)) rfl (DL_qp rfl rfl (Zf rfl (congrArg Value.bool hc110)) rfl (DL_qp rfl rfl (Zf rfl (congrArg Value.bool hc110)) rfl (DL_qp rfl rfl (Zf rfl (congrArg Value.bool hc110)) rfl (DL_qp rfl rfl (Zf rfl (congrArg Value.bool hc110)) rfl (DL_q rfl rfl (Zs (v := Value.bool (true)) rfl (congrArg Value.bool hc110) rfl ⟨rfl, ?_⟩))))))
     refine DL_q rfl rfl (Zm (v := Value.bool (true)) rfl rfl ⟨rfl, ?_⟩)
     refine DL_qp rfl rfl (Zf rfl rfl) rfl (DL_qp rfl rfl (Zf rfl rfl) rfl (DL_qp rfl rfl (Zf rfl rfl) rfl (DL_q rfl rfl (Zs (v := Value.bool (true)) rfl rfl rfl ⟨rfl, ?_⟩))))
     refine DL_q rfl rfl (Zm (v := Value.bool (true)) rfl rfl ⟨rfl, ?_⟩)
     refine DL_qp rfl rfl (Zf rfl rfl) rfl (DL_qp rfl rfl (Zf rfl rfl) rfl (DL_qp rfl rfl (Zf rfl rfl) rfl (DL_qp rfl rfl (Zf rfl rfl) rfl (DL_qp rfl rfl (Zf rfl rfl) rfl (DL_q rfl rfl (Zs (v := Value.bool (true)) rfl rfl rfl ⟨rfl, ?_⟩))))))
     refine DL_q rfl rfl (Zm (v := Value.bool (true)) rfl rfl ⟨rfl, ?_⟩)
     refine DL_qp rfl rfl (Zf rfl rfl) rfl (DL_qp rfl rfl (Zf rfl rfl) rfl (DL_qp rfl rfl (Zf rfl rfl) rfl (DL_q rfl rfl (Zs (v := Value.bool (true)) rfl rfl rfl ⟨rfl, ?_⟩))))
     refine DL_q rfl rfl (Zm (v := Value.bool (true)) rfl rfl ⟨rfl, ?_⟩)
     refine DL_qp rfl rfl (Zf rfl rfl) rfl (DL_qp rfl rfl (Zf rfl rfl) rfl (DL_qp rfl rfl (Zf rfl rfl) rfl (DL_qp rfl rfl (Zf rfl rfl) rfl (DL_qp rfl rfl (Zf rfl rfl) rfl (DL_qp rfl rfl (Zf rfl rfl) rfl (DL_q rfl rfl (Zs (v := Value.bool (true)) rfl rfl rfl ⟨rfl, ?_⟩)))))))
     refine DL_q rfl rfl (Zm (v := Value.bool (true)) rfl rfl ⟨rfl, ?_⟩)
     refine DL_qp rfl rfl (Zf rfl rfl) rfl (DL_qp rfl rfl (Zf rfl rfl) rfl (DL_qp rfl rfl (Zf rfl rfl) rfl (DL_qn rfl rfl (Zh rfl rfl) (DL_qn rfl rfl (Zh rfl rfl) (DL_qn rfl rfl (Zh rfl rfl) (DL_qn rfl rfl (Zh rfl rfl) (DL_qn rfl rfl (Zh rfl rfl) ?_)))))))
     refine DL_qn rfl rfl (Zh rfl rfl) (DL_qn rfl rfl (Zh rfl rfl) (DL_en rfl rfl (Zh rfl rfl) (DL_qn rfl rfl (Zh rfl rfl) (DL_qp rfl rfl (Zf rfl rfl) rfl (DL_q rfl rfl (Zs (v := Value.bool (true)) rfl rfl rfl ⟨rfl, ?_⟩))))))
     refine DL_done (Zb (Ze ?_))
     have e104 := Zu ht100
     subst z100
     have hS112 := (hS111).drop
     exact ⟨s112, (Zv _), hS112, p116, p117, p118, x103, rfl⟩
    replace hc110 := Zk hc110
    refine DL_qg rfl rfl (Zf rfl (congrArg Value.bool hc110)) (Zp F66_0 rfl rfl rfl ⟨rfl, ?_⟩)
    refine DL_qg rfl rfl (Zf rfl (congrArg Value.bool hc110)) (Zn (hS111) A3 rfl rfl rfl ⟨rfl, ?_⟩)
    refine DL_qg rfl rfl (Zf rfl (congrArg Value.bool hc110)) (Zp F26_0 rfl p116 rfl ⟨rfl, ?_⟩)
    refine DL_qg rfl rfl (Zf rfl (congrArg Value.bool hc110)) (Zn ((hS111).f1) A3 rfl rfl rfl ⟨rfl, ?_⟩)
    refine DL_qg rfl rfl (Zf rfl (congrArg Value.bool hc110)) (Exec.geq rfl rfl rfl ⟨rfl, ?_⟩)
    refine DL_q rfl rfl (Exec.pick_f (v := Value.bool (decide (x173.States ≤ x104.From))) rfl (congrArg Value.bool hc110) rfl ⟨rfl, ?_⟩)
    refine DL_q rfl rfl (Zm (v := Value.bool (decide (x173.States ≤ x104.From))) rfl rfl ⟨rfl, ?_⟩)
    rcases ite_some ht100 with ⟨hc111, ht100⟩ | ⟨hc111, ht100⟩
    ·refine DL_qp rfl rfl (Zf rfl (congrArg Value.bool hc111)) rfl (DL_qp rfl rfl (Zf rfl (congrArg Value.bool hc111)) rfl (DL_qp rfl rfl (Zf rfl (congrArg Value.bool hc111)) rfl (DL_q rfl rfl (Zs (v := Value.bool (true)) rfl (congrArg Value.bool hc111) rfl ⟨rfl, ?_⟩))))
     refine DL_q rfl rfl (Zm (v := Value.bool (true)) rfl rfl ⟨rfl, ?_⟩)
     refine DL_qp rfl rfl (Zf rfl rfl) rfl (DL_qp rfl rfl (Zf rfl rfl) rfl (DL_qp rfl rfl (Zf rfl rfl) rfl (DL_qp rfl rfl (Zf rfl rfl) rfl (DL_qp rfl rfl (Zf rfl rfl) rfl (DL_q rfl rfl (Zs (v := Value.bool (true)) rfl rfl rfl ⟨rfl, ?_⟩))))))
     refine DL_q rfl rfl (Zm (v := Value.bool (true)) rfl rfl ⟨rfl, ?_⟩)
     refine DL_qp rfl rfl (Zf rfl rfl) rfl (DL_qp rfl rfl (Zf rfl rfl) rfl (DL_qp rfl rfl (Zf rfl rfl) rfl (DL_q rfl rfl (Zs (v := Value.bool (true)) rfl rfl rfl ⟨rfl, ?_⟩))))
     refine DL_q rfl rfl (Zm (v := Value.bool (true)) rfl rfl ⟨rfl, ?_⟩)
     refine DL_qp rfl rfl (Zf rfl rfl) rfl (DL_qp rfl rfl (Zf rfl rfl) rfl (DL_qp rfl rfl (Zf rfl rfl) rfl (DL_qp rfl rfl (Zf rfl rfl) rfl (DL_qp rfl rfl (Zf rfl rfl) rfl (DL_qp rfl rfl (Zf rfl rfl) rfl (DL_q rfl rfl (Zs (v := Value.bool (true)) rfl rfl rfl ⟨rfl, ?_⟩)))))))
     refine DL_q rfl rfl (Zm (v := Value.bool (true)) rfl rfl ⟨rfl, ?_⟩)
     refine DL_qp rfl rfl (Zf rfl rfl) rfl (DL_qp rfl rfl (Zf rfl rfl) rfl (DL_qp rfl rfl (Zf rfl rfl) rfl (DL_qn rfl rfl (Zh rfl rfl) (DL_qn rfl rfl (Zh rfl rfl) (DL_qn rfl rfl (Zh rfl rfl) (DL_qn rfl rfl (Zh rfl rfl) (DL_qn rfl rfl (Zh rfl rfl) ?_)))))))
     refine DL_qn rfl rfl (Zh rfl rfl) (DL_qn rfl rfl (Zh rfl rfl) (DL_en rfl rfl (Zh rfl rfl) (DL_qn rfl rfl (Zh rfl rfl) (DL_qp rfl rfl (Zf rfl rfl) rfl (DL_q rfl rfl (Zs (v := Value.bool (true)) rfl rfl rfl ⟨rfl, ?_⟩))))))
     refine DL_done (Zb (Ze ?_))
     have e105 := Zu ht100
     subst z100
     have hS113 := (hS111).drop
     exact ⟨s112, (Zv _), hS113, p116, p117, p118, x103, rfl⟩
    replace hc111 := Zk hc111
    refine DL_qg rfl rfl (Zf rfl (congrArg Value.bool hc111)) (Zp F66_2 rfl rfl rfl ⟨rfl, ?_⟩)
    refine DL_qg rfl rfl (Zf rfl (congrArg Value.bool hc111)) (Zn (hS111) A3 rfl rfl rfl ⟨rfl, ?_⟩)
    refine DL_qg rfl rfl (Zf rfl (congrArg Value.bool hc111)) (Zq rfl rfl rfl ⟨rfl, ?_⟩)
    refine DL_q rfl rfl (Exec.pick_f (v := Value.bool (decide (x104.To < 0))) rfl (congrArg Value.bool hc111) rfl ⟨rfl, ?_⟩)
    refine DL_q rfl rfl (Zm (v := Value.bool (decide (x104.To < 0))) rfl rfl ⟨rfl, ?_⟩)
    rcases ite_some ht100 with ⟨hc112, ht100⟩ | ⟨hc112, ht100⟩
    ·refine DL_qp rfl rfl (Zf rfl (congrArg Value.bool hc112)) rfl (DL_qp rfl rfl (Zf rfl (congrArg Value.bool hc112)) rfl (DL_qp rfl rfl (Zf rfl (congrArg Value.bool hc112)) rfl (DL_qp rfl rfl (Zf rfl (congrArg Value.bool hc112)) rfl (DL_qp rfl rfl (Zf rfl (congrArg Value.bool hc112)) rfl (DL_q rfl rfl (Zs (v := Value.bool (true)) rfl (congrArg Value.bool hc112) rfl ⟨rfl, ?_⟩))))))
     refine DL_q rfl rfl (Zm (v := Value.bool (true)) rfl rfl ⟨rfl, ?_⟩)
     refine DL_qp rfl rfl (Zf rfl rfl) rfl (DL_qp rfl rfl (Zf rfl rfl) rfl (DL_qp rfl rfl (Zf rfl rfl) rfl (DL_q rfl rfl (Zs (v := Value.bool (true)) rfl rfl rfl ⟨rfl, ?_⟩))))
     refine DL_q rfl rfl (Zm (v := Value.bool (true)) rfl rfl ⟨rfl, ?_⟩)
     refine DL_qp rfl rfl (Zf rfl rfl) rfl (DL_qp rfl rfl (Zf rfl rfl) rfl (DL_qp rfl rfl (Zf rfl rfl) rfl (DL_qp rfl rfl (Zf rfl rfl) rfl (DL_qp rfl rfl (Zf rfl rfl) rfl (DL_qp rfl rfl (Zf rfl rfl) rfl (DL_q rfl rfl (Zs (v := Value.bool (true)) rfl rfl rfl ⟨rfl, ?_⟩)))))))
     refine DL_q rfl rfl (Zm (v := Value.bool (true)) rfl rfl ⟨rfl, ?_⟩)
     refine DL_qp rfl rfl (Zf rfl rfl) rfl (DL_qp rfl rfl (Zf rfl rfl) rfl (DL_qp rfl rfl (Zf rfl rfl) rfl (DL_qn rfl rfl (Zh rfl rfl) (DL_qn rfl rfl (Zh rfl rfl) (DL_qn rfl rfl (Zh rfl rfl) (DL_qn rfl rfl (Zh rfl rfl) (DL_qn rfl rfl (Zh rfl rfl) ?_)))))))
     refine DL_qn rfl rfl (Zh rfl rfl) (DL_qn rfl rfl (Zh rfl rfl) (DL_en rfl rfl (Zh rfl rfl) (DL_qn rfl rfl (Zh rfl rfl) (DL_qp rfl rfl (Zf rfl rfl) rfl (DL_q rfl rfl (Zs (v := Value.bool (true)) rfl rfl rfl ⟨rfl, ?_⟩))))))
     refine DL_done (Zb (Ze ?_))
     have e106 := Zu ht100
     subst z100
     have hS114 := (hS111).drop
     exact ⟨s112, (Zv _), hS114, p116, p117, p118, x103, rfl⟩
    replace hc112 := Zk hc112
    refine DL_qg rfl rfl (Zf rfl (congrArg Value.bool hc112)) (Zp F66_2 rfl rfl rfl ⟨rfl, ?_⟩)
    refine DL_qg rfl rfl (Zf rfl (congrArg Value.bool hc112)) (Zn (hS111) A3 rfl rfl rfl ⟨rfl, ?_⟩)
    refine DL_qg rfl rfl (Zf rfl (congrArg Value.bool hc112)) (Zp F26_0 rfl p116 rfl ⟨rfl, ?_⟩)
    refine DL_qg rfl rfl (Zf rfl (congrArg Value.bool hc112)) (Zn ((hS111).f1) A3 rfl rfl rfl ⟨rfl, ?_⟩)
    refine DL_qg rfl rfl (Zf rfl (congrArg Value.bool hc112)) (Exec.geq rfl rfl rfl ⟨rfl, ?_⟩)
    refine DL_q rfl rfl (Exec.pick_f (v := Value.bool (decide (x173.States ≤ x104.To))) rfl (congrArg Value.bool hc112) rfl ⟨rfl, ?_⟩)
    refine DL_q rfl rfl (Zm (v := Value.bool (decide (x173.States ≤ x104.To))) rfl rfl ⟨rfl, ?_⟩)
    rcases ite_some ht100 with ⟨hc113, ht100⟩ | ⟨hc113, ht100⟩
    ·refine DL_qp rfl rfl (Zf rfl (congrArg Value.bool hc113)) rfl (DL_qp rfl rfl (Zf rfl (congrArg Value.bool hc113)) rfl (DL_qp rfl rfl (Zf rfl (congrArg Value.bool hc113)) rfl (DL_q rfl rfl (Zs (v := Value.bool (true)) rfl (congrArg Value.bool hc113) rfl ⟨rfl, ?_⟩))))
     refine DL_q rfl rfl (Zm (v := Value.bool (true)) rfl rfl ⟨rfl, ?_⟩)
     refine DL_qp rfl rfl (Zf rfl rfl) rfl (DL_qp rfl rfl (Zf rfl rfl) rfl (DL_qp rfl rfl (Zf rfl rfl) rfl (DL_qp rfl rfl (Zf rfl rfl) rfl (DL_qp rfl rfl (Zf rfl rfl) rfl (DL_qp rfl rfl (Zf rfl rfl) rfl (DL_q rfl rfl (Zs (v := Value.bool (true)) rfl rfl rfl ⟨rfl, ?_⟩)))))))
     refine DL_q rfl rfl (Zm (v := Value.bool (true)) rfl rfl ⟨rfl, ?_⟩)
     refine DL_qp rfl rfl (Zf rfl rfl) rfl (DL_qp rfl rfl (Zf rfl rfl) rfl (DL_qp rfl rfl (Zf rfl rfl) rfl (DL_qn rfl rfl (Zh rfl rfl) (DL_qn rfl rfl (Zh rfl rfl) (DL_qn rfl rfl (Zh rfl rfl) (DL_qn rfl rfl (Zh rfl rfl) (DL_qn rfl rfl (Zh rfl rfl) ?_)))))))
     refine DL_qn rfl rfl (Zh rfl rfl) (DL_qn rfl rfl (Zh rfl rfl) (DL_en rfl rfl (Zh rfl rfl) (DL_qn rfl rfl (Zh rfl rfl) (DL_qp rfl rfl (Zf rfl rfl) rfl (DL_q rfl rfl (Zs (v := Value.bool (true)) rfl rfl rfl ⟨rfl, ?_⟩))))))
     refine DL_done (Zb (Ze ?_))
     have e107 := Zu ht100
     subst z100
     have hS115 := (hS111).drop
     exact ⟨s112, (Zv _), hS115, p116, p117, p118, x103, rfl⟩
    replace hc113 := Zk hc113
    refine DL_qg rfl rfl (Zf rfl (congrArg Value.bool hc113)) (Zp F66_1 rfl rfl rfl ⟨rfl, ?_⟩)
    refine DL_qg rfl rfl (Zf rfl (congrArg Value.bool hc113)) (Zn (hS111) A3 rfl rfl rfl ⟨rfl, ?_⟩)
    refine DL_qg rfl rfl (Zf rfl (congrArg Value.bool hc113)) (Zq rfl rfl rfl ⟨rfl, ?_⟩)
    refine DL_q rfl rfl (Exec.pick_f (v := Value.bool (decide (x104.Label < 0))) rfl (congrArg Value.bool hc113) rfl ⟨rfl, ?_⟩)
    refine DL_q rfl rfl (Zm (v := Value.bool (decide (x104.Label < 0))) rfl rfl ⟨rfl, ?_⟩)
    rcases ite_some ht100 with ⟨hc114, ht100⟩ | ⟨hc114, ht100⟩
    ·refine DL_qp rfl rfl (Zf rfl (congrArg Value.bool hc114)) rfl (DL_qp rfl rfl (Zf rfl (congrArg Value.bool hc114)) rfl (DL_qp rfl rfl (Zf rfl (congrArg Value.bool hc114)) rfl (DL_qp rfl rfl (Zf rfl (congrArg Value.bool hc114)) rfl (DL_qp rfl rfl (Zf rfl (congrArg Value.bool hc114)) rfl (DL_qp rfl rfl (Zf rfl (congrArg Value.bool hc114)) rfl (DL_q rfl rfl (Zs (v := Value.bool (true)) rfl (congrArg Value.bool hc114) rfl ⟨rfl, ?_⟩)))))))
     refine DL_q rfl rfl (Zm (v := Value.bool (true)) rfl rfl ⟨rfl, ?_⟩)
     refine DL_qp rfl rfl (Zf rfl rfl) rfl (DL_qp rfl rfl (Zf rfl rfl) rfl (DL_qp rfl rfl (Zf rfl rfl) rfl (DL_qn rfl rfl (Zh rfl rfl) (DL_qn rfl rfl (Zh rfl rfl) (DL_qn rfl rfl (Zh rfl rfl) (DL_qn rfl rfl (Zh rfl rfl) (DL_qn rfl rfl (Zh rfl rfl) ?_)))))))
     refine DL_qn rfl rfl (Zh rfl rfl) (DL_qn rfl rfl (Zh rfl rfl) (DL_en rfl rfl (Zh rfl rfl) (DL_qn rfl rfl (Zh rfl rfl) (DL_qp rfl rfl (Zf rfl rfl) rfl (DL_q rfl rfl (Zs (v := Value.bool (true)) rfl rfl rfl ⟨rfl, ?_⟩))))))
     refine DL_done (Zb (Ze ?_))
     have e108 := Zu ht100
     subst z100
     have hS116 := (hS111).drop
     exact ⟨s112, (Zv _), hS116, p116, p117, p118, x103, rfl⟩
    replace hc114 := Zk hc114
    refine DL_qg rfl rfl (Zf rfl (congrArg Value.bool hc114)) (Zp F66_1 rfl rfl rfl ⟨rfl, ?_⟩)
    refine DL_qg rfl rfl (Zf rfl (congrArg Value.bool hc114)) (Zn (hS111) A3 rfl rfl rfl ⟨rfl, ?_⟩)
    refine DL_qg rfl rfl (Zf rfl (congrArg Value.bool hc114)) (Zp F26_2 rfl p116 rfl ⟨rfl, ?_⟩)
    refine DL_qg rfl rfl (Zf rfl (congrArg Value.bool hc114)) (Zn ((hS111).f1) A22 rfl rfl rfl ⟨rfl, ?_⟩)
    refine DL_qg rfl rfl (Zf rfl (congrArg Value.bool hc114)) (Zr S22 rfl rfl (a175.mono (Zt (Zt l100 l104) l105)) ⟨rfl, ?_⟩)
    refine DL_qg rfl rfl (Zf rfl (congrArg Value.bool hc114)) (Exec.geq rfl rfl rfl ⟨rfl, ?_⟩)
    refine DL_q rfl rfl (Exec.pick_f (v := Value.bool (decide ((x173.Costs.length : Int) ≤ x104.Label))) rfl (congrArg Value.bool hc114) rfl ⟨rfl, ?_⟩)
    refine DL_q rfl rfl (Zm (v := Value.bool (decide ((x173.Costs.length : Int) ≤ x104.Label))) rfl rfl ⟨rfl, ?_⟩)
    rcases ite_some ht100 with ⟨hc115, ht100⟩ | ⟨hc115, ht100⟩
    ·refine DL_qp rfl rfl (Zf rfl (congrArg Value.bool hc115)) rfl (DL_qp rfl rfl (Zf rfl (congrArg Value.bool hc115)) rfl (DL_qp rfl rfl (Zf rfl (congrArg Value.bool hc115)) rfl (DL_qn rfl rfl (Zh rfl rfl) (DL_qn rfl rfl (Zh rfl rfl) (DL_qn rfl rfl (Zh rfl rfl) (DL_qn rfl rfl (Zh rfl rfl) (DL_qn rfl rfl (Zh rfl rfl) ?_)))))))
     refine DL_qn rfl rfl (Zh rfl rfl) (DL_qn rfl rfl (Zh rfl rfl) (DL_en rfl rfl (Zh rfl rfl) (DL_qn rfl rfl (Zh rfl rfl) (DL_qp rfl rfl (Zf rfl (congrArg Value.bool hc115)) rfl (DL_q rfl rfl (Zs (v := Value.bool (true)) rfl (congrArg Value.bool hc115) rfl ⟨rfl, ?_⟩))))))
     refine DL_done (Zb (Ze ?_))
     have e109 := Zu ht100
     subst z100
     have hS117 := (hS111).drop
     exact ⟨s112, (Zv _), hS117, p116, p117, p118, x103, rfl⟩
    replace hc115 := Zk hc115
    refine DL_qg rfl rfl (Zf rfl (congrArg Value.bool hc115)) (Zm (v := Value.int .i64 ((i101 : Int))) rfl rfl ⟨rfl, ?_⟩)
    refine DL_qg rfl rfl (Zf rfl (congrArg Value.bool hc115)) (Exec.gtr rfl rfl rfl ⟨rfl, ?_⟩)
    refine DL_qg rfl rfl (Zf rfl (congrArg Value.bool hc115)) (Zm (v := Value.bool (decide (0 < (i101 : Int)))) rfl rfl ⟨rfl, ?_⟩)
    rcases ite_some ht100 with ⟨hc116, ht100⟩ | ⟨hc116, ht100⟩
    ·refine DL_qg rfl rfl (Zf rfl (congrArg Value.bool hc116)) (Zp F26_3 rfl p116 rfl ⟨rfl, ?_⟩)
     refine DL_qg rfl rfl (Zf rfl (congrArg Value.bool hc116)) (Zn ((hS111).f1) A23 rfl rfl rfl ⟨rfl, ?_⟩)
     refine DL_qg rfl rfl (Zf rfl (congrArg Value.bool hc116)) (Zm (v := Value.int .i64 ((i101 : Int))) rfl rfl ⟨rfl, ?_⟩)
     refine DL_qg rfl rfl (Zf rfl (congrArg Value.bool hc116)) (Exec.sub rfl rfl rfl ⟨rfl, ?_⟩)
     obtain ⟨x105, q104, ht100⟩ := Zg ht100
     refine DL_qg rfl rfl (Zf rfl (congrArg Value.bool hc116)) (Exec.index_repE S23 rfl rfl rfl (a177.mono (Zt (Zt l100 l104) l105)) q104 ?_)
     intro b104 o102 a102 e110
     refine ⟨rfl, ?_⟩
     refine DL_qg rfl rfl (Zf rfl (congrArg Value.bool hc116)) (Zw (E := encEdge) hS111 A66 rfl rfl rfl a102 ?_)
     intro v102 q105
     obtain rfl := encEdge_val.1 q105
     refine ⟨rfl, ?_⟩
     refine DL_qg rfl rfl (Zf rfl (congrArg Value.bool hc116)) (Exec.load_box_agg (ds := [Value.int .i64 (x104.From), Value.int .i64 (x104.Label), Value.int .i64 (x104.To)]) (hS111) A66 rfl rfl rfl ⟨rfl, ?_⟩)
     obtain ⟨y101, q106, ht100⟩ := Zg ht100
     refine DL_eg rfl rfl (Zf rfl (congrArg Value.bool hc116)) (Exec.call rfl rfl Try.func39 rfl N39 (Zi rfl (Zi rfl args_nil)) ((transys_compare_sim q106 hS111 ).mono ?_))
     rintro _ w109 ⟨_, rfl, ⟨s114, l106, hS118, rfl⟩⟩
     refine ⟨_, rfl, ?_⟩
     refine ⟨ag_nil, ?_⟩
     refine DL_qg rfl rfl (Zf rfl (congrArg Value.bool hc116)) (Exec.geq rfl rfl rfl ⟨rfl, ?_⟩)
     refine DL_qg rfl rfl (Zf rfl (congrArg Value.bool hc115)) (Zs (v := Value.bool (decide (0 ≤ y101))) rfl (congrArg Value.bool hc116) rfl ⟨rfl, ?_⟩)
     refine DL_q rfl rfl (Exec.pick_f (v := Value.bool (decide (0 ≤ y101))) rfl (congrArg Value.bool hc115) rfl ⟨rfl, ?_⟩)
     refine DL_done (Zb (Ze ?_))
     have e111 := Zu ht100
     subst z100
     have hS119 := (hS118).drop
     exact ⟨s114, l106, hS119, p116, p117, p118, x103, rfl⟩
    replace hc116 := Zk hc116
    refine DL_qp rfl rfl (Zf rfl (congrArg Value.bool hc116)) rfl (DL_qp rfl rfl (Zf rfl (congrArg Value.bool hc116)) rfl (DL_qp rfl rfl (Zf rfl (congrArg Value.bool hc116)) rfl (DL_qp rfl rfl (Zf rfl (congrArg Value.bool hc116)) rfl (DL_qp rfl rfl (Zf rfl (congrArg Value.bool hc116)) rfl (DL_qp rfl rfl (Zf rfl (congrArg Value.bool hc116)) rfl (DL_qp rfl rfl (Zf rfl (congrArg Value.bool hc116)) rfl (DL_ep rfl rfl (Zf rfl (congrArg Value.bool hc116)) rfl ?_)))))))
    refine DL_qp rfl rfl (Zf rfl (congrArg Value.bool hc116)) rfl (DL_qg rfl rfl (Zf rfl (congrArg Value.bool hc115)) (Exec.pick_f (v := Value.bool (false)) rfl (congrArg Value.bool hc116) rfl ⟨rfl, ?_⟩))
    refine DL_q rfl rfl (Exec.pick_f (v := Value.bool (false)) rfl (congrArg Value.bool hc115) rfl ⟨rfl, ?_⟩)
    refine DL_done (Zb (Ze ?_))
    have e112 := Zu ht100
    subst z100
    have hS120 := (hS111).drop
    exact ⟨s112, (Zv _), hS120, p116, p117, p118, x103, rfl⟩
   intro f106 w110 hM103
   obtain ⟨s115, l107, hS121, p119, p120, p121, p122, p123⟩ := hM103
   refine (Ze ?_)
   rcases ite_some hm101 with ⟨hc117, hm101⟩ | ⟨hc117, hm101⟩
   ·refine W_cond_t p123 hc117 (Zc (Zd (Za rfl rfl (Zo (v := Value.bool (false)) rfl rfl (Zb (Ze (W_ret (ib_ret (at_ret (at_ret (ib_ret (at_ret (at_ret ?_)))))))))))))
    have e113 := Zu hm101
    subst c103
    have hq101 := hr101 _ (hres102 (by intro _ h; cases h))
    have e114 := Zu hq101
    subst r
    refine ⟨_, ret1 rfl, ?_⟩
    have hS122 := (hS121).drop
    exact ⟨s115, (Zt (Zt (Zt l100 l104) l105) l107), hS122, rfl⟩
   refine W_cond_f p123 hc117 ?_
   replace hc117 := Zk hc117
   refine W_skip (ib_normal (Ze (Zd (Za rfl rfl (Exec.add rfl p122 rfl (Za rfl rfl (Zm (v := Value.int .i64 (IntKind.i64.wrap ((i101 : Int) + 1))) rfl rfl (Zb (Ze ?_)))))))))
   have e115 := Zu hm101
   subst c103
   refine ⟨_, rfl, ?_⟩; exact ⟨s115, (Zt l105 l107), hS121, p119, p120, p121, (Eq.trans rfl (wrap_up hi101 (SliceRep.le (a177.mono (Zt l100 l104)))))⟩
  intro t104 f107 w111 hI103 hres103
  obtain ⟨s116, l108, hS123, p124, p125, p126, x106⟩ := hI103
  refine Zc (Zd (Za rfl rfl (Zq rfl x106 p126 (Zb (Ze (Zc (W_false (congrArg Value.bool (decide_eq_false (by omega))) (W_exit (at_exit (at_exit (ib_here (Ze ?_))))))))))))
  refine ⟨_, .inl hres103, ?_⟩; exact ⟨s116, l108, hS123, p124, p125, p126⟩
 rintro f108 w112 ⟨t105, hc118, hM104⟩
 have hm := hc118.elim (hn101 _) (hb101 _)
 clear hc118
 obtain ⟨s117, l109, hS124, p127, p128, p129⟩ := hM104
 refine (Ze (Zc (Zd (Za rfl rfl (Zo (v := Value.bool (true)) rfl rfl (Zb (Ze (W_ret ?_))))))))
 have e116 := Zu hm
 subst r
 refine ⟨_, ret1 rfl, ?_⟩
 have hS125 := (hS124).drop
 exact ⟨s117, (Zt (Zt l100 l104) l109), hS125, rfl⟩
theorem N35 : (Try.f35.name == "runtime.NumGoroutine") = false := by kernel_rfl
theorem slices_Equal___int_int__sim {w0 w : World} {s : PHeap} {H : List Res} {s100 : (List Int)} {s101 : (List Int)} {v100 : Value} {v101 : Value} {r : Bool} (hm : slices_Equal___int_int__p s100 s101 = some r) (hS : St w0 s (H) w) (a100 : SliceRep (encInt .i64) s v100 s100) (a101 : SliceRep (encInt .i64) s v101 s101) :
  Calls Try.prog 35 #[v100, v101] w fun e w' => ∃ v, e = .returned v ∧ ((fun (y100 : Bool) => ∃ (s102 : PHeap) , PHeap.le s s102 ∧ St w0 s102 (H) w' ∧ v = Value.bool (y100)) r) := by
 unfold slices_Equal___int_int__p at hm
 refine calls_of_W Try.func35 rfl rfl (Zc (Zd (Za rfl rfl (Zo (v := Value.bool (false)) rfl rfl (Zb (Ze (Zc (Zc (Zd ?_)))))))))
 refine Za rfl rfl (Zm (v := v100) rfl rfl (Za rfl rfl (Zr S22 rfl rfl a100 (Za rfl rfl (Zm (v := v101) rfl rfl (Za rfl rfl (Zr S22 rfl rfl a101 (Za rfl rfl (Exec.neq rfl rfl rfl (Zb (Ze ?_)))))))))))
 rcases ite_some hm with ⟨hc100, hm⟩ | ⟨hc100, hm⟩
 ·refine W_cond_t rfl hc100 (Zc (Zd (Za rfl rfl (Zo (v := Value.bool (false)) rfl rfl (Zb (Ze (W_ret (at_ret ?_))))))))
  have e100 := Zu hm
  subst r
  refine ⟨_, ret1 rfl, ?_⟩
  exact ⟨s, (Zv _), hS, rfl⟩
 refine W_cond_f rfl hc100 ?_
 replace hc100 := Zk hc100
 refine W_skip (Ze (Zc (Zc (Zd (Za rfl rfl (Zm (v := v100) rfl rfl (Za rfl rfl (Zr S22 rfl rfl a100 (Za rfl rfl (Zm (v := Value.int .i64 (0)) rfl rfl (Zb (Ze ?_))))))))))))
 obtain ⟨c100, hB100, hr100, hn100, hb100⟩ := ctl_some hm
 refine W_mid (M := fun f' w' => ∃ s', (c100 = .next s' ∨ c100 = .brk s') ∧ (fun (_ : Unit) => ∃ (s103 : PHeap) , PHeap.le s s103 ∧ St w0 s103 (H) w' ∧ f' 0 = v100 ∧ f' 1 = v101 ∧ f' 12 = Value.int .i64 ((s100.length : Int))) s') ?_ ?_
 ·refine W_block (W_forC (fun k' s' f' w' => (fun (_ : Unit) => ∃ (s104 : PHeap) , PHeap.le s s104 ∧ St w0 s104 (H) w' ∧ f' 0 = v100 ∧ f' 1 = v101 ∧ f' 12 = Value.int .i64 ((s100.length : Int)) ∧ f' 13 = Value.int .i64 (k' : Int)) s') hB100 ?_ ?_ ?_)
  ·exact ⟨s, (Zv _), hS, rfl, rfl, rfl, rfl⟩
  ·intro i100 t100 c101 f100 w100 hi100 hI100 hm100 hres100
   obtain ⟨s105, l100, hS100, p100, p101, p102, x100⟩ := hI100
   refine Zc (Zd (Za rfl rfl (Zq rfl x100 p102 (Zb (Ze (Zc (W_true (congrArg Value.bool (decide_eq_true (by omega))) (W_skip (Ze (Zc ?_))))))))))
   refine W_block (Zc (Zd (Za rfl rfl (Zm (v := Value.int .i64 ((i100 : Int))) rfl x100 (Za rfl rfl (Zo (v := Value.int .i64 ((i100 : Int))) rfl rfl (Zb (Ze (Zc (W_dl (n0 := 9) (.q 0 (.q 1 (.q 2 (.q 3 (.q 4 (.q 5 (.q 6 (.q 7 (.q 8 .done))))))))) hmix (by kernel_rfl) (by kernel_rfl) ?_))))))))))
   have hS101 := hS100.drew
   refine DL_q rfl rfl (Zm (v := v100) rfl p100 ⟨rfl, ?_⟩)
   refine DL_q rfl rfl (Zm (v := Value.int .i64 ((i100 : Int))) rfl rfl ⟨rfl, ?_⟩)
   obtain ⟨x101, q100, hm100⟩ := Zg hm100
   refine DL_q rfl rfl (Exec.index_repE S22 rfl rfl rfl (a100.mono l100) q100 ?_)
   intro b100 o100 a102 e101
   refine ⟨rfl, ?_⟩
   refine DL_q rfl rfl (Zw (E := (encInt .i64)) hS101 A3 rfl rfl rfl a102 ?_)
   intro v102 q101
   obtain rfl := encInt_val.1 q101
   refine ⟨rfl, ?_⟩
   refine DL_q rfl rfl (Zm (v := v101) rfl p101 ⟨rfl, ?_⟩)
   refine DL_q rfl rfl (Zm (v := Value.int .i64 ((i100 : Int))) rfl rfl ⟨rfl, ?_⟩)
   obtain ⟨x102, q102, hm100⟩ := Zg hm100
   refine DL_q rfl rfl (Exec.index_repE S22 rfl rfl rfl (a101.mono l100) q102 ?_)
   intro b101 o101 a103 e102
   refine ⟨rfl, ?_⟩
   refine DL_q rfl rfl (Zw (E := (encInt .i64)) hS101 A3 rfl rfl rfl a103 ?_)
   intro v103 q103
   obtain rfl := encInt_val.1 q103
   refine ⟨rfl, ?_⟩
   refine DL_q rfl rfl (Exec.neq rfl rfl rfl ⟨rfl, ?_⟩)
   refine DL_done (Zb (Ze ?_))
   rcases ite_some hm100 with ⟨hc101, hm100⟩ | ⟨hc101, hm100⟩
   ·refine W_cond_t rfl hc101 (Zc (Zd (Za rfl rfl (Zo (v := Value.bool (false)) rfl rfl (Zb (Ze (W_ret (ib_ret (at_ret (at_ret (ib_ret (at_ret (at_ret ?_)))))))))))))
    have e103 := Zu hm100
    subst c101
    have hq100 := hr100 _ (hres100 (by intro _ h; cases h))
    have e104 := Zu hq100
    subst r
    refine ⟨_, ret1 rfl, ?_⟩
    exact ⟨s105, l100, hS101, rfl⟩
   refine W_cond_f rfl hc101 ?_
   replace hc101 := Zk hc101
   refine W_skip (ib_normal (Ze (Zd (Za rfl rfl (Exec.add rfl x100 rfl (Za rfl rfl (Zm (v := Value.int .i64 (IntKind.i64.wrap ((i100 : Int) + 1))) rfl rfl (Zb (Ze ?_)))))))))
   have e105 := Zu hm100
   subst c101
   refine ⟨_, rfl, ?_⟩; exact ⟨s105, l100, hS101, p100, p101, p102, (Eq.trans rfl (wrap_up hi100 (SliceRep.le a100)))⟩
  intro t101 f101 w101 hI101 hres101
  obtain ⟨s106, l101, hS102, p103, p104, p105, x103⟩ := hI101
  refine Zc (Zd (Za rfl rfl (Zq rfl x103 p105 (Zb (Ze (Zc (W_false (congrArg Value.bool (decide_eq_false (by omega))) (W_exit (at_exit (at_exit (ib_here (Ze ?_))))))))))))
  refine ⟨_, .inl hres101, ?_⟩; exact ⟨s106, l101, hS102, p103, p104, p105⟩
 rintro f102 w102 ⟨t102, hc102, hM100⟩
 have hm := hc102.elim (hn100 _) (hb100 _)
 clear hc102
 obtain ⟨s107, l102, hS103, p106, p107, p108⟩ := hM100
 refine (Ze (Zc (Zd (Za rfl rfl (Zo (v := Value.bool (true)) rfl rfl (Zb (Ze (W_ret ?_))))))))
 have e106 := Zu hm
 subst r
 refine ⟨_, ret1 rfl, ?_⟩
 exact ⟨s107, l102, hS103, rfl⟩
theorem C39 : Try.prog.concrete 39 = true := by kernel_rfl
theorem Z3 : tyZero Try.prog 3 = some (Value.int .i64 (0)) := by kernel_rfl
theorem N36 : (Try.f36.name == "runtime.NumGoroutine") = false := by kernel_rfl
theorem slices_Clone___int_int__sim {w0 w : World} {s : PHeap} {H : List Res} {s_100 : (List Int)} {v100 : Value} {r : (List Int)} (hm : slices_Clone___int_int__p s_100 = some r) (hS : St w0 s (H) w) (a100 : SliceRep (encInt .i64) s v100 s_100) :
  Calls Try.prog 36 #[v100] w fun e w' => ∃ v, e = .returned v ∧ ((fun (y100 : (List Int)) => ∃ (s100 : PHeap) (v101 : Value), PHeap.le s s100 ∧ St w0 s100 (Res.arr (encInt .i64) 3 v101 y100 :: H) w' ∧ v = v101) r) := by
 unfold slices_Clone___int_int__p at hm
 refine calls_of_W Try.func36 rfl rfl (Zc (Zd (Za rfl rfl (Zo (v := Value.slice none 0 0) rfl rfl (Zb (Ze (Zc (Zc (Zd ?_)))))))))
 refine Za rfl rfl (Zm (v := v100) rfl rfl ?_)
 obtain ⟨a101, n100, c100, e100, hn100⟩ := (a100).nilShape
 refine Za rfl rfl (Exec.slice_eql_nil Try.underlying22 rfl e100 rfl (Zb (Ze ?_)))
 by_cases hc100 : a101.isNone = true
 ·have hq100 := hn100 hc100
  replace hm := (show (some []) = ((app 8 [] s_100).bind fun l100 => some l100) from by simp [hq100, app]).trans hm
  refine W_true ((congrArg Value.bool hc100)) (Zc (Zd (Za rfl rfl (Zo (v := Value.slice none 0 0) rfl rfl (Zb (Ze (W_ret (at_ret ?_))))))))
  have e101 := Zu hm
  subst r
  refine ⟨_, ret1 rfl, ?_⟩
  have hS100 := hS.nilArr (encInt .i64) 3
  exact ⟨s, (Value.slice none 0 0), (Zv _), hS100, rfl⟩
 replace hc100 := Zk hc100
 refine W_false ((congrArg Value.bool hc100)) (W_skip (Ze (Zc (Zd (Za rfl rfl (Exec.buildSlice (Te := 3) (cs := []) hS rfl parts_nil (fun _ => by kernel_rfl) ?_))))))
 intro b100 w100 hS101
 refine Za rfl rfl (Zm (v := v100) rfl rfl ?_)
 have hS102 := St.boxArr (E := (encInt .i64)) (xs := []) hS101 rfl (by simp [maxLen])
 obtain ⟨l100, q100, hm⟩ := Zg hm
 refine Za rfl rfl (Exec.append_rep (E := (encInt .i64)) (ys := s_100) hS102 S22 Z3 rfl (by decide) rfl rfl rfl a100 q100 ?_)
 intro v102 w101 hS103
 refine Za rfl rfl (Zo (v := v102) rfl rfl (Zb (Ze (W_ret ?_))))
 have e102 := Zu hm
 subst r
 refine ⟨_, ret1 rfl, ?_⟩
 exact ⟨s, v102, (Zv _), hS103, rfl⟩
theorem A4 : tyAgg Try.prog 4 = some (false, 1) := by kernel_rfl
theorem Z4 : tyZero Try.prog 4 = some (Value.bool false) := by kernel_rfl
theorem S63 : tySlice Try.prog 63 = some (23, 1, 24) := by kernel_rfl
theorem Z23 : tyZero Try.prog 23 = some (Value.slice none 0 0) := by kernel_rfl
theorem N37 : (Try.f37.name == "runtime.NumGoroutine") = false := by kernel_rfl
theorem transys_labelled_sim {w0 w : World} {s : PHeap} {H : List Res} {x100 : System} {v100 : Value} {v101 : Value} {v102 : Value} {r : (List (List Edge))} (hm : transys_labelled_p x100 = some r) (hS : St w0 s (H) w) (a100 : SliceRep (encInt .i64) s v100 x100.Costs) (a101 : SliceRep encEdge s v101 x100.Edges) (a102 : SliceRep encBool s v102 x100.Goals) :
  Calls Try.prog 37 #[Value.agg #[Value.int .i64 (x100.States), Value.int .i64 (x100.Init), v100, v101, v102]] w fun e w' => ∃ v, e = .returned v ∧ ((fun (y100 : (List (List Edge))) => ∃ (s100 : PHeap) (v103 : Value), PHeap.le s s100 ∧ St w0 s100 (H) w' ∧ v = v103 ∧ SliceRep (encSlice encEdge) s100 v103 y100) r) := by
 unfold transys_labelled_p at hm
 refine calls_of_W Try.func37 rfl rfl (Zc (Zd (Za rfl rfl (Exec.box (cs := [Value.int .i64 (x100.States), Value.int .i64 (x100.Init), v100, v101, v102]) hS rfl rfl rfl ?_))))
 intro b100 w100 hS100
 refine Za rfl rfl (Zo (v := Value.slice none 0 0) rfl rfl (Zb (Ze (Zc (Zd (Za rfl rfl (Zp F26_2 rfl rfl rfl (Za rfl rfl (Zn (hS100) A22 rfl rfl rfl (Za rfl rfl (Zr S22 rfl rfl a100 ?_)))))))))))
 obtain ⟨l100, q100, hm⟩ := Zg hm
 refine Za rfl rfl (Exec.make_grid (F := encEdge) (T2 := 66) hS100 S63 Z23 rfl rfl rfl q100 ?_)
 intro v104 hs100 w101 hS101
 refine Za rfl rfl (Zo (v := v104) rfl rfl (Zb (Ze (Zc (Zc (Zd (Za rfl rfl (Zp F26_3 rfl rfl rfl (Za rfl rfl (Zn ((hS101).f2) A23 rfl rfl rfl (Za rfl rfl (Zr S23 rfl rfl a101 ?_))))))))))))
 refine Za rfl rfl (Zm (v := Value.int .i64 (0)) rfl rfl (Zb (Ze ?_)))
 obtain ⟨l101, hB100, hm⟩ := Zg hm
 refine W_block (W_forS (fun k' s' f' w' => (fun (l101 : (List (List Edge))) => ∃ (s101 : PHeap) (hs101 : List Value), PHeap.le s s101 ∧ St w0 s101 (Res.arr encRaw 23 v104 hs101 :: Res.rows encEdge 66 hs101 l101 :: H) w' ∧ f' 3 = v104 ∧ f' 11 = v101 ∧ f' 12 = Value.int .i64 ((x100.Edges.length : Int)) ∧ f' 13 = Value.int .i64 (k' : Int)) s') hB100 ?_ ?_ ?_)
 ·have hS102 := ((hS101).f2).drop
  exact ⟨s, hs100, (Zv _), hS102, rfl, rfl, rfl, rfl⟩
 ·intro i100 l101 s102 f100 w102 hi100 hI100 hm100
  obtain ⟨s103, hs101, l102, hS103, p100, p101, p102, x101⟩ := hI100
  refine Zc (Zd (Za rfl rfl (Zq rfl x101 p102 (Zb (Ze (Zc (W_true (congrArg Value.bool (decide_eq_true (by omega))) (W_skip (Ze (Zc ?_))))))))))
  refine W_block (Zc (Zd ?_))
  obtain ⟨x102, q101, hm100⟩ := Zg hm100
  refine Za rfl rfl (Exec.index_rep S23 rfl p101 x101 (a101.mono l102) q101 ?_)
  intro b101 o100 a103
  refine Za rfl rfl (Zw (E := encEdge) hS103 A66 rfl rfl rfl a103 ?_)
  intro v105 q102
  obtain rfl := encEdge_val.1 q102
  refine Za rfl rfl (Exec.alloc (cs := [Value.int .i64 (0), Value.int .i64 (0), Value.int .i64 (0)]) hS103 Z66 rfl rfl ?_)
  intro b102 w103 hS104
  refine Za rfl rfl (Exec.store_box (ds := [Value.int .i64 (x102.From), Value.int .i64 (x102.Label), Value.int .i64 (x102.To)]) (es := [Value.int .i64 (x102.From), Value.int .i64 (x102.Label), Value.int .i64 (x102.To)]) hS104 A66 rfl rfl rfl rfl (Zj rfl (Zj rfl (Zj rfl one_nil))) (Nat.le_of_ble_eq_true rfl) rfl ?_)
  intro w104 hS105
  refine Zb (Ze (W_dl (n0 := 11) (.q 0 (.q 1 (.q 2 (.q 3 (.q 4 (.q 5 (.q 6 (.q 7 (.q 8 (.e 9 [0, 1, 2, 3, 4, 5, 6, 7] (.e 10 [0, 1, 2] .done))))))))))) hmix (by kernel_rfl) (by kernel_rfl) ?_))
  have hS106 := hS105.drew
  refine DL_q rfl rfl (Zm (v := v104) rfl p100 ⟨rfl, ?_⟩)
  refine DL_q rfl rfl (Zp F66_1 rfl rfl rfl ⟨rfl, ?_⟩)
  refine DL_q rfl rfl (Zn (hS106) A3 rfl rfl rfl ⟨rfl, ?_⟩)
  refine DL_q rfl rfl (Zm (v := v104) rfl p100 ⟨rfl, ?_⟩)
  refine DL_q rfl rfl (Zp F66_1 rfl rfl rfl ⟨rfl, ?_⟩)
  refine DL_q rfl rfl (Zn (hS106) A3 rfl rfl rfl ⟨rfl, ?_⟩)
  obtain ⟨row100, q103, hm100⟩ := Zg hm100
  obtain ⟨h100, e100, e101, _⟩ := ((((hS106).f2).f2).f1).rows_at q103
  obtain ⟨g100, c100, e102⟩ := (((hS106).f2).f2).arr_at e100
  refine DL_q rfl rfl (Exec.index_slice S63 rfl e102 rfl (idx_some e100).1 (idx_some e100).2.1 ⟨rfl, ?_⟩)
  refine DL_q rfl rfl (Exec.load_arr (F := encRaw) (((hS106).f2).f2) e102 A23 rfl rfl rfl e100 (Sub.refl _) ?_)
  intro v106 q104
  replace q104 := (encRaw_val.1 q104).1
  subst v106
  refine ⟨rfl, ?_⟩
  refine DL_q rfl rfl (Exec.load_box_agg (ds := [Value.int .i64 (x102.From), Value.int .i64 (x102.Label), Value.int .i64 (x102.To)]) (hS106) A66 rfl rfl rfl ⟨rfl, ?_⟩)
  refine DL_e rfl rfl (Exec.buildSlice (Te := 66) (cs := [Value.int .i64 (x102.From), Value.int .i64 (x102.Label), Value.int .i64 (x102.To)]) hS106 rfl (parts_cons (c := [Value.int .i64 (x102.From), Value.int .i64 (x102.Label), Value.int .i64 (x102.To)]) (cells_of rfl rfl) parts_nil) (fun _ => by kernel_rfl) ?_)
  intro b103 w105 hS107
  refine ⟨(ag_cons (ag_r rfl rfl (Zm (v := v104) rfl p100 ⟨rfl, rfl⟩)) (ag_cons (ag_r rfl rfl (Zp F66_1 rfl rfl rfl ⟨rfl, rfl⟩)) (ag_cons (ag_r rfl rfl (Zn ((hS107).f1) A3 rfl rfl rfl ⟨rfl, rfl⟩)) (ag_cons (ag_r rfl rfl (Zm (v := v104) rfl p100 ⟨rfl, rfl⟩)) (ag_cons (ag_r rfl rfl (Zp F66_1 rfl rfl rfl ⟨rfl, rfl⟩)) (ag_cons (ag_r rfl rfl (Zn ((hS107).f1) A3 rfl rfl rfl ⟨rfl, rfl⟩)) (ag_cons (ag_r rfl rfl (Exec.index_slice S63 rfl e102 rfl (idx_some e100).1 (idx_some e100).2.1 ⟨rfl, rfl⟩)) (ag_cons (ag_r rfl rfl (Exec.load_arr (F := encRaw) (((hS107).f3).f3) e102 A23 rfl rfl rfl e100 (Sub.refl _) (fun _ q => ⟨rfl, (encRaw_val.1 q).1⟩))) ag_nil)))))))), ?_⟩
  have hS108 := ((((hS107).f3).f3).f1).rows_split e101 (idx_some q103).2.2
  obtain ⟨l103, q105, hm100⟩ := Zg hm100
  have hS109 := (hS108).f3
  have hS110 := (hS109).f1
  refine DL_e rfl rfl (Exec.append_box (E := encEdge) (ys := [x102]) hS110 S23 Z66 rfl (by decide) rfl rfl rfl rfl ⟨[Value.int .i64 (x102.From), Value.int .i64 (x102.Label), Value.int .i64 (x102.To)], [], rfl, ⟨[Value.int .i64 (x102.From)], [Value.int .i64 (x102.Label), Value.int .i64 (x102.To)], rfl, rfl, ⟨[Value.int .i64 (x102.Label)], [Value.int .i64 (x102.To)], rfl, rfl, rfl⟩⟩, rfl⟩ rfl q105 ?_)
  intro v107 w106 hS111
  refine ⟨(ag_cons (ag_r rfl rfl (Zm (v := v104) rfl p100 ⟨rfl, rfl⟩)) (ag_cons (ag_r rfl rfl (Zp F66_1 rfl rfl rfl ⟨rfl, rfl⟩)) (ag_cons (ag_r rfl rfl (Zn ((hS111).f3) A3 rfl rfl rfl ⟨rfl, rfl⟩)) ag_nil))), ?_⟩
  refine DL_done (Za rfl rfl (Exec.index_slice S63 rfl e102 rfl (idx_some e100).1 (idx_some e100).2.1 ?_))
  obtain ⟨l104, q106, hm100⟩ := Zg hm100
  have hS112 := ((hS111).f2).f2
  have hS113 := (hS112).f2
  refine Za rfl rfl (Exec.store_row hS113 e101 e102 A23 rfl rfl rfl rfl q106 ?_)
  intro hs102 w107 hS114
  refine Zb (ib_normal (Ze (Zd (Za rfl rfl (Exec.add rfl x101 rfl (Za rfl rfl (Zm (v := Value.int .i64 (IntKind.i64.wrap ((i100 : Int) + 1))) rfl rfl (Zb (Ze ?_)))))))))
  have e103 := Zu hm100
  subst s102
  have hS115 := ((hS114).f2).drop
  exact ⟨s103, hs102, l102, hS115, p100, p101, p102, (Eq.trans rfl (wrap_up hi100 (SliceRep.le a101)))⟩
 intro f101 w108 hI101
 obtain ⟨s104, hs101, l105, hS116, p103, p104, p105, x103⟩ := hI101
 refine Zc (Zd (Za rfl rfl (Zq rfl x103 p105 (Zb (Ze (Zc (W_false (congrArg Value.bool (decide_eq_false (by omega))) (W_exit (at_exit (at_exit (ib_here (Ze (Zc ?_)))))))))))))
 refine Zd (Za rfl rfl (Zm (v := v104) rfl p103 (Za rfl rfl (Zo (v := v104) rfl rfl (Zb (Ze (W_ret ?_)))))))
 have e104 := Zu hm
 subst r
 refine ⟨_, ret1 rfl, ?_⟩
 obtain ⟨s105, l106, hS117, r100⟩ := hS116.freezeGrid
 exact ⟨s105, v104, (Zt l105 l106), hS117, rfl, r100⟩
theorem N38 : (Try.f38.name == "runtime.NumGoroutine") = false := by kernel_rfl
end Go.Pw
