/-
  The walks (printed by my generator).
-/
import Derived.Test.YtdhfofhginfdnaaAtP
import Derived.Test.YtdhfofhginfdnaaL8
import Derived.Test.YtdhfofhginfdnaaL9
import Derived.Test.YtdhfofhginfdnaaL12
import Derived.Test.YtdhfofhginfdnaaL11
import Derived.Test.YtdhfofhginfdnaaLB
import Derived.Test.YtdhfofhginfdnaaL23
import Derived.Test.YtdhfofhginfdnaaProg
import Derived.KernelRfl
set_option maxRecDepth 100000
set_option maxHeartbeats 4000000
set_option linter.unusedVariables false
namespace Go.Pw
open Go.Proofs
theorem Z26 : tyZero Try.prog 26 = some (Value.agg #[Value.int .i64 (0), Value.int .i64 (0), Value.slice none 0 0, Value.slice none 0 0, Value.slice none 0 0]) := by kernel_rfl

theorem A26 : tyAgg Try.prog 26 = some (true, 5) := by kernel_rfl

theorem N26 : (Try.f26.name == "runtime.NumGoroutine") = false := by kernel_rfl

theorem law44_example_sim {w0 w : World} {s : PHeap} {H : List Res}   {r : System} (hm : law44_example_p  = some r) (hS : St w0 s (H) w)  :
  Calls Try.prog 26 #[] w fun e w' => ∃ v, e = .returned v ∧ ((fun (y48 : System) => ∃ (s70 : PHeap) (v67 : Value) (v68 : Value) (v69 : Value), PHeap.le s s70 ∧ St w0 s70 (H) w' ∧ v = Value.agg #[Value.int .i64 (y48.States), Value.int .i64 (y48.Init), v67, v68, v69] ∧ SliceRep (encInt .i64) s70 v67 y48.Costs ∧ SliceRep encEdge s70 v68 y48.Edges ∧ SliceRep encBool s70 v69 y48.Goals) r) := by
 unfold law44_example_p at hm
 refine calls_of_W Try.func26 rfl rfl ?_
 refine Zc ?_
 refine Zd ?_
 refine Za rfl rfl (Exec.alloc (cs := [Value.int .i64 (0), Value.int .i64 (0), Value.slice none 0 0, Value.slice none 0 0, Value.slice none 0 0]) hS Z26 rfl rfl ?_)
 intro b74 w75 hS76
 refine Zb (Ze ?_)
 refine Zc ?_
 refine Zd ?_
 refine Za rfl rfl (Exec.buildSlice (Te := 3) (cs := [Value.int .i64 (2), Value.int .i64 (0)]) hS76 rfl (parts_cons (c := [Value.int .i64 (2)]) (cells_of rfl rfl) (parts_cons (c := [Value.int .i64 (0)]) (cells_of rfl rfl) parts_nil)) (fun _ => by kernel_rfl) ?_)
 intro b89 w90 hS91
 refine Za rfl rfl (Exec.build rfl (parts_cons (c := [Value.int .i64 (0)]) (cells_of rfl rfl) (parts_cons (c := [Value.int .i64 (0)]) (cells_of rfl rfl) (parts_cons (c := [Value.int .i64 (1)]) (cells_of rfl rfl) parts_nil))) (v := Value.agg #[Value.int .i64 (0), Value.int .i64 (0), Value.int .i64 (1)]) (fun _ => by kernel_rfl) ?_)
 refine Za rfl rfl (Exec.build rfl (parts_cons (c := [Value.int .i64 (1)]) (cells_of rfl rfl) (parts_cons (c := [Value.int .i64 (1)]) (cells_of rfl rfl) (parts_cons (c := [Value.int .i64 (1)]) (cells_of rfl rfl) parts_nil))) (v := Value.agg #[Value.int .i64 (1), Value.int .i64 (1), Value.int .i64 (1)]) (fun _ => by kernel_rfl) ?_)
 refine Za rfl rfl (Exec.buildSlice (Te := 66) (cs := [Value.int .i64 (0), Value.int .i64 (0), Value.int .i64 (1), Value.int .i64 (1), Value.int .i64 (1), Value.int .i64 (1)]) hS91 rfl (parts_cons (c := [Value.int .i64 (0), Value.int .i64 (0), Value.int .i64 (1)]) (cells_of rfl rfl) (parts_cons (c := [Value.int .i64 (1), Value.int .i64 (1), Value.int .i64 (1)]) (cells_of rfl rfl) parts_nil)) (fun _ => by kernel_rfl) ?_)
 intro b92 w93 hS94
 refine Za rfl rfl (Exec.buildSlice (Te := 4) (cs := [Value.bool (false), Value.bool (true)]) hS94 rfl (parts_cons (c := [Value.bool (false)]) (cells_of rfl rfl) (parts_cons (c := [Value.bool (true)]) (cells_of rfl rfl) parts_nil)) (fun _ => by kernel_rfl) ?_)
 intro b95 w96 hS97
 refine Za rfl rfl (Exec.build rfl (parts_cons (c := [Value.int .i64 (2)]) (cells_of rfl rfl) (parts_cons (c := [Value.slice (some ⟨b89, 0, none⟩) 2 2]) (cells_of rfl rfl) (parts_cons (c := [Value.slice (some ⟨b92, 0, none⟩) 2 2]) (cells_of rfl rfl) (parts_cons (c := [Value.slice (some ⟨b95, 0, none⟩) 2 2]) (cells_of rfl rfl) parts_nil)))) (v := Value.agg #[Value.int .i64 (2), Value.int .i64 (0), Value.slice (some ⟨b89, 0, none⟩) 2 2, Value.slice (some ⟨b92, 0, none⟩) 2 2, Value.slice (some ⟨b95, 0, none⟩) 2 2]) (fun _ => by kernel_rfl) ?_)
 have hS98 := (hS97).f3
 refine Za rfl rfl (Exec.store_box (ds := [Value.int .i64 (2), Value.int .i64 (0), Value.slice (some ⟨b89, 0, none⟩) 2 2, Value.slice (some ⟨b92, 0, none⟩) 2 2, Value.slice (some ⟨b95, 0, none⟩) 2 2]) (es := [Value.int .i64 (2), Value.int .i64 (0), Value.slice (some ⟨b89, 0, none⟩) 2 2, Value.slice (some ⟨b92, 0, none⟩) 2 2, Value.slice (some ⟨b95, 0, none⟩) 2 2]) hS98 A26 rfl rfl rfl rfl (Zj rfl (Zj rfl (Zj rfl (Zj rfl (Zj rfl one_nil))))) (Nat.le_of_ble_eq_true rfl) rfl ?_)
 intro w99 hS100
 refine Zb (Ze ?_)
 refine W_ret ?_
 have e102 := Zu hm
 subst r
 refine ⟨_, retG1 rfl ⟨_, _, rfl, cellRes (hS100) A26⟩, ?_⟩
 have hS103 := (hS100).f3
 have hS104 := St.boxArr (E := (encInt .i64)) (xs := [2, 0]) hS103 ⟨[Value.int .i64 (2)], [Value.int .i64 (0)], rfl, rfl, ⟨[Value.int .i64 (0)], [], rfl, rfl, rfl⟩⟩ (by simp [maxLen])
 obtain ⟨s105, l106, hS107, r108⟩ := hS104.freezeArr
 have hS109 := (hS107).f2
 have hS110 := St.boxArr (E := encEdge) (xs := [(⟨0, 0, 1⟩ : Edge), (⟨1, 1, 1⟩ : Edge)]) hS109 ⟨[Value.int .i64 (0), Value.int .i64 (0), Value.int .i64 (1)], [Value.int .i64 (1), Value.int .i64 (1), Value.int .i64 (1)], rfl, ⟨[Value.int .i64 (0)], [Value.int .i64 (0), Value.int .i64 (1)], rfl, rfl, ⟨[Value.int .i64 (0)], [Value.int .i64 (1)], rfl, rfl, rfl⟩⟩, ⟨[Value.int .i64 (1), Value.int .i64 (1), Value.int .i64 (1)], [], rfl, ⟨[Value.int .i64 (1)], [Value.int .i64 (1), Value.int .i64 (1)], rfl, rfl, ⟨[Value.int .i64 (1)], [Value.int .i64 (1)], rfl, rfl, rfl⟩⟩, rfl⟩⟩ (by simp [maxLen])
 obtain ⟨s111, l112, hS113, r114⟩ := hS110.freezeArr
 have hS115 := (hS113).f1
 have hS116 := St.boxArr (E := encBool) (xs := [false, true]) hS115 ⟨[Value.bool (false)], [Value.bool (true)], rfl, rfl, ⟨[Value.bool (true)], [], rfl, rfl, rfl⟩⟩ (by simp [maxLen])
 obtain ⟨s117, l118, hS119, r120⟩ := hS116.freezeArr
 have hS121 := (hS119).drop
 exact ⟨s117, (Value.slice (some ⟨b89, 0, none⟩) 2 2), (Value.slice (some ⟨b92, 0, none⟩) 2 2), (Value.slice (some ⟨b95, 0, none⟩) 2 2), (Zt (Zt l106 l112) l118), hS121, rfl, (r108.mono (Zt l112 l118)), (r114.mono l118), r120⟩

theorem F26_0 : tyField Try.prog 26 0 = some 0 := by kernel_rfl

theorem A3 : tyAgg Try.prog 3 = some (false, 1) := by kernel_rfl

theorem F26_1 : tyField Try.prog 26 1 = some 1 := by kernel_rfl

theorem F26_4 : tyField Try.prog 26 4 = some 4 := by kernel_rfl

theorem A24 : tyAgg Try.prog 24 = some (false, 1) := by kernel_rfl

theorem S24 : tySlice Try.prog 24 = some (4, 1, 1) := by kernel_rfl

theorem F26_2 : tyField Try.prog 26 2 = some 2 := by kernel_rfl

theorem A22 : tyAgg Try.prog 22 = some (false, 1) := by kernel_rfl

theorem S22 : tySlice Try.prog 22 = some (3, 1, 8) := by kernel_rfl

theorem F26_3 : tyField Try.prog 26 3 = some 3 := by kernel_rfl

theorem A23 : tyAgg Try.prog 23 = some (false, 1) := by kernel_rfl

theorem S23 : tySlice Try.prog 23 = some (66, 3, 24) := by kernel_rfl

theorem A66 : tyAgg Try.prog 66 = some (true, 3) := by kernel_rfl

theorem Z66 : tyZero Try.prog 66 = some (Value.agg #[Value.int .i64 (0), Value.int .i64 (0), Value.int .i64 (0)]) := by kernel_rfl

theorem hmix : Try.prog.follows .mixedOrders = true := by kernel_rfl

theorem F66_0 : tyField Try.prog 66 0 = some 0 := by kernel_rfl

theorem F66_2 : tyField Try.prog 66 2 = some 2 := by kernel_rfl

theorem F66_1 : tyField Try.prog 66 1 = some 1 := by kernel_rfl

theorem N75 : (Try.f75.name == "runtime.NumGoroutine") = false := by kernel_rfl

theorem cmp_isNaN_int__sim {w0 w : World} {s : PHeap} {H : List Res} {x405 : Int}  {r : Bool} (hm : cmp_isNaN_int__p x405 = some r) (hS : St w0 s (H) w)  :
  Calls Try.prog 75 #[Value.int .i64 (x405)] w fun e w' => ∃ v, e = .returned v ∧ ((fun (y407 : Bool) => ∃ (s408 : PHeap) , PHeap.le s s408 ∧ St w0 s408 (H) w' ∧ v = Value.bool (y407)) r) := by
 unfold cmp_isNaN_int__p at hm
 refine calls_of_W Try.func75 rfl rfl ?_
 refine Zc ?_
 refine Zd ?_
 refine Za rfl rfl (Exec.assign (v := Value.bool (false)) rfl rfl ?_)
 refine Zb (Ze ?_)
 refine Zc ?_
 refine Zd ?_
 refine Za rfl rfl (Exec.move (v := Value.int .i64 (x405)) rfl rfl ?_)
 refine Za rfl rfl (Exec.move (v := Value.int .i64 (x405)) rfl rfl ?_)
 refine Za rfl rfl (Exec.neq rfl rfl rfl ?_)
 refine Za rfl rfl (Exec.assign (v := Value.bool (!decide (x405 = x405))) rfl rfl ?_)
 refine Zb (Ze ?_)
 refine W_ret ?_
 have e410 := Zu hm
 subst r
 refine ⟨_, ret1 rfl, ?_⟩
 exact ⟨s, (PHeap.le_refl _), hS, rfl⟩

theorem N56 : (Try.f56.name == "runtime.NumGoroutine") = false := by kernel_rfl

theorem cmp_Compare_int__sim {w0 w : World} {s : PHeap} {H : List Res} {x403 : Int} {y404 : Int}  {r : Int} (hm : cmp_Compare_int__p x403 y404 = some r) (hS : St w0 s (H) w)  :
  Calls Try.prog 56 #[Value.int .i64 (x403), Value.int .i64 (y404)] w fun e w' => ∃ v, e = .returned v ∧ ((fun (y433 : Int) => ∃ (s434 : PHeap) , PHeap.le s s434 ∧ St w0 s434 (H) w' ∧ v = Value.int .i64 (y433)) r) := by
 unfold cmp_Compare_int__p at hm
 refine calls_of_W Try.func56 rfl rfl ?_
 refine Zc ?_
 refine Zd ?_
 refine Za rfl rfl (Exec.assign (v := Value.int .i64 (0)) rfl rfl ?_)
 refine Zb (Ze ?_)
 refine Zc ?_
 refine Zd ?_
 refine Za rfl rfl (Exec.move (v := Value.int .i64 (x403)) rfl rfl ?_)
 refine Za rfl rfl (Exec.call rfl rfl Try.func75 rfl N75 (Zi rfl args_nil) ((cmp_isNaN_int__sim (cmp_isNaN_int__tot x403) hS ).mono ?_))
 rintro _ w439 ⟨_, rfl, ⟨s440, l441, hS442, rfl⟩⟩
 refine ⟨_, rfl, ?_⟩
 refine Za rfl rfl (Exec.assign (v := Value.bool ((cmp_isNaN_int__t x403))) rfl rfl ?_)
 refine Zb (Ze ?_)
 refine Zc ?_
 refine Zd ?_
 refine Za rfl rfl (Exec.move (v := Value.int .i64 (y404)) rfl rfl ?_)
 refine Za rfl rfl (Exec.call rfl rfl Try.func75 rfl N75 (Zi rfl args_nil) ((cmp_isNaN_int__sim (cmp_isNaN_int__tot y404) hS442 ).mono ?_))
 rintro _ w447 ⟨_, rfl, ⟨s448, l449, hS450, rfl⟩⟩
 refine ⟨_, rfl, ?_⟩
 refine Za rfl rfl (Exec.assign (v := Value.bool ((cmp_isNaN_int__t y404))) rfl rfl ?_)
 refine Zb (Ze ?_)
 refine Zc ?_
 refine Zc ?_
 refine Zd ?_
 refine Za rfl rfl (Exec.move (v := Value.bool ((cmp_isNaN_int__t x403))) rfl rfl ?_)
 refine Zb (Ze ?_)
 rcases ite_some hm with ⟨hc451, hm⟩ | ⟨hc451, hm⟩
 ·refine W_cond_t rfl hc451 ?_
  refine Zc ?_
  refine Zc ?_
  refine Zd ?_
  refine Za rfl rfl (Exec.move (v := Value.bool ((cmp_isNaN_int__t y404))) rfl rfl ?_)
  refine Zb (Ze ?_)
  rcases ite_some hm with ⟨hc452, hm⟩ | ⟨hc452, hm⟩
  ·refine W_cond_t rfl hc452 ?_
   refine Zc ?_
   refine Zd ?_
   refine Za rfl rfl (Exec.assign (v := Value.int .i64 (0)) rfl rfl ?_)
   refine Zb (Ze ?_)
   refine W_ret (at_ret (at_ret ?_))
   have e454 := Zu hm
   subst r
   refine ⟨_, ret1 rfl, ?_⟩
   exact ⟨s448, (Zt l441 l449), hS450, rfl⟩
  ·refine W_cond_f rfl hc452 ?_
   replace hc452 := Zk hc452
   refine W_skip (Ze ?_)
   refine Zc ?_
   refine Zd ?_
   refine Za rfl rfl (Exec.assign (v := Value.int .i64 ((-1))) rfl rfl ?_)
   refine Zb (Ze ?_)
   refine W_ret (at_ret ?_)
   have e456 := Zu hm
   subst r
   refine ⟨_, ret1 rfl, ?_⟩
   exact ⟨s448, (Zt l441 l449), hS450, rfl⟩
 ·refine W_cond_f rfl hc451 ?_
  replace hc451 := Zk hc451
  refine W_skip (Ze ?_)
  refine Zc ?_
  refine Zc ?_
  refine Zd ?_
  refine Za rfl rfl (Exec.move (v := Value.bool ((cmp_isNaN_int__t y404))) rfl rfl ?_)
  refine Zb (Ze ?_)
  rcases ite_some hm with ⟨hc457, hm⟩ | ⟨hc457, hm⟩
  ·refine W_cond_t rfl hc457 ?_
   refine Zc ?_
   refine Zd ?_
   refine Za rfl rfl (Exec.assign (v := Value.int .i64 (1)) rfl rfl ?_)
   refine Zb (Ze ?_)
   refine W_ret (at_ret ?_)
   have e459 := Zu hm
   subst r
   refine ⟨_, ret1 rfl, ?_⟩
   exact ⟨s448, (Zt l441 l449), hS450, rfl⟩
  ·refine W_cond_f rfl hc457 ?_
   replace hc457 := Zk hc457
   refine W_skip (Ze ?_)
   refine Zc ?_
   refine Zc ?_
   refine Zd ?_
   refine Za rfl rfl (Exec.move (v := Value.int .i64 (x403)) rfl rfl ?_)
   refine Za rfl rfl (Exec.move (v := Value.int .i64 (y404)) rfl rfl ?_)
   refine Za rfl rfl (Exec.lss rfl rfl rfl ?_)
   refine Zb (Ze ?_)
   rcases ite_some hm with ⟨hc460, hm⟩ | ⟨hc460, hm⟩
   ·refine W_cond_t rfl hc460 ?_
    refine Zc ?_
    refine Zd ?_
    refine Za rfl rfl (Exec.assign (v := Value.int .i64 ((-1))) rfl rfl ?_)
    refine Zb (Ze ?_)
    refine W_ret (at_ret ?_)
    have e462 := Zu hm
    subst r
    refine ⟨_, ret1 rfl, ?_⟩
    exact ⟨s448, (Zt l441 l449), hS450, rfl⟩
   ·refine W_cond_f rfl hc460 ?_
    replace hc460 := Zk hc460
    refine W_skip (Ze ?_)
    refine Zc ?_
    refine Zc ?_
    refine Zd ?_
    refine Za rfl rfl (Exec.move (v := Value.int .i64 (x403)) rfl rfl ?_)
    refine Za rfl rfl (Exec.move (v := Value.int .i64 (y404)) rfl rfl ?_)
    refine Za rfl rfl (Exec.gtr rfl rfl rfl ?_)
    refine Zb (Ze ?_)
    rcases ite_some hm with ⟨hc463, hm⟩ | ⟨hc463, hm⟩
    ·refine W_cond_t rfl hc463 ?_
     refine Zc ?_
     refine Zd ?_
     refine Za rfl rfl (Exec.assign (v := Value.int .i64 (1)) rfl rfl ?_)
     refine Zb (Ze ?_)
     refine W_ret (at_ret ?_)
     have e465 := Zu hm
     subst r
     refine ⟨_, ret1 rfl, ?_⟩
     exact ⟨s448, (Zt l441 l449), hS450, rfl⟩
    ·refine W_cond_f rfl hc463 ?_
     replace hc463 := Zk hc463
     refine W_skip (Ze ?_)
     refine Zc ?_
     refine Zd ?_
     refine Za rfl rfl (Exec.assign (v := Value.int .i64 (0)) rfl rfl ?_)
     refine Zb (Ze ?_)
     refine W_ret ?_
     have e467 := Zu hm
     subst r
     refine ⟨_, ret1 rfl, ?_⟩
     exact ⟨s448, (Zt l441 l449), hS450, rfl⟩

theorem N55 : (Try.f55.name == "runtime.NumGoroutine") = false := by kernel_rfl

theorem cmp_Or_int__sim {w0 w : World} {s : PHeap} {H : List Res} {vals488 : (List Int)} {v489 : Value} {r : Int} (hm : cmp_Or_int__p vals488 = some r) (hS : St w0 s (H) w) (a490 : SliceRep (encInt .i64) s v489 vals488) :
  Calls Try.prog 55 #[v489] w fun e w' => ∃ v, e = .returned v ∧ ((fun (y587 : Int) => ∃ (s588 : PHeap) , PHeap.le s s588 ∧ St w0 s588 (H) w' ∧ v = Value.int .i64 (y587)) r) := by
 unfold cmp_Or_int__p at hm
 refine calls_of_W Try.func55 rfl rfl ?_
 refine Zc ?_
 refine Zd ?_
 refine Za rfl rfl (Exec.assign (v := Value.int .i64 (0)) rfl rfl ?_)
 refine Zb (Ze ?_)
 refine Zc ?_
 refine Zd ?_
 refine Za rfl rfl (Exec.assign (v := Value.int .i64 (0)) rfl rfl ?_)
 refine Zb (Ze ?_)
 refine Zc ?_
 refine Zc ?_
 refine Zd ?_
 refine Za rfl rfl (Exec.move (v := v489) rfl rfl ?_)
 refine Za rfl rfl (Exec.len_rep S22 rfl rfl a490 ?_)
 refine Za rfl rfl (Exec.move (v := Value.int .i64 (0)) rfl rfl ?_)
 refine Zb (Ze ?_)
 obtain ⟨c622, hB623, hr624, hn625, hb626⟩ := ctl_some hm
 refine W_mid (M := fun f' w' => ∃ s', (c622 = .next s' ∨ c622 = .brk s') ∧ (fun (_ : Unit) => ∃ (s628 : PHeap) , PHeap.le s s628 ∧ St w0 s628 (H) w' ∧ f' 3 = Value.int .i64 (0) ∧ f' 6 = v489 ∧ f' 7 = Value.int .i64 ((vals488.length : Int))) s') ?_ ?_
 ·refine W_block (W_forC (fun k' s' f' w' => (fun (_ : Unit) => ∃ (s627 : PHeap) , PHeap.le s s627 ∧ St w0 s627 (H) w' ∧ f' 3 = Value.int .i64 (0) ∧ f' 6 = v489 ∧ f' 7 = Value.int .i64 ((vals488.length : Int)) ∧ f' 8 = Value.int .i64 (k' : Int)) s') hB623 ?_ ?_ ?_)
  ·exact ⟨s, (PHeap.le_refl _), hS, rfl, rfl, rfl, rfl⟩
  ·intro i589 t636 c630 f631 w632 hi637 hI633 hm634 hres635
   obtain ⟨s638, l639, hS640, p641, p642, p643, x644⟩ := hI633
   refine Zc ?_
   refine Zd ?_
   refine Za rfl rfl (Exec.lss rfl x644 p643 ?_)
   refine Zb (Ze ?_)
   refine Zc ?_
   refine W_true (congrArg Value.bool (decide_eq_true (by omega))) ?_
   refine W_skip (Ze ?_)
   refine Zc ?_
   refine W_block ?_
   refine Zc ?_
   refine Zd ?_
   obtain ⟨x652, q653, hm634⟩ := Zg hm634
   refine Za rfl rfl (Exec.index_rep S22 rfl p642 x644 (a490.mono l639) q653 ?_)
   intro b654 o655 a656
   refine Za rfl rfl (Exec.load_at (E := (encInt .i64)) hS640 A3 rfl rfl rfl a656 ?_)
   intro v657 q658
   obtain rfl := encInt_val.1 q658
   refine Za rfl rfl (Exec.assign (v := Value.int .i64 (x652)) rfl rfl ?_)
   refine Zb (Ze ?_)
   refine Zc ?_
   refine Zd ?_
   refine Za rfl rfl (Exec.move (v := Value.int .i64 (x652)) rfl rfl ?_)
   refine Za rfl rfl (Exec.move (v := Value.int .i64 (0)) rfl p641 ?_)
   refine Za rfl rfl (Exec.neq rfl rfl rfl ?_)
   refine Zb (Ze ?_)
   rcases ite_some hm634 with ⟨hc659, hm634⟩ | ⟨hc659, hm634⟩
   ·refine W_cond_t rfl hc659 ?_
    refine Zc ?_
    refine Zd ?_
    refine Za rfl rfl (Exec.move (v := Value.int .i64 (x652)) rfl rfl ?_)
    refine Za rfl rfl (Exec.assign (v := Value.int .i64 (x652)) rfl rfl ?_)
    refine Zb (Ze ?_)
    refine W_ret (ib_ret (at_ret (at_ret (ib_ret (at_ret (at_ret ?_))))))
    have e660 := Zu hm634
    subst c630
    have hq661 := hr624 _ (hres635 (by intro _ h; cases h))
    have e662 := Zu hq661
    subst r
    refine ⟨_, ret1 rfl, ?_⟩
    exact ⟨s638, l639, hS640, rfl⟩
   ·refine W_cond_f rfl hc659 ?_
    replace hc659 := Zk hc659
    refine W_skip (ib_normal (Ze ?_))
    refine Zd ?_
    refine Za rfl rfl (Exec.add rfl x644 rfl ?_)
    refine Za rfl rfl (Exec.move (v := Value.int .i64 (IntKind.i64.wrap ((i589 : Int) + 1))) rfl rfl ?_)
    refine Zb (Ze ?_)
    have e663 := Zu hm634
    subst c630
    refine ⟨_, rfl, ?_⟩; exact ⟨s638, l639, hS640, p641, p642, p643, (Eq.trans rfl (wrap_up hi637 (SliceRep.le a490)))⟩
  ·intro t664 f665 w666 hI667 hres668
   obtain ⟨s669, l670, hS671, p672, p673, p674, x675⟩ := hI667
   refine Zc ?_
   refine Zd ?_
   refine Za rfl rfl (Exec.lss rfl x675 p674 ?_)
   refine Zb (Ze ?_)
   refine Zc ?_
   refine W_false (congrArg Value.bool (decide_eq_false (by omega))) ?_
   refine W_exit (at_exit (at_exit (ib_here (Ze ?_))))
   refine ⟨_, .inl hres668, ?_⟩; exact ⟨s669, l670, hS671, p672, p673, p674⟩
 ·rintro f676 w677 ⟨t678, hc679, hM680⟩
  have hm := hc679.elim (hn625 _) (hb626 _)
  clear hc679
  obtain ⟨s681, l682, hS683, p684, p685, p686⟩ := hM680
  refine (Ze ?_)
  refine Zc ?_
  refine Zd ?_
  refine Za rfl rfl (Exec.move (v := Value.int .i64 (0)) rfl p684 ?_)
  refine Za rfl rfl (Exec.assign (v := Value.int .i64 (0)) rfl rfl ?_)
  refine Zb (Ze ?_)
  refine W_ret ?_
  have e688 := Zu hm
  subst r
  refine ⟨_, ret1 rfl, ?_⟩
  exact ⟨s681, l682, hS683, rfl⟩

theorem N39 : (Try.f39.name == "runtime.NumGoroutine") = false := by kernel_rfl

theorem transys_compare_sim {w0 w : World} {s : PHeap} {H : List Res} {a388 : Edge} {b389 : Edge}  {r : Int} (hm : transys_compare_p a388 b389 = some r) (hS : St w0 s (H) w)  :
  Calls Try.prog 39 #[Value.agg #[Value.int .i64 (a388.From), Value.int .i64 (a388.Label), Value.int .i64 (a388.To)], Value.agg #[Value.int .i64 (b389.From), Value.int .i64 (b389.Label), Value.int .i64 (b389.To)]] w fun e w' => ∃ v, e = .returned v ∧ ((fun (y781 : Int) => ∃ (s782 : PHeap) , PHeap.le s s782 ∧ St w0 s782 (H) w' ∧ v = Value.int .i64 (y781)) r) := by
 unfold transys_compare_p at hm
 refine calls_of_W Try.func39 rfl rfl ?_
 refine Zc ?_
 refine Zd ?_
 refine Za rfl rfl (Exec.box (cs := [Value.int .i64 (a388.From), Value.int .i64 (a388.Label), Value.int .i64 (a388.To)]) hS rfl rfl rfl ?_)
 intro b789 w790 hS791
 refine Za rfl rfl (Exec.box (cs := [Value.int .i64 (b389.From), Value.int .i64 (b389.Label), Value.int .i64 (b389.To)]) hS791 rfl rfl rfl ?_)
 intro b792 w793 hS794
 refine Za rfl rfl (Exec.assign (v := Value.int .i64 (0)) rfl rfl ?_)
 refine Zb (Ze ?_)
 refine Zc ?_
 refine W_dl (n0 := 17) (.q 0 (.q 1 (.q 2 (.q 3 (.q 5 (.q 6 (.q 7 (.q 8 (.q 10 (.q 11 (.q 12 (.q 13 (.e 4 [5, 6, 7, 8, 10, 11, 12, 13] (.e 9 [10, 11, 12, 13] (.e 14 [] (.e 15 [] (.e 16 [] .done))))))))))))))))) hmix (by kernel_rfl) (by kernel_rfl) ?_
 have hS879 := hS794.drew
 refine DL_q rfl rfl (Exec.field F66_0 rfl rfl rfl ⟨rfl, ?_⟩)
 refine DL_q rfl rfl (Exec.load_box ((hS879).f1) A3 rfl rfl rfl ⟨rfl, ?_⟩)
 refine DL_q rfl rfl (Exec.field F66_0 rfl rfl rfl ⟨rfl, ?_⟩)
 refine DL_q rfl rfl (Exec.load_box (hS879) A3 rfl rfl rfl ⟨rfl, ?_⟩)
 refine DL_q rfl rfl (Exec.field F66_1 rfl rfl rfl ⟨rfl, ?_⟩)
 refine DL_q rfl rfl (Exec.load_box ((hS879).f1) A3 rfl rfl rfl ⟨rfl, ?_⟩)
 refine DL_q rfl rfl (Exec.field F66_1 rfl rfl rfl ⟨rfl, ?_⟩)
 refine DL_q rfl rfl (Exec.load_box (hS879) A3 rfl rfl rfl ⟨rfl, ?_⟩)
 refine DL_q rfl rfl (Exec.field F66_2 rfl rfl rfl ⟨rfl, ?_⟩)
 refine DL_q rfl rfl (Exec.load_box ((hS879).f1) A3 rfl rfl rfl ⟨rfl, ?_⟩)
 refine DL_q rfl rfl (Exec.field F66_2 rfl rfl rfl ⟨rfl, ?_⟩)
 refine DL_q rfl rfl (Exec.load_box (hS879) A3 rfl rfl rfl ⟨rfl, ?_⟩)
 refine DL_e rfl rfl (Exec.call rfl rfl Try.func56 rfl N56 (Zi rfl (Zi rfl args_nil)) ((cmp_Compare_int__sim (cmp_Compare_int__tot a388.From b389.From) hS879 ).mono ?_))
 rintro _ w880 ⟨_, rfl, ⟨s881, l882, hS883, rfl⟩⟩
 refine ⟨_, rfl, ?_⟩
 refine ⟨(ag_cons (ag_r rfl rfl (Exec.field F66_1 rfl rfl rfl ⟨rfl, rfl⟩)) (ag_cons (ag_r rfl rfl (Exec.load_box ((hS883).f1) A3 rfl rfl rfl ⟨rfl, rfl⟩)) (ag_cons (ag_r rfl rfl (Exec.field F66_1 rfl rfl rfl ⟨rfl, rfl⟩)) (ag_cons (ag_r rfl rfl (Exec.load_box (hS883) A3 rfl rfl rfl ⟨rfl, rfl⟩)) (ag_cons (ag_r rfl rfl (Exec.field F66_2 rfl rfl rfl ⟨rfl, rfl⟩)) (ag_cons (ag_r rfl rfl (Exec.load_box ((hS883).f1) A3 rfl rfl rfl ⟨rfl, rfl⟩)) (ag_cons (ag_r rfl rfl (Exec.field F66_2 rfl rfl rfl ⟨rfl, rfl⟩)) (ag_cons (ag_r rfl rfl (Exec.load_box (hS883) A3 rfl rfl rfl ⟨rfl, rfl⟩)) ag_nil)))))))), ?_⟩
 refine DL_e rfl rfl (Exec.call rfl rfl Try.func56 rfl N56 (Zi rfl (Zi rfl args_nil)) ((cmp_Compare_int__sim (cmp_Compare_int__tot a388.Label b389.Label) hS883 ).mono ?_))
 rintro _ w884 ⟨_, rfl, ⟨s885, l886, hS887, rfl⟩⟩
 refine ⟨_, rfl, ?_⟩
 refine ⟨(ag_cons (ag_r rfl rfl (Exec.field F66_2 rfl rfl rfl ⟨rfl, rfl⟩)) (ag_cons (ag_r rfl rfl (Exec.load_box ((hS887).f1) A3 rfl rfl rfl ⟨rfl, rfl⟩)) (ag_cons (ag_r rfl rfl (Exec.field F66_2 rfl rfl rfl ⟨rfl, rfl⟩)) (ag_cons (ag_r rfl rfl (Exec.load_box (hS887) A3 rfl rfl rfl ⟨rfl, rfl⟩)) ag_nil)))), ?_⟩
 refine DL_e rfl rfl (Exec.call rfl rfl Try.func56 rfl N56 (Zi rfl (Zi rfl args_nil)) ((cmp_Compare_int__sim (cmp_Compare_int__tot a388.To b389.To) hS887 ).mono ?_))
 rintro _ w888 ⟨_, rfl, ⟨s889, l890, hS891, rfl⟩⟩
 refine ⟨_, rfl, ?_⟩
 refine ⟨ag_nil, ?_⟩
 refine DL_e rfl rfl (Exec.buildSlice (Te := 3) (cs := [Value.int .i64 ((cmp_Compare_int__t a388.From b389.From)), Value.int .i64 ((cmp_Compare_int__t a388.Label b389.Label)), Value.int .i64 ((cmp_Compare_int__t a388.To b389.To))]) hS891 rfl (parts_cons (c := [Value.int .i64 ((cmp_Compare_int__t a388.From b389.From))]) (cells_of rfl rfl) (parts_cons (c := [Value.int .i64 ((cmp_Compare_int__t a388.Label b389.Label))]) (cells_of rfl rfl) (parts_cons (c := [Value.int .i64 ((cmp_Compare_int__t a388.To b389.To))]) (cells_of rfl rfl) parts_nil))) (fun _ => by kernel_rfl) ?_)
 intro b892 w893 hS894
 refine ⟨ag_nil, ?_⟩
 have hS895 := St.boxArr (E := (encInt .i64)) (xs := [(cmp_Compare_int__t a388.From b389.From), (cmp_Compare_int__t a388.Label b389.Label), (cmp_Compare_int__t a388.To b389.To)]) hS894 ⟨[Value.int .i64 ((cmp_Compare_int__t a388.From b389.From))], [Value.int .i64 ((cmp_Compare_int__t a388.Label b389.Label)), Value.int .i64 ((cmp_Compare_int__t a388.To b389.To))], rfl, rfl, ⟨[Value.int .i64 ((cmp_Compare_int__t a388.Label b389.Label))], [Value.int .i64 ((cmp_Compare_int__t a388.To b389.To))], rfl, rfl, ⟨[Value.int .i64 ((cmp_Compare_int__t a388.To b389.To))], [], rfl, rfl, rfl⟩⟩⟩ (by simp [maxLen])
 obtain ⟨s896, l897, hS898, r899⟩ := hS895.freezeArr
 obtain ⟨y902, q901, hm⟩ := Zg hm
 refine DL_e rfl rfl (Exec.call rfl rfl Try.func55 rfl N55 (Zi rfl args_nil) ((cmp_Or_int__sim q901 hS898 r899).mono ?_))
 rintro _ w903 ⟨_, rfl, ⟨s904, l905, hS906, rfl⟩⟩
 refine ⟨_, rfl, ?_⟩
 refine ⟨ag_nil, ?_⟩
 refine DL_done ?_
 refine Za rfl rfl (Exec.assign (v := Value.int .i64 (y902)) rfl rfl ?_)
 refine Zb (Ze ?_)
 refine W_ret ?_
 have e908 := Zu hm
 subst r
 refine ⟨_, ret1 rfl, ?_⟩
 have hS909 := (hS906).drop
 have hS910 := (hS909).drop
 exact ⟨s904, (Zt (Zt (Zt (Zt l882 l886) l890) l897) l905), hS910, rfl⟩

theorem N25 : (Try.f25.name == "runtime.NumGoroutine") = false := by kernel_rfl

theorem transys_Valid_sim {w0 w : World} {s : PHeap} {H : List Res} {x174 : System} {v175 : Value} {v177 : Value} {v179 : Value} {r : Bool} (hm : transys_Valid_p x174 = some r) (hS : St w0 s (H) w) (a176 : SliceRep (encInt .i64) s v175 x174.Costs) (a178 : SliceRep encEdge s v177 x174.Edges) (a180 : SliceRep encBool s v179 x174.Goals) :
  Calls Try.prog 25 #[Value.agg #[Value.int .i64 (x174.States), Value.int .i64 (x174.Init), v175, v177, v179]] w fun e w' => ∃ v, e = .returned v ∧ ((fun (y100 : Bool) => ∃ (s100 : PHeap) , PHeap.le s s100 ∧ St w0 s100 (H) w' ∧ v = Value.bool (y100)) r) := by
 unfold transys_Valid_p at hm
 refine calls_of_W Try.func25 rfl rfl ?_
 refine Zc ?_
 refine Zd ?_
 refine Za rfl rfl (Exec.box (cs := [Value.int .i64 (x174.States), Value.int .i64 (x174.Init), v175, v177, v179]) hS rfl rfl rfl ?_)
 intro b100 w100 hS100
 refine Za rfl rfl (Exec.assign (v := Value.bool (false)) rfl rfl ?_)
 refine Zb (Ze ?_)
 refine Zc ?_
 refine Zc ?_
 refine W_mid (M := fun f' w' => ∃ (s101 : PHeap) , PHeap.le s s101 ∧ St w0 s101 (Res.box b100 26 [Value.int .i64 (x174.States), Value.int .i64 (x174.Init), v175, v177, v179] :: H) w' ∧ f' 1 = Value.pointer (some ⟨b100, 0, none⟩) ∧ f' 46 = Value.bool (((decide (x174.States < 1)) || ((decide (4096 < x174.States)) || ((decide (x174.Init < 0)) || ((decide (x174.States ≤ x174.Init)) || ((!decide ((x174.Goals.length : Int) = x174.States)) || ((decide (4096 < (x174.Costs.length : Int))) || decide (65536 < (x174.Edges.length : Int)))))))))) ?_ ?_
 ·refine Zd ?_
  refine Za rfl rfl (Exec.field F26_0 rfl rfl rfl ?_)
  refine Za rfl rfl (Exec.load_box (hS100) A3 rfl rfl rfl ?_)
  refine Za rfl rfl (Exec.lss rfl rfl rfl ?_)
  refine Za rfl rfl (Exec.move (v := Value.bool (decide (x174.States < 1))) rfl rfl ?_)
  by_cases hc100 : (decide (x174.States < 1)) = true
  ·refine Zl rfl (Zf rfl (congrArg Value.bool hc100)) rfl rfl ?_
   refine Zl rfl (Zf rfl (congrArg Value.bool hc100)) rfl rfl ?_
   refine Zl rfl (Zf rfl (congrArg Value.bool hc100)) rfl rfl ?_
   refine Za rfl rfl (Exec.pick_t (v := Value.bool (true)) rfl (congrArg Value.bool hc100) rfl ?_)
   refine Za rfl rfl (Exec.move (v := Value.bool (true)) rfl rfl ?_)
   refine Zl rfl (Zf rfl rfl) rfl rfl ?_
   refine Zl rfl (Zf rfl rfl) rfl rfl ?_
   refine Zl rfl (Zf rfl rfl) rfl rfl ?_
   refine Za rfl rfl (Exec.pick_t (v := Value.bool (true)) rfl rfl rfl ?_)
   refine Za rfl rfl (Exec.move (v := Value.bool (true)) rfl rfl ?_)
   refine Zl rfl (Zf rfl rfl) rfl rfl ?_
   refine Zl rfl (Zf rfl rfl) rfl rfl ?_
   refine Zl rfl (Zf rfl rfl) rfl rfl ?_
   refine Zl rfl (Zf rfl rfl) rfl rfl ?_
   refine Zl rfl (Zf rfl rfl) rfl rfl ?_
   refine Za rfl rfl (Exec.pick_t (v := Value.bool (true)) rfl rfl rfl ?_)
   refine Za rfl rfl (Exec.move (v := Value.bool (true)) rfl rfl ?_)
   refine Zl rfl (Zf rfl rfl) rfl rfl ?_
   refine Zl rfl (Zf rfl rfl) rfl rfl ?_
   refine Zl rfl (Zf rfl rfl) rfl rfl ?_
   refine Zl rfl (Zf rfl rfl) rfl rfl ?_
   refine Zl rfl (Zf rfl rfl) rfl rfl ?_
   refine Zl rfl (Zf rfl rfl) rfl rfl ?_
   refine Za rfl rfl (Exec.pick_t (v := Value.bool (true)) rfl rfl rfl ?_)
   refine Za rfl rfl (Exec.move (v := Value.bool (true)) rfl rfl ?_)
   refine Zl rfl (Zf rfl rfl) rfl rfl ?_
   refine Zl rfl (Zf rfl rfl) rfl rfl ?_
   refine Zl rfl (Zf rfl rfl) rfl rfl ?_
   refine Zl rfl (Zf rfl rfl) rfl rfl ?_
   refine Za rfl rfl (Exec.pick_t (v := Value.bool (true)) rfl rfl rfl ?_)
   refine Za rfl rfl (Exec.move (v := Value.bool (true)) rfl rfl ?_)
   refine Zl rfl (Zf rfl rfl) rfl rfl ?_
   refine Zl rfl (Zf rfl rfl) rfl rfl ?_
   refine Zl rfl (Zf rfl rfl) rfl rfl ?_
   refine Zl rfl (Zf rfl rfl) rfl rfl ?_
   refine Za rfl rfl (Exec.pick_t (v := Value.bool (true)) rfl rfl rfl ?_)
   refine Zb (Ze ?_)
   exact ⟨s, (PHeap.le_refl _), hS100, rfl, (congrArg Value.bool (or_t hc100)).symm⟩
  ·replace hc100 := Zk hc100
   refine WL_run rfl (Zf rfl (congrArg Value.bool hc100)) rfl (Exec.field F26_0 rfl rfl rfl ?_)
   refine WL_run rfl (Zf rfl (congrArg Value.bool hc100)) rfl (Exec.load_box (hS100) A3 rfl rfl rfl ?_)
   refine WL_run rfl (Zf rfl (congrArg Value.bool hc100)) rfl (Exec.gtr rfl rfl rfl ?_)
   refine Za rfl rfl (Exec.pick_f (v := Value.bool (decide (4096 < x174.States))) rfl (congrArg Value.bool hc100) rfl ?_)
   refine Za rfl rfl (Exec.move (v := Value.bool (decide (4096 < x174.States))) rfl rfl ?_)
   by_cases hc101 : (decide (4096 < x174.States)) = true
   ·refine Zl rfl (Zf rfl (congrArg Value.bool hc101)) rfl rfl ?_
    refine Zl rfl (Zf rfl (congrArg Value.bool hc101)) rfl rfl ?_
    refine Zl rfl (Zf rfl (congrArg Value.bool hc101)) rfl rfl ?_
    refine Za rfl rfl (Exec.pick_t (v := Value.bool (true)) rfl (congrArg Value.bool hc101) rfl ?_)
    refine Za rfl rfl (Exec.move (v := Value.bool (true)) rfl rfl ?_)
    refine Zl rfl (Zf rfl rfl) rfl rfl ?_
    refine Zl rfl (Zf rfl rfl) rfl rfl ?_
    refine Zl rfl (Zf rfl rfl) rfl rfl ?_
    refine Zl rfl (Zf rfl rfl) rfl rfl ?_
    refine Zl rfl (Zf rfl rfl) rfl rfl ?_
    refine Za rfl rfl (Exec.pick_t (v := Value.bool (true)) rfl rfl rfl ?_)
    refine Za rfl rfl (Exec.move (v := Value.bool (true)) rfl rfl ?_)
    refine Zl rfl (Zf rfl rfl) rfl rfl ?_
    refine Zl rfl (Zf rfl rfl) rfl rfl ?_
    refine Zl rfl (Zf rfl rfl) rfl rfl ?_
    refine Zl rfl (Zf rfl rfl) rfl rfl ?_
    refine Zl rfl (Zf rfl rfl) rfl rfl ?_
    refine Zl rfl (Zf rfl rfl) rfl rfl ?_
    refine Za rfl rfl (Exec.pick_t (v := Value.bool (true)) rfl rfl rfl ?_)
    refine Za rfl rfl (Exec.move (v := Value.bool (true)) rfl rfl ?_)
    refine Zl rfl (Zf rfl rfl) rfl rfl ?_
    refine Zl rfl (Zf rfl rfl) rfl rfl ?_
    refine Zl rfl (Zf rfl rfl) rfl rfl ?_
    refine Zl rfl (Zf rfl rfl) rfl rfl ?_
    refine Za rfl rfl (Exec.pick_t (v := Value.bool (true)) rfl rfl rfl ?_)
    refine Za rfl rfl (Exec.move (v := Value.bool (true)) rfl rfl ?_)
    refine Zl rfl (Zf rfl rfl) rfl rfl ?_
    refine Zl rfl (Zf rfl rfl) rfl rfl ?_
    refine Zl rfl (Zf rfl rfl) rfl rfl ?_
    refine Zl rfl (Zf rfl rfl) rfl rfl ?_
    refine Za rfl rfl (Exec.pick_t (v := Value.bool (true)) rfl rfl rfl ?_)
    refine Zb (Ze ?_)
    exact ⟨s, (PHeap.le_refl _), hS100, rfl, (congrArg Value.bool (Eq.trans (or_f hc100) (or_t hc101))).symm⟩
   ·replace hc101 := Zk hc101
    refine WL_run rfl (Zf rfl (congrArg Value.bool hc101)) rfl (Exec.field F26_1 rfl rfl rfl ?_)
    refine WL_run rfl (Zf rfl (congrArg Value.bool hc101)) rfl (Exec.load_box (hS100) A3 rfl rfl rfl ?_)
    refine WL_run rfl (Zf rfl (congrArg Value.bool hc101)) rfl (Exec.lss rfl rfl rfl ?_)
    refine Za rfl rfl (Exec.pick_f (v := Value.bool (decide (x174.Init < 0))) rfl (congrArg Value.bool hc101) rfl ?_)
    refine Za rfl rfl (Exec.move (v := Value.bool (decide (x174.Init < 0))) rfl rfl ?_)
    by_cases hc102 : (decide (x174.Init < 0)) = true
    ·refine Zl rfl (Zf rfl (congrArg Value.bool hc102)) rfl rfl ?_
     refine Zl rfl (Zf rfl (congrArg Value.bool hc102)) rfl rfl ?_
     refine Zl rfl (Zf rfl (congrArg Value.bool hc102)) rfl rfl ?_
     refine Zl rfl (Zf rfl (congrArg Value.bool hc102)) rfl rfl ?_
     refine Zl rfl (Zf rfl (congrArg Value.bool hc102)) rfl rfl ?_
     refine Za rfl rfl (Exec.pick_t (v := Value.bool (true)) rfl (congrArg Value.bool hc102) rfl ?_)
     refine Za rfl rfl (Exec.move (v := Value.bool (true)) rfl rfl ?_)
     refine Zl rfl (Zf rfl rfl) rfl rfl ?_
     refine Zl rfl (Zf rfl rfl) rfl rfl ?_
     refine Zl rfl (Zf rfl rfl) rfl rfl ?_
     refine Zl rfl (Zf rfl rfl) rfl rfl ?_
     refine Zl rfl (Zf rfl rfl) rfl rfl ?_
     refine Zl rfl (Zf rfl rfl) rfl rfl ?_
     refine Za rfl rfl (Exec.pick_t (v := Value.bool (true)) rfl rfl rfl ?_)
     refine Za rfl rfl (Exec.move (v := Value.bool (true)) rfl rfl ?_)
     refine Zl rfl (Zf rfl rfl) rfl rfl ?_
     refine Zl rfl (Zf rfl rfl) rfl rfl ?_
     refine Zl rfl (Zf rfl rfl) rfl rfl ?_
     refine Zl rfl (Zf rfl rfl) rfl rfl ?_
     refine Za rfl rfl (Exec.pick_t (v := Value.bool (true)) rfl rfl rfl ?_)
     refine Za rfl rfl (Exec.move (v := Value.bool (true)) rfl rfl ?_)
     refine Zl rfl (Zf rfl rfl) rfl rfl ?_
     refine Zl rfl (Zf rfl rfl) rfl rfl ?_
     refine Zl rfl (Zf rfl rfl) rfl rfl ?_
     refine Zl rfl (Zf rfl rfl) rfl rfl ?_
     refine Za rfl rfl (Exec.pick_t (v := Value.bool (true)) rfl rfl rfl ?_)
     refine Zb (Ze ?_)
     exact ⟨s, (PHeap.le_refl _), hS100, rfl, (congrArg Value.bool (Eq.trans (or_f hc100) (Eq.trans (or_f hc101) (or_t hc102)))).symm⟩
    ·replace hc102 := Zk hc102
     refine WL_run rfl (Zf rfl (congrArg Value.bool hc102)) rfl (Exec.field F26_1 rfl rfl rfl ?_)
     refine WL_run rfl (Zf rfl (congrArg Value.bool hc102)) rfl (Exec.load_box (hS100) A3 rfl rfl rfl ?_)
     refine WL_run rfl (Zf rfl (congrArg Value.bool hc102)) rfl (Exec.field F26_0 rfl rfl rfl ?_)
     refine WL_run rfl (Zf rfl (congrArg Value.bool hc102)) rfl (Exec.load_box (hS100) A3 rfl rfl rfl ?_)
     refine WL_run rfl (Zf rfl (congrArg Value.bool hc102)) rfl (Exec.geq rfl rfl rfl ?_)
     refine Za rfl rfl (Exec.pick_f (v := Value.bool (decide (x174.States ≤ x174.Init))) rfl (congrArg Value.bool hc102) rfl ?_)
     refine Za rfl rfl (Exec.move (v := Value.bool (decide (x174.States ≤ x174.Init))) rfl rfl ?_)
     by_cases hc103 : (decide (x174.States ≤ x174.Init)) = true
     ·refine Zl rfl (Zf rfl (congrArg Value.bool hc103)) rfl rfl ?_
      refine Zl rfl (Zf rfl (congrArg Value.bool hc103)) rfl rfl ?_
      refine Zl rfl (Zf rfl (congrArg Value.bool hc103)) rfl rfl ?_
      refine Zl rfl (Zf rfl (congrArg Value.bool hc103)) rfl rfl ?_
      refine Zl rfl (Zf rfl (congrArg Value.bool hc103)) rfl rfl ?_
      refine Zl rfl (Zf rfl (congrArg Value.bool hc103)) rfl rfl ?_
      refine Za rfl rfl (Exec.pick_t (v := Value.bool (true)) rfl (congrArg Value.bool hc103) rfl ?_)
      refine Za rfl rfl (Exec.move (v := Value.bool (true)) rfl rfl ?_)
      refine Zl rfl (Zf rfl rfl) rfl rfl ?_
      refine Zl rfl (Zf rfl rfl) rfl rfl ?_
      refine Zl rfl (Zf rfl rfl) rfl rfl ?_
      refine Zl rfl (Zf rfl rfl) rfl rfl ?_
      refine Za rfl rfl (Exec.pick_t (v := Value.bool (true)) rfl rfl rfl ?_)
      refine Za rfl rfl (Exec.move (v := Value.bool (true)) rfl rfl ?_)
      refine Zl rfl (Zf rfl rfl) rfl rfl ?_
      refine Zl rfl (Zf rfl rfl) rfl rfl ?_
      refine Zl rfl (Zf rfl rfl) rfl rfl ?_
      refine Zl rfl (Zf rfl rfl) rfl rfl ?_
      refine Za rfl rfl (Exec.pick_t (v := Value.bool (true)) rfl rfl rfl ?_)
      refine Zb (Ze ?_)
      exact ⟨s, (PHeap.le_refl _), hS100, rfl, (congrArg Value.bool (Eq.trans (or_f hc100) (Eq.trans (or_f hc101) (Eq.trans (or_f hc102) (or_t hc103))))).symm⟩
     ·replace hc103 := Zk hc103
      refine WL_run rfl (Zf rfl (congrArg Value.bool hc103)) rfl (Exec.field F26_4 rfl rfl rfl ?_)
      refine WL_run rfl (Zf rfl (congrArg Value.bool hc103)) rfl (Exec.load_box (hS100) A24 rfl rfl rfl ?_)
      refine WL_run rfl (Zf rfl (congrArg Value.bool hc103)) rfl (Exec.len_rep S24 rfl rfl a180 ?_)
      refine WL_run rfl (Zf rfl (congrArg Value.bool hc103)) rfl (Exec.field F26_0 rfl rfl rfl ?_)
      refine WL_run rfl (Zf rfl (congrArg Value.bool hc103)) rfl (Exec.load_box (hS100) A3 rfl rfl rfl ?_)
      refine WL_run rfl (Zf rfl (congrArg Value.bool hc103)) rfl (Exec.neq rfl rfl rfl ?_)
      refine Za rfl rfl (Exec.pick_f (v := Value.bool (!decide ((x174.Goals.length : Int) = x174.States))) rfl (congrArg Value.bool hc103) rfl ?_)
      refine Za rfl rfl (Exec.move (v := Value.bool (!decide ((x174.Goals.length : Int) = x174.States))) rfl rfl ?_)
      by_cases hc104 : (!decide ((x174.Goals.length : Int) = x174.States)) = true
      ·refine Zl rfl (Zf rfl (congrArg Value.bool hc104)) rfl rfl ?_
       refine Zl rfl (Zf rfl (congrArg Value.bool hc104)) rfl rfl ?_
       refine Zl rfl (Zf rfl (congrArg Value.bool hc104)) rfl rfl ?_
       refine Zl rfl (Zf rfl (congrArg Value.bool hc104)) rfl rfl ?_
       refine Za rfl rfl (Exec.pick_t (v := Value.bool (true)) rfl (congrArg Value.bool hc104) rfl ?_)
       refine Za rfl rfl (Exec.move (v := Value.bool (true)) rfl rfl ?_)
       refine Zl rfl (Zf rfl rfl) rfl rfl ?_
       refine Zl rfl (Zf rfl rfl) rfl rfl ?_
       refine Zl rfl (Zf rfl rfl) rfl rfl ?_
       refine Zl rfl (Zf rfl rfl) rfl rfl ?_
       refine Za rfl rfl (Exec.pick_t (v := Value.bool (true)) rfl rfl rfl ?_)
       refine Zb (Ze ?_)
       exact ⟨s, (PHeap.le_refl _), hS100, rfl, (congrArg Value.bool (Eq.trans (or_f hc100) (Eq.trans (or_f hc101) (Eq.trans (or_f hc102) (Eq.trans (or_f hc103) (or_t hc104)))))).symm⟩
      ·replace hc104 := Zk hc104
       refine WL_run rfl (Zf rfl (congrArg Value.bool hc104)) rfl (Exec.field F26_2 rfl rfl rfl ?_)
       refine WL_run rfl (Zf rfl (congrArg Value.bool hc104)) rfl (Exec.load_box (hS100) A22 rfl rfl rfl ?_)
       refine WL_run rfl (Zf rfl (congrArg Value.bool hc104)) rfl (Exec.len_rep S22 rfl rfl a176 ?_)
       refine WL_run rfl (Zf rfl (congrArg Value.bool hc104)) rfl (Exec.gtr rfl rfl rfl ?_)
       refine Za rfl rfl (Exec.pick_f (v := Value.bool (decide (4096 < (x174.Costs.length : Int)))) rfl (congrArg Value.bool hc104) rfl ?_)
       refine Za rfl rfl (Exec.move (v := Value.bool (decide (4096 < (x174.Costs.length : Int)))) rfl rfl ?_)
       by_cases hc105 : (decide (4096 < (x174.Costs.length : Int))) = true
       ·refine Zl rfl (Zf rfl (congrArg Value.bool hc105)) rfl rfl ?_
        refine Zl rfl (Zf rfl (congrArg Value.bool hc105)) rfl rfl ?_
        refine Zl rfl (Zf rfl (congrArg Value.bool hc105)) rfl rfl ?_
        refine Zl rfl (Zf rfl (congrArg Value.bool hc105)) rfl rfl ?_
        refine Za rfl rfl (Exec.pick_t (v := Value.bool (true)) rfl (congrArg Value.bool hc105) rfl ?_)
        refine Zb (Ze ?_)
        exact ⟨s, (PHeap.le_refl _), hS100, rfl, (congrArg Value.bool (Eq.trans (or_f hc100) (Eq.trans (or_f hc101) (Eq.trans (or_f hc102) (Eq.trans (or_f hc103) (Eq.trans (or_f hc104) (or_t hc105))))))).symm⟩
       ·replace hc105 := Zk hc105
        refine WL_run rfl (Zf rfl (congrArg Value.bool hc105)) rfl (Exec.field F26_3 rfl rfl rfl ?_)
        refine WL_run rfl (Zf rfl (congrArg Value.bool hc105)) rfl (Exec.load_box (hS100) A23 rfl rfl rfl ?_)
        refine WL_run rfl (Zf rfl (congrArg Value.bool hc105)) rfl (Exec.len_rep S23 rfl rfl a178 ?_)
        refine WL_run rfl (Zf rfl (congrArg Value.bool hc105)) rfl (Exec.gtr rfl rfl rfl ?_)
        refine Za rfl rfl (Exec.pick_f (v := Value.bool (decide (65536 < (x174.Edges.length : Int)))) rfl (congrArg Value.bool hc105) rfl ?_)
        refine Zb (Ze ?_)
        exact ⟨s, (PHeap.le_refl _), hS100, rfl, (congrArg Value.bool (Eq.trans (or_f hc100) (Eq.trans (or_f hc101) (Eq.trans (or_f hc102) (Eq.trans (or_f hc103) (Eq.trans (or_f hc104) (or_f hc105))))))).symm⟩
 ·intro f100 w101 hM100
  obtain ⟨s102, l100, hS101, p100, p101⟩ := hM100
  refine (Ze ?_)
  rcases ite_some hm with ⟨hc106, hm⟩ | ⟨hc106, hm⟩
  ·refine W_cond_t p101 hc106 ?_
   refine Zc ?_
   refine Zd ?_
   refine Za rfl rfl (Exec.assign (v := Value.bool (false)) rfl rfl ?_)
   refine Zb (Ze ?_)
   refine W_ret (at_ret ?_)
   have e100 := Zu hm
   subst r
   refine ⟨_, ret1 rfl, ?_⟩
   have hS102 := (hS101).drop
   exact ⟨s102, l100, hS102, rfl⟩
  ·refine W_cond_f p101 hc106 ?_
   replace hc106 := Zk hc106
   refine W_skip (Ze ?_)
   refine Zc ?_
   refine Zc ?_
   refine Zd ?_
   refine Za rfl rfl (Exec.field F26_2 rfl p100 rfl ?_)
   refine Za rfl rfl (Exec.load_box (hS101) A22 rfl rfl rfl ?_)
   refine Za rfl rfl (Exec.len_rep S22 rfl rfl (a176.mono l100) ?_)
   refine Za rfl rfl (Exec.move (v := Value.int .i64 (0)) rfl rfl ?_)
   refine Zb (Ze ?_)
   obtain ⟨c100, hB100, hr100, hn100, hb100⟩ := ctl_some hm
   refine W_mid (M := fun f' w' => ∃ s', (c100 = .next s' ∨ c100 = .brk s') ∧ (fun (_ : Unit) => ∃ (s103 : PHeap) , PHeap.le s102 s103 ∧ St w0 s103 (Res.box b100 26 [Value.int .i64 (x174.States), Value.int .i64 (x174.Init), v175, v177, v179] :: H) w' ∧ f' 1 = Value.pointer (some ⟨b100, 0, none⟩) ∧ f' 48 = v175 ∧ f' 49 = Value.int .i64 ((x174.Costs.length : Int))) s') ?_ ?_
   ·refine W_block (W_forC (fun k' s' f' w' => (fun (_ : Unit) => ∃ (s104 : PHeap) , PHeap.le s102 s104 ∧ St w0 s104 (Res.box b100 26 [Value.int .i64 (x174.States), Value.int .i64 (x174.Init), v175, v177, v179] :: H) w' ∧ f' 1 = Value.pointer (some ⟨b100, 0, none⟩) ∧ f' 48 = v175 ∧ f' 49 = Value.int .i64 ((x174.Costs.length : Int)) ∧ f' 50 = Value.int .i64 (k' : Int)) s') hB100 ?_ ?_ ?_)
    ·exact ⟨s102, (PHeap.le_refl _), hS101, p100, rfl, rfl, rfl⟩
    ·intro i100 t100 c101 f101 w102 hi100 hI100 hm100 hres100
     obtain ⟨s105, l101, hS103, p102, p103, p104, x100⟩ := hI100
     refine Zc ?_
     refine Zd ?_
     refine Za rfl rfl (Exec.lss rfl x100 p104 ?_)
     refine Zb (Ze ?_)
     refine Zc ?_
     refine W_true (congrArg Value.bool (decide_eq_true (by omega))) ?_
     refine W_skip (Ze ?_)
     refine Zc ?_
     refine W_block ?_
     refine Zc ?_
     refine Zd ?_
     obtain ⟨x101, q100, hm100⟩ := Zg hm100
     refine Za rfl rfl (Exec.index_rep S22 rfl p103 x100 (a176.mono (Zt l100 l101)) q100 ?_)
     intro b101 o100 a100
     refine Za rfl rfl (Exec.load_at (E := (encInt .i64)) hS103 A3 rfl rfl rfl a100 ?_)
     intro v100 q101
     obtain rfl := encInt_val.1 q101
     refine Za rfl rfl (Exec.assign (v := Value.int .i64 (x101)) rfl rfl ?_)
     refine Zb (Ze ?_)
     refine Zc ?_
     refine W_mid (M := fun f' w' => ∃ (s106 : PHeap) , PHeap.le s105 s106 ∧ St w0 s106 (Res.box b100 26 [Value.int .i64 (x174.States), Value.int .i64 (x174.Init), v175, v177, v179] :: H) w' ∧ f' 1 = Value.pointer (some ⟨b100, 0, none⟩) ∧ f' 48 = v175 ∧ f' 49 = Value.int .i64 ((x174.Costs.length : Int)) ∧ f' 50 = Value.int .i64 ((i100 : Int)) ∧ f' 59 = Value.bool (((decide (x101 < 0)) || decide (1048576 < x101)))) ?_ ?_
     ·refine Zd ?_
      refine Za rfl rfl (Exec.move (v := Value.int .i64 (x101)) rfl rfl ?_)
      refine Za rfl rfl (Exec.lss rfl rfl rfl ?_)
      refine Za rfl rfl (Exec.move (v := Value.bool (decide (x101 < 0))) rfl rfl ?_)
      by_cases hc107 : (decide (x101 < 0)) = true
      ·refine Zl rfl (Zf rfl (congrArg Value.bool hc107)) rfl rfl ?_
       refine Zl rfl (Zf rfl (congrArg Value.bool hc107)) rfl rfl ?_
       refine Za rfl rfl (Exec.pick_t (v := Value.bool (true)) rfl (congrArg Value.bool hc107) rfl ?_)
       refine Zb (Ze ?_)
       exact ⟨s105, (PHeap.le_refl _), hS103, p102, p103, p104, x100, (congrArg Value.bool (or_t hc107)).symm⟩
      ·replace hc107 := Zk hc107
       refine WL_run rfl (Zf rfl (congrArg Value.bool hc107)) rfl (Exec.move (v := Value.int .i64 (x101)) rfl rfl ?_)
       refine WL_run rfl (Zf rfl (congrArg Value.bool hc107)) rfl (Exec.gtr rfl rfl rfl ?_)
       refine Za rfl rfl (Exec.pick_f (v := Value.bool (decide (1048576 < x101))) rfl (congrArg Value.bool hc107) rfl ?_)
       refine Zb (Ze ?_)
       exact ⟨s105, (PHeap.le_refl _), hS103, p102, p103, p104, x100, (congrArg Value.bool (or_f hc107)).symm⟩
     ·intro f102 w103 hM101
      obtain ⟨s107, l102, hS104, p105, p106, p107, p108, p109⟩ := hM101
      refine (Ze ?_)
      rcases ite_some hm100 with ⟨hc108, hm100⟩ | ⟨hc108, hm100⟩
      ·refine W_cond_t p109 hc108 ?_
       refine Zc ?_
       refine Zd ?_
       refine Za rfl rfl (Exec.assign (v := Value.bool (false)) rfl rfl ?_)
       refine Zb (Ze ?_)
       refine W_ret (ib_ret (at_ret (at_ret (ib_ret (at_ret (at_ret ?_))))))
       have e101 := Zu hm100
       subst c101
       have hq100 := hr100 _ (hres100 (by intro _ h; cases h))
       have e102 := Zu hq100
       subst r
       refine ⟨_, ret1 rfl, ?_⟩
       have hS105 := (hS104).drop
       exact ⟨s107, (Zt (Zt l100 l101) l102), hS105, rfl⟩
      ·refine W_cond_f p109 hc108 ?_
       replace hc108 := Zk hc108
       refine W_skip (ib_normal (Ze ?_))
       refine Zd ?_
       refine Za rfl rfl (Exec.add rfl p108 rfl ?_)
       refine Za rfl rfl (Exec.move (v := Value.int .i64 (IntKind.i64.wrap ((i100 : Int) + 1))) rfl rfl ?_)
       refine Zb (Ze ?_)
       have e103 := Zu hm100
       subst c101
       refine ⟨_, rfl, ?_⟩; exact ⟨s107, (Zt l101 l102), hS104, p105, p106, p107, (Eq.trans rfl (wrap_up hi100 (SliceRep.le (a176.mono l100))))⟩
    ·intro t101 f103 w104 hI101 hres101
     obtain ⟨s108, l103, hS106, p110, p111, p112, x102⟩ := hI101
     refine Zc ?_
     refine Zd ?_
     refine Za rfl rfl (Exec.lss rfl x102 p112 ?_)
     refine Zb (Ze ?_)
     refine Zc ?_
     refine W_false (congrArg Value.bool (decide_eq_false (by omega))) ?_
     refine W_exit (at_exit (at_exit (ib_here (Ze ?_))))
     refine ⟨_, .inl hres101, ?_⟩; exact ⟨s108, l103, hS106, p110, p111, p112⟩
   ·rintro f104 w105 ⟨t102, hc109, hM102⟩
    have hm := hc109.elim (hn100 _) (hb100 _)
    clear hc109
    obtain ⟨s109, l104, hS107, p113, p114, p115⟩ := hM102
    refine (Ze ?_)
    refine Zc ?_
    refine Zc ?_
    refine Zd ?_
    refine Za rfl rfl (Exec.field F26_3 rfl p113 rfl ?_)
    refine Za rfl rfl (Exec.load_box (hS107) A23 rfl rfl rfl ?_)
    refine Za rfl rfl (Exec.len_rep S23 rfl rfl (a178.mono (Zt l100 l104)) ?_)
    refine Za rfl rfl (Exec.move (v := Value.int .i64 (0)) rfl rfl ?_)
    refine Zb (Ze ?_)
    obtain ⟨c102, hB101, hr101, hn101, hb101⟩ := ctl_some hm
    refine W_mid (M := fun f' w' => ∃ s', (c102 = .next s' ∨ c102 = .brk s') ∧ (fun (_ : Unit) => ∃ (s110 : PHeap) , PHeap.le s109 s110 ∧ St w0 s110 (Res.box b100 26 [Value.int .i64 (x174.States), Value.int .i64 (x174.Init), v175, v177, v179] :: H) w' ∧ f' 1 = Value.pointer (some ⟨b100, 0, none⟩) ∧ f' 62 = v177 ∧ f' 63 = Value.int .i64 ((x174.Edges.length : Int))) s') ?_ ?_
    ·refine W_block (W_forC (fun k' s' f' w' => (fun (_ : Unit) => ∃ (s111 : PHeap) , PHeap.le s109 s111 ∧ St w0 s111 (Res.box b100 26 [Value.int .i64 (x174.States), Value.int .i64 (x174.Init), v175, v177, v179] :: H) w' ∧ f' 1 = Value.pointer (some ⟨b100, 0, none⟩) ∧ f' 62 = v177 ∧ f' 63 = Value.int .i64 ((x174.Edges.length : Int)) ∧ f' 64 = Value.int .i64 (k' : Int)) s') hB101 ?_ ?_ ?_)
     ·exact ⟨s109, (PHeap.le_refl _), hS107, p113, rfl, rfl, rfl⟩
     ·intro i101 t103 c103 f105 w106 hi101 hI102 hm101 hres102
      obtain ⟨s112, l105, hS108, p116, p117, p118, x103⟩ := hI102
      refine Zc ?_
      refine Zd ?_
      refine Za rfl rfl (Exec.lss rfl x103 p118 ?_)
      refine Zb (Ze ?_)
      refine Zc ?_
      refine W_true (congrArg Value.bool (decide_eq_true (by omega))) ?_
      refine W_skip (Ze ?_)
      refine Zc ?_
      refine W_block ?_
      refine Zc ?_
      refine Zd ?_
      refine Za rfl rfl (Exec.move (v := Value.int .i64 ((i101 : Int))) rfl x103 ?_)
      obtain ⟨x104, q102, hm101⟩ := Zg hm101
      refine Za rfl rfl (Exec.index_rep S23 rfl p117 x103 (a178.mono (Zt (Zt l100 l104) l105)) q102 ?_)
      intro b102 o101 a101
      refine Za rfl rfl (Exec.load_at (E := encEdge) hS108 A66 rfl rfl rfl a101 ?_)
      intro v101 q103
      obtain rfl := encEdge_val.1 q103
      refine Za rfl rfl (Exec.alloc (cs := [Value.int .i64 (0), Value.int .i64 (0), Value.int .i64 (0)]) hS108 Z66 rfl rfl ?_)
      intro b103 w107 hS109
      refine Za rfl rfl (Exec.assign (v := Value.int .i64 ((i101 : Int))) rfl rfl ?_)
      refine Za rfl rfl (Exec.store_box (ds := [Value.int .i64 (x104.From), Value.int .i64 (x104.Label), Value.int .i64 (x104.To)]) (es := [Value.int .i64 (x104.From), Value.int .i64 (x104.Label), Value.int .i64 (x104.To)]) hS109 A66 rfl rfl rfl rfl (Zj rfl (Zj rfl (Zj rfl one_nil))) (Nat.le_of_ble_eq_true rfl) rfl ?_)
      intro w108 hS110
      refine Zb (Ze ?_)
      refine Zc ?_
      obtain ⟨z100, ht100, hm101⟩ := Zg hm101
      refine W_mid (M := fun f' w' => (fun (z100 : Bool) => ∃ (s113 : PHeap) , PHeap.le s112 s113 ∧ St w0 s113 (Res.box b100 26 [Value.int .i64 (x174.States), Value.int .i64 (x174.Init), v175, v177, v179] :: H) w' ∧ f' 1 = Value.pointer (some ⟨b100, 0, none⟩) ∧ f' 62 = v177 ∧ f' 63 = Value.int .i64 ((x174.Edges.length : Int)) ∧ f' 64 = Value.int .i64 ((i101 : Int)) ∧ f' 118 = Value.bool (z100)) z100) ?_ ?_
      ·refine W_dl (n0 := 50) (.q 0 (.q 1 (.q 2 (.q 3 (.q 4 (.q 5 (.q 6 (.q 7 (.q 8 (.q 9 (.q 10 (.q 11 (.q 12 (.q 13 (.q 14 (.q 15 (.q 16 (.q 17 (.q 18 (.q 19 (.q 20 (.q 21 (.q 22 (.q 23 (.q 24 (.q 25 (.q 26 (.q 27 (.q 28 (.q 29 (.q 30 (.q 31 (.q 32 (.q 33 (.q 34 (.q 35 (.q 36 (.q 37 (.q 38 (.q 39 (.q 40 (.q 41 (.q 42 (.q 43 (.q 44 (.q 45 (.e 46 [] (.q 47 (.q 48 (.q 49 .done)))))))))))))))))))))))))))))))))))))))))))))))))) hmix (by kernel_rfl) (by kernel_rfl) ?_
       have hS111 := hS110.drew
       refine DL_q rfl rfl (Exec.field F66_0 rfl rfl rfl ⟨rfl, ?_⟩)
       refine DL_q rfl rfl (Exec.load_box (hS111) A3 rfl rfl rfl ⟨rfl, ?_⟩)
       refine DL_q rfl rfl (Exec.lss rfl rfl rfl ⟨rfl, ?_⟩)
       refine DL_q rfl rfl (Exec.move (v := Value.bool (decide (x104.From < 0))) rfl rfl ⟨rfl, ?_⟩)
       rcases ite_some ht100 with ⟨hc110, ht100⟩ | ⟨hc110, ht100⟩
       ·refine DL_qp rfl rfl (Zf rfl (congrArg Value.bool hc110)) rfl ?_
        refine DL_qp rfl rfl (Zf rfl (congrArg Value.bool hc110)) rfl ?_
        refine DL_qp rfl rfl (Zf rfl (congrArg Value.bool hc110)) rfl ?_
        refine DL_qp rfl rfl (Zf rfl (congrArg Value.bool hc110)) rfl ?_
        refine DL_qp rfl rfl (Zf rfl (congrArg Value.bool hc110)) rfl ?_
        refine DL_q rfl rfl (Exec.pick_t (v := Value.bool (true)) rfl (congrArg Value.bool hc110) rfl ⟨rfl, ?_⟩)
        refine DL_q rfl rfl (Exec.move (v := Value.bool (true)) rfl rfl ⟨rfl, ?_⟩)
        refine DL_qp rfl rfl (Zf rfl rfl) rfl ?_
        refine DL_qp rfl rfl (Zf rfl rfl) rfl ?_
        refine DL_qp rfl rfl (Zf rfl rfl) rfl ?_
        refine DL_q rfl rfl (Exec.pick_t (v := Value.bool (true)) rfl rfl rfl ⟨rfl, ?_⟩)
        refine DL_q rfl rfl (Exec.move (v := Value.bool (true)) rfl rfl ⟨rfl, ?_⟩)
        refine DL_qp rfl rfl (Zf rfl rfl) rfl ?_
        refine DL_qp rfl rfl (Zf rfl rfl) rfl ?_
        refine DL_qp rfl rfl (Zf rfl rfl) rfl ?_
        refine DL_qp rfl rfl (Zf rfl rfl) rfl ?_
        refine DL_qp rfl rfl (Zf rfl rfl) rfl ?_
        refine DL_q rfl rfl (Exec.pick_t (v := Value.bool (true)) rfl rfl rfl ⟨rfl, ?_⟩)
        refine DL_q rfl rfl (Exec.move (v := Value.bool (true)) rfl rfl ⟨rfl, ?_⟩)
        refine DL_qp rfl rfl (Zf rfl rfl) rfl ?_
        refine DL_qp rfl rfl (Zf rfl rfl) rfl ?_
        refine DL_qp rfl rfl (Zf rfl rfl) rfl ?_
        refine DL_q rfl rfl (Exec.pick_t (v := Value.bool (true)) rfl rfl rfl ⟨rfl, ?_⟩)
        refine DL_q rfl rfl (Exec.move (v := Value.bool (true)) rfl rfl ⟨rfl, ?_⟩)
        refine DL_qp rfl rfl (Zf rfl rfl) rfl ?_
        refine DL_qp rfl rfl (Zf rfl rfl) rfl ?_
        refine DL_qp rfl rfl (Zf rfl rfl) rfl ?_
        refine DL_qp rfl rfl (Zf rfl rfl) rfl ?_
        refine DL_qp rfl rfl (Zf rfl rfl) rfl ?_
        refine DL_qp rfl rfl (Zf rfl rfl) rfl ?_
        refine DL_q rfl rfl (Exec.pick_t (v := Value.bool (true)) rfl rfl rfl ⟨rfl, ?_⟩)
        refine DL_q rfl rfl (Exec.move (v := Value.bool (true)) rfl rfl ⟨rfl, ?_⟩)
        refine DL_qp rfl rfl (Zf rfl rfl) rfl ?_
        refine DL_qp rfl rfl (Zf rfl rfl) rfl ?_
        refine DL_qp rfl rfl (Zf rfl rfl) rfl ?_
        refine DL_qn rfl rfl (Zh rfl rfl) ?_
        refine DL_qn rfl rfl (Zh rfl rfl) ?_
        refine DL_qn rfl rfl (Zh rfl rfl) ?_
        refine DL_qn rfl rfl (Zh rfl rfl) ?_
        refine DL_qn rfl rfl (Zh rfl rfl) ?_
        refine DL_qn rfl rfl (Zh rfl rfl) ?_
        refine DL_qn rfl rfl (Zh rfl rfl) ?_
        refine DL_en rfl rfl (Zh rfl rfl) ?_
        refine DL_qn rfl rfl (Zh rfl rfl) ?_
        refine DL_qp rfl rfl (Zf rfl rfl) rfl ?_
        refine DL_q rfl rfl (Exec.pick_t (v := Value.bool (true)) rfl rfl rfl ⟨rfl, ?_⟩)
        refine DL_done ?_
        refine Zb (Ze ?_)
        have e104 := Zu ht100
        subst z100
        have hS112 := (hS111).drop
        exact ⟨s112, (PHeap.le_refl _), hS112, p116, p117, p118, x103, rfl⟩
       ·replace hc110 := Zk hc110
        refine DL_qg rfl rfl (Zf rfl (congrArg Value.bool hc110)) (Exec.field F66_0 rfl rfl rfl ⟨rfl, ?_⟩)
        refine DL_qg rfl rfl (Zf rfl (congrArg Value.bool hc110)) (Exec.load_box (hS111) A3 rfl rfl rfl ⟨rfl, ?_⟩)
        refine DL_qg rfl rfl (Zf rfl (congrArg Value.bool hc110)) (Exec.field F26_0 rfl p116 rfl ⟨rfl, ?_⟩)
        refine DL_qg rfl rfl (Zf rfl (congrArg Value.bool hc110)) (Exec.load_box ((hS111).f1) A3 rfl rfl rfl ⟨rfl, ?_⟩)
        refine DL_qg rfl rfl (Zf rfl (congrArg Value.bool hc110)) (Exec.geq rfl rfl rfl ⟨rfl, ?_⟩)
        refine DL_q rfl rfl (Exec.pick_f (v := Value.bool (decide (x174.States ≤ x104.From))) rfl (congrArg Value.bool hc110) rfl ⟨rfl, ?_⟩)
        refine DL_q rfl rfl (Exec.move (v := Value.bool (decide (x174.States ≤ x104.From))) rfl rfl ⟨rfl, ?_⟩)
        rcases ite_some ht100 with ⟨hc111, ht100⟩ | ⟨hc111, ht100⟩
        ·refine DL_qp rfl rfl (Zf rfl (congrArg Value.bool hc111)) rfl ?_
         refine DL_qp rfl rfl (Zf rfl (congrArg Value.bool hc111)) rfl ?_
         refine DL_qp rfl rfl (Zf rfl (congrArg Value.bool hc111)) rfl ?_
         refine DL_q rfl rfl (Exec.pick_t (v := Value.bool (true)) rfl (congrArg Value.bool hc111) rfl ⟨rfl, ?_⟩)
         refine DL_q rfl rfl (Exec.move (v := Value.bool (true)) rfl rfl ⟨rfl, ?_⟩)
         refine DL_qp rfl rfl (Zf rfl rfl) rfl ?_
         refine DL_qp rfl rfl (Zf rfl rfl) rfl ?_
         refine DL_qp rfl rfl (Zf rfl rfl) rfl ?_
         refine DL_qp rfl rfl (Zf rfl rfl) rfl ?_
         refine DL_qp rfl rfl (Zf rfl rfl) rfl ?_
         refine DL_q rfl rfl (Exec.pick_t (v := Value.bool (true)) rfl rfl rfl ⟨rfl, ?_⟩)
         refine DL_q rfl rfl (Exec.move (v := Value.bool (true)) rfl rfl ⟨rfl, ?_⟩)
         refine DL_qp rfl rfl (Zf rfl rfl) rfl ?_
         refine DL_qp rfl rfl (Zf rfl rfl) rfl ?_
         refine DL_qp rfl rfl (Zf rfl rfl) rfl ?_
         refine DL_q rfl rfl (Exec.pick_t (v := Value.bool (true)) rfl rfl rfl ⟨rfl, ?_⟩)
         refine DL_q rfl rfl (Exec.move (v := Value.bool (true)) rfl rfl ⟨rfl, ?_⟩)
         refine DL_qp rfl rfl (Zf rfl rfl) rfl ?_
         refine DL_qp rfl rfl (Zf rfl rfl) rfl ?_
         refine DL_qp rfl rfl (Zf rfl rfl) rfl ?_
         refine DL_qp rfl rfl (Zf rfl rfl) rfl ?_
         refine DL_qp rfl rfl (Zf rfl rfl) rfl ?_
         refine DL_qp rfl rfl (Zf rfl rfl) rfl ?_
         refine DL_q rfl rfl (Exec.pick_t (v := Value.bool (true)) rfl rfl rfl ⟨rfl, ?_⟩)
         refine DL_q rfl rfl (Exec.move (v := Value.bool (true)) rfl rfl ⟨rfl, ?_⟩)
         refine DL_qp rfl rfl (Zf rfl rfl) rfl ?_
         refine DL_qp rfl rfl (Zf rfl rfl) rfl ?_
         refine DL_qp rfl rfl (Zf rfl rfl) rfl ?_
         refine DL_qn rfl rfl (Zh rfl rfl) ?_
         refine DL_qn rfl rfl (Zh rfl rfl) ?_
         refine DL_qn rfl rfl (Zh rfl rfl) ?_
         refine DL_qn rfl rfl (Zh rfl rfl) ?_
         refine DL_qn rfl rfl (Zh rfl rfl) ?_
         refine DL_qn rfl rfl (Zh rfl rfl) ?_
         refine DL_qn rfl rfl (Zh rfl rfl) ?_
         refine DL_en rfl rfl (Zh rfl rfl) ?_
         refine DL_qn rfl rfl (Zh rfl rfl) ?_
         refine DL_qp rfl rfl (Zf rfl rfl) rfl ?_
         refine DL_q rfl rfl (Exec.pick_t (v := Value.bool (true)) rfl rfl rfl ⟨rfl, ?_⟩)
         refine DL_done ?_
         refine Zb (Ze ?_)
         have e105 := Zu ht100
         subst z100
         have hS113 := (hS111).drop
         exact ⟨s112, (PHeap.le_refl _), hS113, p116, p117, p118, x103, rfl⟩
        ·replace hc111 := Zk hc111
         refine DL_qg rfl rfl (Zf rfl (congrArg Value.bool hc111)) (Exec.field F66_2 rfl rfl rfl ⟨rfl, ?_⟩)
         refine DL_qg rfl rfl (Zf rfl (congrArg Value.bool hc111)) (Exec.load_box (hS111) A3 rfl rfl rfl ⟨rfl, ?_⟩)
         refine DL_qg rfl rfl (Zf rfl (congrArg Value.bool hc111)) (Exec.lss rfl rfl rfl ⟨rfl, ?_⟩)
         refine DL_q rfl rfl (Exec.pick_f (v := Value.bool (decide (x104.To < 0))) rfl (congrArg Value.bool hc111) rfl ⟨rfl, ?_⟩)
         refine DL_q rfl rfl (Exec.move (v := Value.bool (decide (x104.To < 0))) rfl rfl ⟨rfl, ?_⟩)
         rcases ite_some ht100 with ⟨hc112, ht100⟩ | ⟨hc112, ht100⟩
         ·refine DL_qp rfl rfl (Zf rfl (congrArg Value.bool hc112)) rfl ?_
          refine DL_qp rfl rfl (Zf rfl (congrArg Value.bool hc112)) rfl ?_
          refine DL_qp rfl rfl (Zf rfl (congrArg Value.bool hc112)) rfl ?_
          refine DL_qp rfl rfl (Zf rfl (congrArg Value.bool hc112)) rfl ?_
          refine DL_qp rfl rfl (Zf rfl (congrArg Value.bool hc112)) rfl ?_
          refine DL_q rfl rfl (Exec.pick_t (v := Value.bool (true)) rfl (congrArg Value.bool hc112) rfl ⟨rfl, ?_⟩)
          refine DL_q rfl rfl (Exec.move (v := Value.bool (true)) rfl rfl ⟨rfl, ?_⟩)
          refine DL_qp rfl rfl (Zf rfl rfl) rfl ?_
          refine DL_qp rfl rfl (Zf rfl rfl) rfl ?_
          refine DL_qp rfl rfl (Zf rfl rfl) rfl ?_
          refine DL_q rfl rfl (Exec.pick_t (v := Value.bool (true)) rfl rfl rfl ⟨rfl, ?_⟩)
          refine DL_q rfl rfl (Exec.move (v := Value.bool (true)) rfl rfl ⟨rfl, ?_⟩)
          refine DL_qp rfl rfl (Zf rfl rfl) rfl ?_
          refine DL_qp rfl rfl (Zf rfl rfl) rfl ?_
          refine DL_qp rfl rfl (Zf rfl rfl) rfl ?_
          refine DL_qp rfl rfl (Zf rfl rfl) rfl ?_
          refine DL_qp rfl rfl (Zf rfl rfl) rfl ?_
          refine DL_qp rfl rfl (Zf rfl rfl) rfl ?_
          refine DL_q rfl rfl (Exec.pick_t (v := Value.bool (true)) rfl rfl rfl ⟨rfl, ?_⟩)
          refine DL_q rfl rfl (Exec.move (v := Value.bool (true)) rfl rfl ⟨rfl, ?_⟩)
          refine DL_qp rfl rfl (Zf rfl rfl) rfl ?_
          refine DL_qp rfl rfl (Zf rfl rfl) rfl ?_
          refine DL_qp rfl rfl (Zf rfl rfl) rfl ?_
          refine DL_qn rfl rfl (Zh rfl rfl) ?_
          refine DL_qn rfl rfl (Zh rfl rfl) ?_
          refine DL_qn rfl rfl (Zh rfl rfl) ?_
          refine DL_qn rfl rfl (Zh rfl rfl) ?_
          refine DL_qn rfl rfl (Zh rfl rfl) ?_
          refine DL_qn rfl rfl (Zh rfl rfl) ?_
          refine DL_qn rfl rfl (Zh rfl rfl) ?_
          refine DL_en rfl rfl (Zh rfl rfl) ?_
          refine DL_qn rfl rfl (Zh rfl rfl) ?_
          refine DL_qp rfl rfl (Zf rfl rfl) rfl ?_
          refine DL_q rfl rfl (Exec.pick_t (v := Value.bool (true)) rfl rfl rfl ⟨rfl, ?_⟩)
          refine DL_done ?_
          refine Zb (Ze ?_)
          have e106 := Zu ht100
          subst z100
          have hS114 := (hS111).drop
          exact ⟨s112, (PHeap.le_refl _), hS114, p116, p117, p118, x103, rfl⟩
         ·replace hc112 := Zk hc112
          refine DL_qg rfl rfl (Zf rfl (congrArg Value.bool hc112)) (Exec.field F66_2 rfl rfl rfl ⟨rfl, ?_⟩)
          refine DL_qg rfl rfl (Zf rfl (congrArg Value.bool hc112)) (Exec.load_box (hS111) A3 rfl rfl rfl ⟨rfl, ?_⟩)
          refine DL_qg rfl rfl (Zf rfl (congrArg Value.bool hc112)) (Exec.field F26_0 rfl p116 rfl ⟨rfl, ?_⟩)
          refine DL_qg rfl rfl (Zf rfl (congrArg Value.bool hc112)) (Exec.load_box ((hS111).f1) A3 rfl rfl rfl ⟨rfl, ?_⟩)
          refine DL_qg rfl rfl (Zf rfl (congrArg Value.bool hc112)) (Exec.geq rfl rfl rfl ⟨rfl, ?_⟩)
          refine DL_q rfl rfl (Exec.pick_f (v := Value.bool (decide (x174.States ≤ x104.To))) rfl (congrArg Value.bool hc112) rfl ⟨rfl, ?_⟩)
          refine DL_q rfl rfl (Exec.move (v := Value.bool (decide (x174.States ≤ x104.To))) rfl rfl ⟨rfl, ?_⟩)
          rcases ite_some ht100 with ⟨hc113, ht100⟩ | ⟨hc113, ht100⟩
          ·refine DL_qp rfl rfl (Zf rfl (congrArg Value.bool hc113)) rfl ?_
           refine DL_qp rfl rfl (Zf rfl (congrArg Value.bool hc113)) rfl ?_
           refine DL_qp rfl rfl (Zf rfl (congrArg Value.bool hc113)) rfl ?_
           refine DL_q rfl rfl (Exec.pick_t (v := Value.bool (true)) rfl (congrArg Value.bool hc113) rfl ⟨rfl, ?_⟩)
           refine DL_q rfl rfl (Exec.move (v := Value.bool (true)) rfl rfl ⟨rfl, ?_⟩)
           refine DL_qp rfl rfl (Zf rfl rfl) rfl ?_
           refine DL_qp rfl rfl (Zf rfl rfl) rfl ?_
           refine DL_qp rfl rfl (Zf rfl rfl) rfl ?_
           refine DL_qp rfl rfl (Zf rfl rfl) rfl ?_
           refine DL_qp rfl rfl (Zf rfl rfl) rfl ?_
           refine DL_qp rfl rfl (Zf rfl rfl) rfl ?_
           refine DL_q rfl rfl (Exec.pick_t (v := Value.bool (true)) rfl rfl rfl ⟨rfl, ?_⟩)
           refine DL_q rfl rfl (Exec.move (v := Value.bool (true)) rfl rfl ⟨rfl, ?_⟩)
           refine DL_qp rfl rfl (Zf rfl rfl) rfl ?_
           refine DL_qp rfl rfl (Zf rfl rfl) rfl ?_
           refine DL_qp rfl rfl (Zf rfl rfl) rfl ?_
           refine DL_qn rfl rfl (Zh rfl rfl) ?_
           refine DL_qn rfl rfl (Zh rfl rfl) ?_
           refine DL_qn rfl rfl (Zh rfl rfl) ?_
           refine DL_qn rfl rfl (Zh rfl rfl) ?_
           refine DL_qn rfl rfl (Zh rfl rfl) ?_
           refine DL_qn rfl rfl (Zh rfl rfl) ?_
           refine DL_qn rfl rfl (Zh rfl rfl) ?_
           refine DL_en rfl rfl (Zh rfl rfl) ?_
           refine DL_qn rfl rfl (Zh rfl rfl) ?_
           refine DL_qp rfl rfl (Zf rfl rfl) rfl ?_
           refine DL_q rfl rfl (Exec.pick_t (v := Value.bool (true)) rfl rfl rfl ⟨rfl, ?_⟩)
           refine DL_done ?_
           refine Zb (Ze ?_)
           have e107 := Zu ht100
           subst z100
           have hS115 := (hS111).drop
           exact ⟨s112, (PHeap.le_refl _), hS115, p116, p117, p118, x103, rfl⟩
          ·replace hc113 := Zk hc113
           refine DL_qg rfl rfl (Zf rfl (congrArg Value.bool hc113)) (Exec.field F66_1 rfl rfl rfl ⟨rfl, ?_⟩)
           refine DL_qg rfl rfl (Zf rfl (congrArg Value.bool hc113)) (Exec.load_box (hS111) A3 rfl rfl rfl ⟨rfl, ?_⟩)
           refine DL_qg rfl rfl (Zf rfl (congrArg Value.bool hc113)) (Exec.lss rfl rfl rfl ⟨rfl, ?_⟩)
           refine DL_q rfl rfl (Exec.pick_f (v := Value.bool (decide (x104.Label < 0))) rfl (congrArg Value.bool hc113) rfl ⟨rfl, ?_⟩)
           refine DL_q rfl rfl (Exec.move (v := Value.bool (decide (x104.Label < 0))) rfl rfl ⟨rfl, ?_⟩)
           rcases ite_some ht100 with ⟨hc114, ht100⟩ | ⟨hc114, ht100⟩
           ·refine DL_qp rfl rfl (Zf rfl (congrArg Value.bool hc114)) rfl ?_
            refine DL_qp rfl rfl (Zf rfl (congrArg Value.bool hc114)) rfl ?_
            refine DL_qp rfl rfl (Zf rfl (congrArg Value.bool hc114)) rfl ?_
            refine DL_qp rfl rfl (Zf rfl (congrArg Value.bool hc114)) rfl ?_
            refine DL_qp rfl rfl (Zf rfl (congrArg Value.bool hc114)) rfl ?_
            refine DL_qp rfl rfl (Zf rfl (congrArg Value.bool hc114)) rfl ?_
            refine DL_q rfl rfl (Exec.pick_t (v := Value.bool (true)) rfl (congrArg Value.bool hc114) rfl ⟨rfl, ?_⟩)
            refine DL_q rfl rfl (Exec.move (v := Value.bool (true)) rfl rfl ⟨rfl, ?_⟩)
            refine DL_qp rfl rfl (Zf rfl rfl) rfl ?_
            refine DL_qp rfl rfl (Zf rfl rfl) rfl ?_
            refine DL_qp rfl rfl (Zf rfl rfl) rfl ?_
            refine DL_qn rfl rfl (Zh rfl rfl) ?_
            refine DL_qn rfl rfl (Zh rfl rfl) ?_
            refine DL_qn rfl rfl (Zh rfl rfl) ?_
            refine DL_qn rfl rfl (Zh rfl rfl) ?_
            refine DL_qn rfl rfl (Zh rfl rfl) ?_
            refine DL_qn rfl rfl (Zh rfl rfl) ?_
            refine DL_qn rfl rfl (Zh rfl rfl) ?_
            refine DL_en rfl rfl (Zh rfl rfl) ?_
            refine DL_qn rfl rfl (Zh rfl rfl) ?_
            refine DL_qp rfl rfl (Zf rfl rfl) rfl ?_
            refine DL_q rfl rfl (Exec.pick_t (v := Value.bool (true)) rfl rfl rfl ⟨rfl, ?_⟩)
            refine DL_done ?_
            refine Zb (Ze ?_)
            have e108 := Zu ht100
            subst z100
            have hS116 := (hS111).drop
            exact ⟨s112, (PHeap.le_refl _), hS116, p116, p117, p118, x103, rfl⟩
           ·replace hc114 := Zk hc114
            refine DL_qg rfl rfl (Zf rfl (congrArg Value.bool hc114)) (Exec.field F66_1 rfl rfl rfl ⟨rfl, ?_⟩)
            refine DL_qg rfl rfl (Zf rfl (congrArg Value.bool hc114)) (Exec.load_box (hS111) A3 rfl rfl rfl ⟨rfl, ?_⟩)
            refine DL_qg rfl rfl (Zf rfl (congrArg Value.bool hc114)) (Exec.field F26_2 rfl p116 rfl ⟨rfl, ?_⟩)
            refine DL_qg rfl rfl (Zf rfl (congrArg Value.bool hc114)) (Exec.load_box ((hS111).f1) A22 rfl rfl rfl ⟨rfl, ?_⟩)
            refine DL_qg rfl rfl (Zf rfl (congrArg Value.bool hc114)) (Exec.len_rep S22 rfl rfl (a176.mono (Zt (Zt l100 l104) l105)) ⟨rfl, ?_⟩)
            refine DL_qg rfl rfl (Zf rfl (congrArg Value.bool hc114)) (Exec.geq rfl rfl rfl ⟨rfl, ?_⟩)
            refine DL_q rfl rfl (Exec.pick_f (v := Value.bool (decide ((x174.Costs.length : Int) ≤ x104.Label))) rfl (congrArg Value.bool hc114) rfl ⟨rfl, ?_⟩)
            refine DL_q rfl rfl (Exec.move (v := Value.bool (decide ((x174.Costs.length : Int) ≤ x104.Label))) rfl rfl ⟨rfl, ?_⟩)
            rcases ite_some ht100 with ⟨hc115, ht100⟩ | ⟨hc115, ht100⟩
            ·refine DL_qp rfl rfl (Zf rfl (congrArg Value.bool hc115)) rfl ?_
             refine DL_qp rfl rfl (Zf rfl (congrArg Value.bool hc115)) rfl ?_
             refine DL_qp rfl rfl (Zf rfl (congrArg Value.bool hc115)) rfl ?_
             refine DL_qn rfl rfl (Zh rfl rfl) ?_
             refine DL_qn rfl rfl (Zh rfl rfl) ?_
             refine DL_qn rfl rfl (Zh rfl rfl) ?_
             refine DL_qn rfl rfl (Zh rfl rfl) ?_
             refine DL_qn rfl rfl (Zh rfl rfl) ?_
             refine DL_qn rfl rfl (Zh rfl rfl) ?_
             refine DL_qn rfl rfl (Zh rfl rfl) ?_
             refine DL_en rfl rfl (Zh rfl rfl) ?_
             refine DL_qn rfl rfl (Zh rfl rfl) ?_
             refine DL_qp rfl rfl (Zf rfl (congrArg Value.bool hc115)) rfl ?_
             refine DL_q rfl rfl (Exec.pick_t (v := Value.bool (true)) rfl (congrArg Value.bool hc115) rfl ⟨rfl, ?_⟩)
             refine DL_done ?_
             refine Zb (Ze ?_)
             have e109 := Zu ht100
             subst z100
             have hS117 := (hS111).drop
             exact ⟨s112, (PHeap.le_refl _), hS117, p116, p117, p118, x103, rfl⟩
            ·replace hc115 := Zk hc115
             refine DL_qg rfl rfl (Zf rfl (congrArg Value.bool hc115)) (Exec.move (v := Value.int .i64 ((i101 : Int))) rfl rfl ⟨rfl, ?_⟩)
             refine DL_qg rfl rfl (Zf rfl (congrArg Value.bool hc115)) (Exec.gtr rfl rfl rfl ⟨rfl, ?_⟩)
             refine DL_qg rfl rfl (Zf rfl (congrArg Value.bool hc115)) (Exec.move (v := Value.bool (decide (0 < (i101 : Int)))) rfl rfl ⟨rfl, ?_⟩)
             rcases ite_some ht100 with ⟨hc116, ht100⟩ | ⟨hc116, ht100⟩
             ·refine DL_qg rfl rfl (Zf rfl (congrArg Value.bool hc116)) (Exec.field F26_3 rfl p116 rfl ⟨rfl, ?_⟩)
              refine DL_qg rfl rfl (Zf rfl (congrArg Value.bool hc116)) (Exec.load_box ((hS111).f1) A23 rfl rfl rfl ⟨rfl, ?_⟩)
              refine DL_qg rfl rfl (Zf rfl (congrArg Value.bool hc116)) (Exec.move (v := Value.int .i64 ((i101 : Int))) rfl rfl ⟨rfl, ?_⟩)
              refine DL_qg rfl rfl (Zf rfl (congrArg Value.bool hc116)) (Exec.sub rfl rfl rfl ⟨rfl, ?_⟩)
              obtain ⟨x105, q104, ht100⟩ := Zg ht100
              refine DL_qg rfl rfl (Zf rfl (congrArg Value.bool hc116)) (Exec.index_repE S23 rfl rfl rfl (a178.mono (Zt (Zt l100 l104) l105)) q104 ?_)
              intro b104 o102 a102 e110
              refine ⟨rfl, ?_⟩
              refine DL_qg rfl rfl (Zf rfl (congrArg Value.bool hc116)) (Exec.load_at (E := encEdge) hS111 A66 rfl rfl rfl a102 ?_)
              intro v102 q105
              obtain rfl := encEdge_val.1 q105
              refine ⟨rfl, ?_⟩
              refine DL_qg rfl rfl (Zf rfl (congrArg Value.bool hc116)) (Exec.load_box_agg (ds := [Value.int .i64 (x104.From), Value.int .i64 (x104.Label), Value.int .i64 (x104.To)]) (hS111) A66 rfl rfl rfl ⟨rfl, ?_⟩)
              obtain ⟨y101, q106, ht100⟩ := Zg ht100
              refine DL_eg rfl rfl (Zf rfl (congrArg Value.bool hc116)) (Exec.call rfl rfl Try.func39 rfl N39 (Zi rfl (Zi rfl args_nil)) ((transys_compare_sim q106 hS111 ).mono ?_))
              rintro _ w109 ⟨_, rfl, ⟨s114, l106, hS118, rfl⟩⟩
              refine ⟨_, rfl, ?_⟩
              refine ⟨ag_nil, ?_⟩
              refine DL_qg rfl rfl (Zf rfl (congrArg Value.bool hc116)) (Exec.geq rfl rfl rfl ⟨rfl, ?_⟩)
              refine DL_qg rfl rfl (Zf rfl (congrArg Value.bool hc115)) (Exec.pick_t (v := Value.bool (decide (0 ≤ y101))) rfl (congrArg Value.bool hc116) rfl ⟨rfl, ?_⟩)
              refine DL_q rfl rfl (Exec.pick_f (v := Value.bool (decide (0 ≤ y101))) rfl (congrArg Value.bool hc115) rfl ⟨rfl, ?_⟩)
              refine DL_done ?_
              refine Zb (Ze ?_)
              have e111 := Zu ht100
              subst z100
              have hS119 := (hS118).drop
              exact ⟨s114, l106, hS119, p116, p117, p118, x103, rfl⟩
             ·replace hc116 := Zk hc116
              refine DL_qp rfl rfl (Zf rfl (congrArg Value.bool hc116)) rfl ?_
              refine DL_qp rfl rfl (Zf rfl (congrArg Value.bool hc116)) rfl ?_
              refine DL_qp rfl rfl (Zf rfl (congrArg Value.bool hc116)) rfl ?_
              refine DL_qp rfl rfl (Zf rfl (congrArg Value.bool hc116)) rfl ?_
              refine DL_qp rfl rfl (Zf rfl (congrArg Value.bool hc116)) rfl ?_
              refine DL_qp rfl rfl (Zf rfl (congrArg Value.bool hc116)) rfl ?_
              refine DL_qp rfl rfl (Zf rfl (congrArg Value.bool hc116)) rfl ?_
              refine DL_ep rfl rfl (Zf rfl (congrArg Value.bool hc116)) rfl ?_
              refine DL_qp rfl rfl (Zf rfl (congrArg Value.bool hc116)) rfl ?_
              refine DL_qg rfl rfl (Zf rfl (congrArg Value.bool hc115)) (Exec.pick_f (v := Value.bool (false)) rfl (congrArg Value.bool hc116) rfl ⟨rfl, ?_⟩)
              refine DL_q rfl rfl (Exec.pick_f (v := Value.bool (false)) rfl (congrArg Value.bool hc115) rfl ⟨rfl, ?_⟩)
              refine DL_done ?_
              refine Zb (Ze ?_)
              have e112 := Zu ht100
              subst z100
              have hS120 := (hS111).drop
              exact ⟨s112, (PHeap.le_refl _), hS120, p116, p117, p118, x103, rfl⟩
      ·intro f106 w110 hM103
       obtain ⟨s115, l107, hS121, p119, p120, p121, p122, p123⟩ := hM103
       refine (Ze ?_)
       rcases ite_some hm101 with ⟨hc117, hm101⟩ | ⟨hc117, hm101⟩
       ·refine W_cond_t p123 hc117 ?_
        refine Zc ?_
        refine Zd ?_
        refine Za rfl rfl (Exec.assign (v := Value.bool (false)) rfl rfl ?_)
        refine Zb (Ze ?_)
        refine W_ret (ib_ret (at_ret (at_ret (ib_ret (at_ret (at_ret ?_))))))
        have e113 := Zu hm101
        subst c103
        have hq101 := hr101 _ (hres102 (by intro _ h; cases h))
        have e114 := Zu hq101
        subst r
        refine ⟨_, ret1 rfl, ?_⟩
        have hS122 := (hS121).drop
        exact ⟨s115, (Zt (Zt (Zt l100 l104) l105) l107), hS122, rfl⟩
       ·refine W_cond_f p123 hc117 ?_
        replace hc117 := Zk hc117
        refine W_skip (ib_normal (Ze ?_))
        refine Zd ?_
        refine Za rfl rfl (Exec.add rfl p122 rfl ?_)
        refine Za rfl rfl (Exec.move (v := Value.int .i64 (IntKind.i64.wrap ((i101 : Int) + 1))) rfl rfl ?_)
        refine Zb (Ze ?_)
        have e115 := Zu hm101
        subst c103
        refine ⟨_, rfl, ?_⟩; exact ⟨s115, (Zt l105 l107), hS121, p119, p120, p121, (Eq.trans rfl (wrap_up hi101 (SliceRep.le (a178.mono (Zt l100 l104)))))⟩
     ·intro t104 f107 w111 hI103 hres103
      obtain ⟨s116, l108, hS123, p124, p125, p126, x106⟩ := hI103
      refine Zc ?_
      refine Zd ?_
      refine Za rfl rfl (Exec.lss rfl x106 p126 ?_)
      refine Zb (Ze ?_)
      refine Zc ?_
      refine W_false (congrArg Value.bool (decide_eq_false (by omega))) ?_
      refine W_exit (at_exit (at_exit (ib_here (Ze ?_))))
      refine ⟨_, .inl hres103, ?_⟩; exact ⟨s116, l108, hS123, p124, p125, p126⟩
    ·rintro f108 w112 ⟨t105, hc118, hM104⟩
     have hm := hc118.elim (hn101 _) (hb101 _)
     clear hc118
     obtain ⟨s117, l109, hS124, p127, p128, p129⟩ := hM104
     refine (Ze ?_)
     refine Zc ?_
     refine Zd ?_
     refine Za rfl rfl (Exec.assign (v := Value.bool (true)) rfl rfl ?_)
     refine Zb (Ze ?_)
     refine W_ret ?_
     have e116 := Zu hm
     subst r
     refine ⟨_, ret1 rfl, ?_⟩
     have hS125 := (hS124).drop
     exact ⟨s117, (Zt (Zt l100 l104) l109), hS125, rfl⟩

theorem N35 : (Try.f35.name == "runtime.NumGoroutine") = false := by kernel_rfl

theorem slices_Equal___int_int__sim {w0 w : World} {s : PHeap} {H : List Res} {s100 : (List Int)} {s101 : (List Int)} {v100 : Value} {v101 : Value} {r : Bool} (hm : slices_Equal___int_int__p s100 s101 = some r) (hS : St w0 s (H) w) (a100 : SliceRep (encInt .i64) s v100 s100) (a101 : SliceRep (encInt .i64) s v101 s101) :
  Calls Try.prog 35 #[v100, v101] w fun e w' => ∃ v, e = .returned v ∧ ((fun (y100 : Bool) => ∃ (s102 : PHeap) , PHeap.le s s102 ∧ St w0 s102 (H) w' ∧ v = Value.bool (y100)) r) := by
 unfold slices_Equal___int_int__p at hm
 refine calls_of_W Try.func35 rfl rfl ?_
 refine Zc ?_
 refine Zd ?_
 refine Za rfl rfl (Exec.assign (v := Value.bool (false)) rfl rfl ?_)
 refine Zb (Ze ?_)
 refine Zc ?_
 refine Zc ?_
 refine Zd ?_
 refine Za rfl rfl (Exec.move (v := v100) rfl rfl ?_)
 refine Za rfl rfl (Exec.len_rep S22 rfl rfl a100 ?_)
 refine Za rfl rfl (Exec.move (v := v101) rfl rfl ?_)
 refine Za rfl rfl (Exec.len_rep S22 rfl rfl a101 ?_)
 refine Za rfl rfl (Exec.neq rfl rfl rfl ?_)
 refine Zb (Ze ?_)
 rcases ite_some hm with ⟨hc100, hm⟩ | ⟨hc100, hm⟩
 ·refine W_cond_t rfl hc100 ?_
  refine Zc ?_
  refine Zd ?_
  refine Za rfl rfl (Exec.assign (v := Value.bool (false)) rfl rfl ?_)
  refine Zb (Ze ?_)
  refine W_ret (at_ret ?_)
  have e100 := Zu hm
  subst r
  refine ⟨_, ret1 rfl, ?_⟩
  exact ⟨s, (PHeap.le_refl _), hS, rfl⟩
 ·refine W_cond_f rfl hc100 ?_
  replace hc100 := Zk hc100
  refine W_skip (Ze ?_)
  refine Zc ?_
  refine Zc ?_
  refine Zd ?_
  refine Za rfl rfl (Exec.move (v := v100) rfl rfl ?_)
  refine Za rfl rfl (Exec.len_rep S22 rfl rfl a100 ?_)
  refine Za rfl rfl (Exec.move (v := Value.int .i64 (0)) rfl rfl ?_)
  refine Zb (Ze ?_)
  obtain ⟨c100, hB100, hr100, hn100, hb100⟩ := ctl_some hm
  refine W_mid (M := fun f' w' => ∃ s', (c100 = .next s' ∨ c100 = .brk s') ∧ (fun (_ : Unit) => ∃ (s103 : PHeap) , PHeap.le s s103 ∧ St w0 s103 (H) w' ∧ f' 0 = v100 ∧ f' 1 = v101 ∧ f' 12 = Value.int .i64 ((s100.length : Int))) s') ?_ ?_
  ·refine W_block (W_forC (fun k' s' f' w' => (fun (_ : Unit) => ∃ (s104 : PHeap) , PHeap.le s s104 ∧ St w0 s104 (H) w' ∧ f' 0 = v100 ∧ f' 1 = v101 ∧ f' 12 = Value.int .i64 ((s100.length : Int)) ∧ f' 13 = Value.int .i64 (k' : Int)) s') hB100 ?_ ?_ ?_)
   ·exact ⟨s, (PHeap.le_refl _), hS, rfl, rfl, rfl, rfl⟩
   ·intro i100 t100 c101 f100 w100 hi100 hI100 hm100 hres100
    obtain ⟨s105, l100, hS100, p100, p101, p102, x100⟩ := hI100
    refine Zc ?_
    refine Zd ?_
    refine Za rfl rfl (Exec.lss rfl x100 p102 ?_)
    refine Zb (Ze ?_)
    refine Zc ?_
    refine W_true (congrArg Value.bool (decide_eq_true (by omega))) ?_
    refine W_skip (Ze ?_)
    refine Zc ?_
    refine W_block ?_
    refine Zc ?_
    refine Zd ?_
    refine Za rfl rfl (Exec.move (v := Value.int .i64 ((i100 : Int))) rfl x100 ?_)
    refine Za rfl rfl (Exec.assign (v := Value.int .i64 ((i100 : Int))) rfl rfl ?_)
    refine Zb (Ze ?_)
    refine Zc ?_
    refine W_dl (n0 := 9) (.q 0 (.q 1 (.q 2 (.q 3 (.q 4 (.q 5 (.q 6 (.q 7 (.q 8 .done))))))))) hmix (by kernel_rfl) (by kernel_rfl) ?_
    have hS101 := hS100.drew
    refine DL_q rfl rfl (Exec.move (v := v100) rfl p100 ⟨rfl, ?_⟩)
    refine DL_q rfl rfl (Exec.move (v := Value.int .i64 ((i100 : Int))) rfl rfl ⟨rfl, ?_⟩)
    obtain ⟨x101, q100, hm100⟩ := Zg hm100
    refine DL_q rfl rfl (Exec.index_repE S22 rfl rfl rfl (a100.mono l100) q100 ?_)
    intro b100 o100 a102 e101
    refine ⟨rfl, ?_⟩
    refine DL_q rfl rfl (Exec.load_at (E := (encInt .i64)) hS101 A3 rfl rfl rfl a102 ?_)
    intro v102 q101
    obtain rfl := encInt_val.1 q101
    refine ⟨rfl, ?_⟩
    refine DL_q rfl rfl (Exec.move (v := v101) rfl p101 ⟨rfl, ?_⟩)
    refine DL_q rfl rfl (Exec.move (v := Value.int .i64 ((i100 : Int))) rfl rfl ⟨rfl, ?_⟩)
    obtain ⟨x102, q102, hm100⟩ := Zg hm100
    refine DL_q rfl rfl (Exec.index_repE S22 rfl rfl rfl (a101.mono l100) q102 ?_)
    intro b101 o101 a103 e102
    refine ⟨rfl, ?_⟩
    refine DL_q rfl rfl (Exec.load_at (E := (encInt .i64)) hS101 A3 rfl rfl rfl a103 ?_)
    intro v103 q103
    obtain rfl := encInt_val.1 q103
    refine ⟨rfl, ?_⟩
    refine DL_q rfl rfl (Exec.neq rfl rfl rfl ⟨rfl, ?_⟩)
    refine DL_done ?_
    refine Zb (Ze ?_)
    rcases ite_some hm100 with ⟨hc101, hm100⟩ | ⟨hc101, hm100⟩
    ·refine W_cond_t rfl hc101 ?_
     refine Zc ?_
     refine Zd ?_
     refine Za rfl rfl (Exec.assign (v := Value.bool (false)) rfl rfl ?_)
     refine Zb (Ze ?_)
     refine W_ret (ib_ret (at_ret (at_ret (ib_ret (at_ret (at_ret ?_))))))
     have e103 := Zu hm100
     subst c101
     have hq100 := hr100 _ (hres100 (by intro _ h; cases h))
     have e104 := Zu hq100
     subst r
     refine ⟨_, ret1 rfl, ?_⟩
     exact ⟨s105, l100, hS101, rfl⟩
    ·refine W_cond_f rfl hc101 ?_
     replace hc101 := Zk hc101
     refine W_skip (ib_normal (Ze ?_))
     refine Zd ?_
     refine Za rfl rfl (Exec.add rfl x100 rfl ?_)
     refine Za rfl rfl (Exec.move (v := Value.int .i64 (IntKind.i64.wrap ((i100 : Int) + 1))) rfl rfl ?_)
     refine Zb (Ze ?_)
     have e105 := Zu hm100
     subst c101
     refine ⟨_, rfl, ?_⟩; exact ⟨s105, l100, hS101, p100, p101, p102, (Eq.trans rfl (wrap_up hi100 (SliceRep.le a100)))⟩
   ·intro t101 f101 w101 hI101 hres101
    obtain ⟨s106, l101, hS102, p103, p104, p105, x103⟩ := hI101
    refine Zc ?_
    refine Zd ?_
    refine Za rfl rfl (Exec.lss rfl x103 p105 ?_)
    refine Zb (Ze ?_)
    refine Zc ?_
    refine W_false (congrArg Value.bool (decide_eq_false (by omega))) ?_
    refine W_exit (at_exit (at_exit (ib_here (Ze ?_))))
    refine ⟨_, .inl hres101, ?_⟩; exact ⟨s106, l101, hS102, p103, p104, p105⟩
  ·rintro f102 w102 ⟨t102, hc102, hM100⟩
   have hm := hc102.elim (hn100 _) (hb100 _)
   clear hc102
   obtain ⟨s107, l102, hS103, p106, p107, p108⟩ := hM100
   refine (Ze ?_)
   refine Zc ?_
   refine Zd ?_
   refine Za rfl rfl (Exec.assign (v := Value.bool (true)) rfl rfl ?_)
   refine Zb (Ze ?_)
   refine W_ret ?_
   have e106 := Zu hm
   subst r
   refine ⟨_, ret1 rfl, ?_⟩
   exact ⟨s107, l102, hS103, rfl⟩

theorem C39 : Try.prog.concrete 39 = true := by kernel_rfl

theorem Z3 : tyZero Try.prog 3 = some (Value.int .i64 (0)) := by kernel_rfl

theorem N36 : (Try.f36.name == "runtime.NumGoroutine") = false := by kernel_rfl

theorem slices_Clone___int_int__sim {w0 w : World} {s : PHeap} {H : List Res} {s_100 : (List Int)} {v100 : Value} {r : (List Int)} (hm : slices_Clone___int_int__p s_100 = some r) (hS : St w0 s (H) w) (a100 : SliceRep (encInt .i64) s v100 s_100) :
  Calls Try.prog 36 #[v100] w fun e w' => ∃ v, e = .returned v ∧ ((fun (y100 : (List Int)) => ∃ (s100 : PHeap) (v101 : Value), PHeap.le s s100 ∧ St w0 s100 (Res.arr (encInt .i64) 3 v101 y100 :: H) w' ∧ v = v101) r) := by
 unfold slices_Clone___int_int__p at hm
 refine calls_of_W Try.func36 rfl rfl ?_
 refine Zc ?_
 refine Zd ?_
 refine Za rfl rfl (Exec.assign (v := Value.slice none 0 0) rfl rfl ?_)
 refine Zb (Ze ?_)
 refine Zc ?_
 refine Zc ?_
 refine Zd ?_
 refine Za rfl rfl (Exec.move (v := v100) rfl rfl ?_)
 obtain ⟨a101, n100, c100, e100, hn100⟩ := (a100).nilShape
 refine Za rfl rfl (Exec.slice_eql_nil Try.underlying22 rfl e100 rfl ?_)
 refine Zb (Ze ?_)
 by_cases hc100 : a101.isNone = true
 ·have hq100 := hn100 hc100
  replace hm := (show (some []) = ((app 8 [] s_100).bind fun l100 => some l100) from by simp [hq100, app]).trans hm
  refine W_true ((congrArg Value.bool hc100)) ?_
  refine Zc ?_
  refine Zd ?_
  refine Za rfl rfl (Exec.assign (v := Value.slice none 0 0) rfl rfl ?_)
  refine Zb (Ze ?_)
  refine W_ret (at_ret ?_)
  have e101 := Zu hm
  subst r
  refine ⟨_, ret1 rfl, ?_⟩
  have hS100 := hS.nilArr (encInt .i64) 3
  exact ⟨s, (Value.slice none 0 0), (PHeap.le_refl _), hS100, rfl⟩
 ·replace hc100 := Zk hc100
  refine W_false ((congrArg Value.bool hc100)) ?_
  refine W_skip (Ze ?_)
  refine Zc ?_
  refine Zd ?_
  refine Za rfl rfl (Exec.buildSlice (Te := 3) (cs := []) hS rfl parts_nil (fun _ => by kernel_rfl) ?_)
  intro b100 w100 hS101
  refine Za rfl rfl (Exec.move (v := v100) rfl rfl ?_)
  have hS102 := St.boxArr (E := (encInt .i64)) (xs := []) hS101 rfl (by simp [maxLen])
  obtain ⟨l100, q100, hm⟩ := Zg hm
  refine Za rfl rfl (Exec.append_rep (E := (encInt .i64)) (ys := s_100) hS102 S22 Z3 rfl (by decide) rfl rfl rfl a100 q100 ?_)
  intro v102 w101 hS103
  refine Za rfl rfl (Exec.assign (v := v102) rfl rfl ?_)
  refine Zb (Ze ?_)
  refine W_ret ?_
  have e102 := Zu hm
  subst r
  refine ⟨_, ret1 rfl, ?_⟩
  exact ⟨s, v102, (PHeap.le_refl _), hS103, rfl⟩

theorem A4 : tyAgg Try.prog 4 = some (false, 1) := by kernel_rfl

theorem Z4 : tyZero Try.prog 4 = some (Value.bool false) := by kernel_rfl

theorem S63 : tySlice Try.prog 63 = some (23, 1, 24) := by kernel_rfl

theorem Z23 : tyZero Try.prog 23 = some (Value.slice none 0 0) := by kernel_rfl

theorem N37 : (Try.f37.name == "runtime.NumGoroutine") = false := by kernel_rfl

theorem transys_labelled_sim {w0 w : World} {s : PHeap} {H : List Res} {x100 : System} {v100 : Value} {v101 : Value} {v102 : Value} {r : (List (List Edge))} (hm : transys_labelled_p x100 = some r) (hS : St w0 s (H) w) (a100 : SliceRep (encInt .i64) s v100 x100.Costs) (a101 : SliceRep encEdge s v101 x100.Edges) (a102 : SliceRep encBool s v102 x100.Goals) :
  Calls Try.prog 37 #[Value.agg #[Value.int .i64 (x100.States), Value.int .i64 (x100.Init), v100, v101, v102]] w fun e w' => ∃ v, e = .returned v ∧ ((fun (y100 : (List (List Edge))) => ∃ (s100 : PHeap) (v103 : Value), PHeap.le s s100 ∧ St w0 s100 (H) w' ∧ v = v103 ∧ SliceRep (encSlice encEdge) s100 v103 y100) r) := by
 unfold transys_labelled_p at hm
 refine calls_of_W Try.func37 rfl rfl ?_
 refine Zc ?_
 refine Zd ?_
 refine Za rfl rfl (Exec.box (cs := [Value.int .i64 (x100.States), Value.int .i64 (x100.Init), v100, v101, v102]) hS rfl rfl rfl ?_)
 intro b100 w100 hS100
 refine Za rfl rfl (Exec.assign (v := Value.slice none 0 0) rfl rfl ?_)
 refine Zb (Ze ?_)
 refine Zc ?_
 refine Zd ?_
 refine Za rfl rfl (Exec.field F26_2 rfl rfl rfl ?_)
 refine Za rfl rfl (Exec.load_box (hS100) A22 rfl rfl rfl ?_)
 refine Za rfl rfl (Exec.len_rep S22 rfl rfl a100 ?_)
 obtain ⟨l100, q100, hm⟩ := Zg hm
 refine Za rfl rfl (Exec.make_grid (F := encEdge) (T2 := 66) hS100 S63 Z23 rfl rfl rfl q100 ?_)
 intro v104 hs100 w101 hS101
 refine Za rfl rfl (Exec.assign (v := v104) rfl rfl ?_)
 refine Zb (Ze ?_)
 refine Zc ?_
 refine Zc ?_
 refine Zd ?_
 refine Za rfl rfl (Exec.field F26_3 rfl rfl rfl ?_)
 refine Za rfl rfl (Exec.load_box ((hS101).f2) A23 rfl rfl rfl ?_)
 refine Za rfl rfl (Exec.len_rep S23 rfl rfl a101 ?_)
 refine Za rfl rfl (Exec.move (v := Value.int .i64 (0)) rfl rfl ?_)
 refine Zb (Ze ?_)
 obtain ⟨l101, hB100, hm⟩ := Zg hm
 refine W_block (W_forS (fun k' s' f' w' => (fun (l101 : (List (List Edge))) => ∃ (s101 : PHeap) (hs101 : List Value), PHeap.le s s101 ∧ St w0 s101 (Res.arr encRaw 23 v104 hs101 :: Res.rows encEdge 66 hs101 l101 :: H) w' ∧ f' 3 = v104 ∧ f' 11 = v101 ∧ f' 12 = Value.int .i64 ((x100.Edges.length : Int)) ∧ f' 13 = Value.int .i64 (k' : Int)) s') hB100 ?_ ?_ ?_)
 ·have hS102 := ((hS101).f2).drop
  exact ⟨s, hs100, (PHeap.le_refl _), hS102, rfl, rfl, rfl, rfl⟩
 ·intro i100 l101 s102 f100 w102 hi100 hI100 hm100
  obtain ⟨s103, hs101, l102, hS103, p100, p101, p102, x101⟩ := hI100
  refine Zc ?_
  refine Zd ?_
  refine Za rfl rfl (Exec.lss rfl x101 p102 ?_)
  refine Zb (Ze ?_)
  refine Zc ?_
  refine W_true (congrArg Value.bool (decide_eq_true (by omega))) ?_
  refine W_skip (Ze ?_)
  refine Zc ?_
  refine W_block ?_
  refine Zc ?_
  refine Zd ?_
  obtain ⟨x102, q101, hm100⟩ := Zg hm100
  refine Za rfl rfl (Exec.index_rep S23 rfl p101 x101 (a101.mono l102) q101 ?_)
  intro b101 o100 a103
  refine Za rfl rfl (Exec.load_at (E := encEdge) hS103 A66 rfl rfl rfl a103 ?_)
  intro v105 q102
  obtain rfl := encEdge_val.1 q102
  refine Za rfl rfl (Exec.alloc (cs := [Value.int .i64 (0), Value.int .i64 (0), Value.int .i64 (0)]) hS103 Z66 rfl rfl ?_)
  intro b102 w103 hS104
  refine Za rfl rfl (Exec.store_box (ds := [Value.int .i64 (x102.From), Value.int .i64 (x102.Label), Value.int .i64 (x102.To)]) (es := [Value.int .i64 (x102.From), Value.int .i64 (x102.Label), Value.int .i64 (x102.To)]) hS104 A66 rfl rfl rfl rfl (Zj rfl (Zj rfl (Zj rfl one_nil))) (Nat.le_of_ble_eq_true rfl) rfl ?_)
  intro w104 hS105
  refine Zb (Ze ?_)
  refine W_dl (n0 := 11) (.q 0 (.q 1 (.q 2 (.q 3 (.q 4 (.q 5 (.q 6 (.q 7 (.q 8 (.e 9 [0, 1, 2, 3, 4, 5, 6, 7] (.e 10 [0, 1, 2] .done))))))))))) hmix (by kernel_rfl) (by kernel_rfl) ?_
  have hS106 := hS105.drew
  refine DL_q rfl rfl (Exec.move (v := v104) rfl p100 ⟨rfl, ?_⟩)
  refine DL_q rfl rfl (Exec.field F66_1 rfl rfl rfl ⟨rfl, ?_⟩)
  refine DL_q rfl rfl (Exec.load_box (hS106) A3 rfl rfl rfl ⟨rfl, ?_⟩)
  refine DL_q rfl rfl (Exec.move (v := v104) rfl p100 ⟨rfl, ?_⟩)
  refine DL_q rfl rfl (Exec.field F66_1 rfl rfl rfl ⟨rfl, ?_⟩)
  refine DL_q rfl rfl (Exec.load_box (hS106) A3 rfl rfl rfl ⟨rfl, ?_⟩)
  obtain ⟨row100, q103, hm100⟩ := Zg hm100
  obtain ⟨h100, e100, e101, _⟩ := ((((hS106).f2).f2).f1).rows_at q103
  obtain ⟨g100, c100, e102⟩ := (((hS106).f2).f2).arr_at e100
  refine DL_q rfl rfl (Exec.index_slice S63 rfl e102 rfl (idx_some e100).1 (idx_some e100).2.1 ⟨rfl, ?_⟩)
  refine DL_q rfl rfl (Exec.load_arr (F := encRaw) (((hS106).f2).f2) e102 A23 rfl rfl rfl e100 (Sub.refl _) ?_)
  intro v106 q104
  replace q104 := (encRaw_val.1 q104).1
  subst v106
  refine ⟨rfl, ?_⟩
  refine DL_q rfl rfl (Exec.load_box_agg (ds := [Value.int .i64 (x102.From), Value.int .i64 (x102.Label), Value.int .i64 (x102.To)]) (hS106) A66 rfl rfl rfl ⟨rfl, ?_⟩)
  refine DL_e rfl rfl (Exec.buildSlice (Te := 66) (cs := [Value.int .i64 (x102.From), Value.int .i64 (x102.Label), Value.int .i64 (x102.To)]) hS106 rfl (parts_cons (c := [Value.int .i64 (x102.From), Value.int .i64 (x102.Label), Value.int .i64 (x102.To)]) (cells_of rfl rfl) parts_nil) (fun _ => by kernel_rfl) ?_)
  intro b103 w105 hS107
  refine ⟨(ag_cons (ag_r rfl rfl (Exec.move (v := v104) rfl p100 ⟨rfl, rfl⟩)) (ag_cons (ag_r rfl rfl (Exec.field F66_1 rfl rfl rfl ⟨rfl, rfl⟩)) (ag_cons (ag_r rfl rfl (Exec.load_box ((hS107).f1) A3 rfl rfl rfl ⟨rfl, rfl⟩)) (ag_cons (ag_r rfl rfl (Exec.move (v := v104) rfl p100 ⟨rfl, rfl⟩)) (ag_cons (ag_r rfl rfl (Exec.field F66_1 rfl rfl rfl ⟨rfl, rfl⟩)) (ag_cons (ag_r rfl rfl (Exec.load_box ((hS107).f1) A3 rfl rfl rfl ⟨rfl, rfl⟩)) (ag_cons (ag_r rfl rfl (Exec.index_slice S63 rfl e102 rfl (idx_some e100).1 (idx_some e100).2.1 ⟨rfl, rfl⟩)) (ag_cons (ag_r rfl rfl (Exec.load_arr (F := encRaw) (((hS107).f3).f3) e102 A23 rfl rfl rfl e100 (Sub.refl _) (fun _ q => ⟨rfl, (encRaw_val.1 q).1⟩))) ag_nil)))))))), ?_⟩
  have hS108 := ((((hS107).f3).f3).f1).rows_split e101 (idx_some q103).2.2
  obtain ⟨l103, q105, hm100⟩ := Zg hm100
  have hS109 := (hS108).f3
  have hS110 := (hS109).f1
  refine DL_e rfl rfl (Exec.append_box (E := encEdge) (ys := [x102]) hS110 S23 Z66 rfl (by decide) rfl rfl rfl rfl ⟨[Value.int .i64 (x102.From), Value.int .i64 (x102.Label), Value.int .i64 (x102.To)], [], rfl, ⟨[Value.int .i64 (x102.From)], [Value.int .i64 (x102.Label), Value.int .i64 (x102.To)], rfl, rfl, ⟨[Value.int .i64 (x102.Label)], [Value.int .i64 (x102.To)], rfl, rfl, rfl⟩⟩, rfl⟩ rfl q105 ?_)
  intro v107 w106 hS111
  refine ⟨(ag_cons (ag_r rfl rfl (Exec.move (v := v104) rfl p100 ⟨rfl, rfl⟩)) (ag_cons (ag_r rfl rfl (Exec.field F66_1 rfl rfl rfl ⟨rfl, rfl⟩)) (ag_cons (ag_r rfl rfl (Exec.load_box ((hS111).f3) A3 rfl rfl rfl ⟨rfl, rfl⟩)) ag_nil))), ?_⟩
  refine DL_done ?_
  refine Za rfl rfl (Exec.index_slice S63 rfl e102 rfl (idx_some e100).1 (idx_some e100).2.1 ?_)
  obtain ⟨l104, q106, hm100⟩ := Zg hm100
  have hS112 := ((hS111).f2).f2
  have hS113 := (hS112).f2
  refine Za rfl rfl (Exec.store_row hS113 e101 e102 A23 rfl rfl rfl rfl q106 ?_)
  intro hs102 w107 hS114
  refine Zb (ib_normal (Ze ?_))
  refine Zd ?_
  refine Za rfl rfl (Exec.add rfl x101 rfl ?_)
  refine Za rfl rfl (Exec.move (v := Value.int .i64 (IntKind.i64.wrap ((i100 : Int) + 1))) rfl rfl ?_)
  refine Zb (Ze ?_)
  have e103 := Zu hm100
  subst s102
  have hS115 := ((hS114).f2).drop
  exact ⟨s103, hs102, l102, hS115, p100, p101, p102, (Eq.trans rfl (wrap_up hi100 (SliceRep.le a101)))⟩
 ·intro f101 w108 hI101
  obtain ⟨s104, hs101, l105, hS116, p103, p104, p105, x103⟩ := hI101
  refine Zc ?_
  refine Zd ?_
  refine Za rfl rfl (Exec.lss rfl x103 p105 ?_)
  refine Zb (Ze ?_)
  refine Zc ?_
  refine W_false (congrArg Value.bool (decide_eq_false (by omega))) ?_
  refine W_exit (at_exit (at_exit (ib_here (Ze ?_))))
  refine Zc ?_
  refine Zd ?_
  refine Za rfl rfl (Exec.move (v := v104) rfl p103 ?_)
  refine Za rfl rfl (Exec.assign (v := v104) rfl rfl ?_)
  refine Zb (Ze ?_)
  refine W_ret ?_
  have e104 := Zu hm
  subst r
  refine ⟨_, ret1 rfl, ?_⟩
  obtain ⟨s105, l106, hS117, r100⟩ := hS116.freezeGrid
  exact ⟨s105, v104, (Zt l105 l106), hS117, rfl, r100⟩

theorem N38 : (Try.f38.name == "runtime.NumGoroutine") = false := by kernel_rfl

end Go.Pw
