/-
  The walks (printed by my generator).
-/
import Derived.Test.YtdhfofhginfdnaaPaP
import Derived.Test.YtdhfofhginfdnaaL8
import Derived.Test.YtdhfofhginfdnaaL9
import Derived.Test.YtdhfofhginfdnaaL12
import Derived.KernelRfl
import Derived.Test.YtdhfofhginfdnaaProg
import Derived.KernelRfl
set_option maxRecDepth 100000
set_option maxHeartbeats 4000000
set_option linter.unusedVariables false
namespace Go.Pw
open Go.Proofs
theorem Z26 : tyZero Try.prog 26 = some (Value.agg #[Value.int .i64 (0), Value.int .i64 (0), Value.slice none 0 0, Value.slice none 0 0, Value.slice none 0 0]) := by kernel_rfl

theorem A26 : tyAgg Try.prog 26 = some (true, 5) := by kernel_rfl

theorem N26 : (Try.f26.name == "runtime.NumGoroutine") = false := by kernel_rfl

theorem law44_example_sim {w0 w : World} {s : PHeap} {H : List Res}   {r : System} (hm : law44_example_p  = some r) (hS : St w0 s (H) w)  :
    Calls Try.prog 26 #[] w fun e w' => ∃ v, e = .returned v ∧ ((fun (y58 : System) => ∃ (s80 : PHeap) (v77 : Value) (v78 : Value) (v79 : Value), PHeap.le s s80 ∧ St w0 s80 (H) w' ∧ v = Value.agg #[Value.int .i64 (y58.States), Value.int .i64 (y58.Init), v77, v78, v79] ∧ SliceRep (encInt .i64) s80 v77 y58.Costs ∧ SliceRep encEdge s80 v78 y58.Edges ∧ SliceRep encBool s80 v79 y58.Goals) r) := by
  unfold law44_example_p at hm
  refine calls_of_W Try.func26 rfl rfl ?_
  refine W_seq ?_
  refine W_region ?_
  refine WL_step rfl rfl (Exec.alloc (cs := [Value.int .i64 (0), Value.int .i64 (0), Value.slice none 0 0, Value.slice none 0 0, Value.slice none 0 0]) hS Z26 rfl rfl ?_)
  intro b84 w85 hS86
  refine WL_nil (at_normal ?_)
  refine W_seq ?_
  refine W_region ?_
  refine WL_step rfl rfl (Exec.buildSlice (Te := 3) (cs := [Value.int .i64 (2), Value.int .i64 (0)]) hS86 rfl (parts_cons (c := [Value.int .i64 (2)]) (cells_of rfl rfl) (parts_cons (c := [Value.int .i64 (0)]) (cells_of rfl rfl) parts_nil)) (fun _ => by kernel_rfl) ?_)
  intro b99 w100 hS101
  refine WL_step rfl rfl (Exec.build rfl (parts_cons (c := [Value.int .i64 (0)]) (cells_of rfl rfl) (parts_cons (c := [Value.int .i64 (0)]) (cells_of rfl rfl) (parts_cons (c := [Value.int .i64 (1)]) (cells_of rfl rfl) parts_nil))) (v := Value.agg #[Value.int .i64 (0), Value.int .i64 (0), Value.int .i64 (1)]) (fun _ => by kernel_rfl) ?_)
  refine WL_step rfl rfl (Exec.build rfl (parts_cons (c := [Value.int .i64 (1)]) (cells_of rfl rfl) (parts_cons (c := [Value.int .i64 (1)]) (cells_of rfl rfl) (parts_cons (c := [Value.int .i64 (1)]) (cells_of rfl rfl) parts_nil))) (v := Value.agg #[Value.int .i64 (1), Value.int .i64 (1), Value.int .i64 (1)]) (fun _ => by kernel_rfl) ?_)
  refine WL_step rfl rfl (Exec.buildSlice (Te := 66) (cs := [Value.int .i64 (0), Value.int .i64 (0), Value.int .i64 (1), Value.int .i64 (1), Value.int .i64 (1), Value.int .i64 (1)]) hS101 rfl (parts_cons (c := [Value.int .i64 (0), Value.int .i64 (0), Value.int .i64 (1)]) (cells_of rfl rfl) (parts_cons (c := [Value.int .i64 (1), Value.int .i64 (1), Value.int .i64 (1)]) (cells_of rfl rfl) parts_nil)) (fun _ => by kernel_rfl) ?_)
  intro b102 w103 hS104
  refine WL_step rfl rfl (Exec.buildSlice (Te := 4) (cs := [Value.bool (false), Value.bool (true)]) hS104 rfl (parts_cons (c := [Value.bool (false)]) (cells_of rfl rfl) (parts_cons (c := [Value.bool (true)]) (cells_of rfl rfl) parts_nil)) (fun _ => by kernel_rfl) ?_)
  intro b105 w106 hS107
  refine WL_step rfl rfl (Exec.build rfl (parts_cons (c := [Value.int .i64 (2)]) (cells_of rfl rfl) (parts_cons (c := [Value.slice (some ⟨b99, 0, none⟩) 2 2]) (cells_of rfl rfl) (parts_cons (c := [Value.slice (some ⟨b102, 0, none⟩) 2 2]) (cells_of rfl rfl) (parts_cons (c := [Value.slice (some ⟨b105, 0, none⟩) 2 2]) (cells_of rfl rfl) parts_nil)))) (v := Value.agg #[Value.int .i64 (2), Value.int .i64 (0), Value.slice (some ⟨b99, 0, none⟩) 2 2, Value.slice (some ⟨b102, 0, none⟩) 2 2, Value.slice (some ⟨b105, 0, none⟩) 2 2]) (fun _ => by kernel_rfl) ?_)
  have hS108 := (hS107).f3
  refine WL_step rfl rfl (Exec.store_box (ds := [Value.int .i64 (2), Value.int .i64 (0), Value.slice (some ⟨b99, 0, none⟩) 2 2, Value.slice (some ⟨b102, 0, none⟩) 2 2, Value.slice (some ⟨b105, 0, none⟩) 2 2]) (es := [Value.int .i64 (2), Value.int .i64 (0), Value.slice (some ⟨b99, 0, none⟩) 2 2, Value.slice (some ⟨b102, 0, none⟩) 2 2, Value.slice (some ⟨b105, 0, none⟩) 2 2]) hS108 A26 rfl rfl rfl rfl (one_cons rfl (one_cons rfl (one_cons rfl (one_cons rfl (one_cons rfl one_nil))))) (Nat.le_of_ble_eq_true rfl) rfl ?_)
  intro w109 hS110
  refine WL_nil (at_normal ?_)
  refine W_ret ?_
  have e112 := Option.some.inj hm
  subst r
  refine ⟨_, retG1 rfl ⟨_, _, rfl, cellRes (hS110) A26⟩, ?_⟩
  have hS113 := (hS110).f3
  have hS114 := St.boxArr (E := (encInt .i64)) (xs := [2, 0]) hS113 ⟨[Value.int .i64 (2)], [Value.int .i64 (0)], rfl, rfl, ⟨[Value.int .i64 (0)], [], rfl, rfl, rfl⟩⟩ (by simp [maxLen])
  obtain ⟨s115, l116, hS117, r118⟩ := hS114.freezeArr
  have hS119 := (hS117).f2
  have hS120 := St.boxArr (E := encEdge) (xs := [(⟨0, 0, 1⟩ : Edge), (⟨1, 1, 1⟩ : Edge)]) hS119 ⟨[Value.int .i64 (0), Value.int .i64 (0), Value.int .i64 (1)], [Value.int .i64 (1), Value.int .i64 (1), Value.int .i64 (1)], rfl, ⟨[Value.int .i64 (0)], [Value.int .i64 (0), Value.int .i64 (1)], rfl, rfl, ⟨[Value.int .i64 (0)], [Value.int .i64 (1)], rfl, rfl, rfl⟩⟩, ⟨[Value.int .i64 (1), Value.int .i64 (1), Value.int .i64 (1)], [], rfl, ⟨[Value.int .i64 (1)], [Value.int .i64 (1), Value.int .i64 (1)], rfl, rfl, ⟨[Value.int .i64 (1)], [Value.int .i64 (1)], rfl, rfl, rfl⟩⟩, rfl⟩⟩ (by simp [maxLen])
  obtain ⟨s121, l122, hS123, r124⟩ := hS120.freezeArr
  have hS125 := (hS123).f1
  have hS126 := St.boxArr (E := encBool) (xs := [false, true]) hS125 ⟨[Value.bool (false)], [Value.bool (true)], rfl, rfl, ⟨[Value.bool (true)], [], rfl, rfl, rfl⟩⟩ (by simp [maxLen])
  obtain ⟨s127, l128, hS129, r130⟩ := hS126.freezeArr
  have hS131 := (hS129).drop
  exact ⟨s127, (Value.slice (some ⟨b99, 0, none⟩) 2 2), (Value.slice (some ⟨b102, 0, none⟩) 2 2), (Value.slice (some ⟨b105, 0, none⟩) 2 2), (PHeap.le.trans (PHeap.le.trans l116 l122) l128), hS131, rfl, (r118.mono (PHeap.le.trans l122 l128)), (r124.mono l128), r130⟩

theorem F26_0 : tyField Try.prog 26 0 = some 0 := by kernel_rfl

theorem A3 : tyAgg Try.prog 3 = some (false, 1) := by kernel_rfl

theorem F26_1 : tyField Try.prog 26 1 = some 1 := by kernel_rfl

theorem F26_4 : tyField Try.prog 26 4 = some 4 := by kernel_rfl

theorem A24 : tyAgg Try.prog 24 = some (false, 1) := by kernel_rfl

theorem S24 : tySlice Try.prog 24 = some (4, 1, 1) := by kernel_rfl

theorem F26_2 : tyField Try.prog 26 2 = some 2 := by kernel_rfl

theorem A22 : tyAgg Try.prog 22 = some (false, 1) := by kernel_rfl

theorem S22 : tySlice Try.prog 22 = some (3, 1, 8) := by kernel_rfl

theorem F26_3 : tyField Try.prog 26 3 = some 3 := by kernel_rfl

theorem A23 : tyAgg Try.prog 23 = some (false, 1) := by kernel_rfl

theorem S23 : tySlice Try.prog 23 = some (66, 3, 24) := by kernel_rfl

theorem A66 : tyAgg Try.prog 66 = some (true, 3) := by kernel_rfl

theorem Z66 : tyZero Try.prog 66 = some (Value.agg #[Value.int .i64 (0), Value.int .i64 (0), Value.int .i64 (0)]) := by kernel_rfl

theorem hmix : Try.prog.follows .mixedOrders = true := by kernel_rfl

theorem F66_0 : tyField Try.prog 66 0 = some 0 := by kernel_rfl

theorem F66_2 : tyField Try.prog 66 2 = some 2 := by kernel_rfl

theorem F66_1 : tyField Try.prog 66 1 = some 1 := by kernel_rfl

theorem N75 : (Try.f75.name == "runtime.NumGoroutine") = false := by kernel_rfl

theorem cmp_isNaN_int__sim {w0 w : World} {s : PHeap} {H : List Res} {x415 : Int}  {r : Bool} (hm : cmp_isNaN_int__p x415 = some r) (hS : St w0 s (H) w)  :
    Calls Try.prog 75 #[Value.int .i64 (x415)] w fun e w' => ∃ v, e = .returned v ∧ ((fun (y417 : Bool) => ∃ (s418 : PHeap) , PHeap.le s s418 ∧ St w0 s418 (H) w' ∧ v = Value.bool (y417)) r) := by
  unfold cmp_isNaN_int__p at hm
  refine calls_of_W Try.func75 rfl rfl ?_
  refine W_seq ?_
  refine W_region ?_
  refine WL_step rfl rfl (Exec.assign (v := Value.bool (false)) rfl rfl ?_)
  refine WL_nil (at_normal ?_)
  refine W_seq ?_
  refine W_region ?_
  refine WL_step rfl rfl (Exec.move (v := Value.int .i64 (x415)) rfl rfl ?_)
  refine WL_step rfl rfl (Exec.move (v := Value.int .i64 (x415)) rfl rfl ?_)
  refine WL_step rfl rfl (Exec.neq rfl rfl rfl ?_)
  refine WL_step rfl rfl (Exec.assign (v := Value.bool (!decide (x415 = x415))) rfl rfl ?_)
  refine WL_nil (at_normal ?_)
  refine W_ret ?_
  have e420 := Option.some.inj hm
  subst r
  refine ⟨_, ret1 rfl, ?_⟩
  exact ⟨s, (PHeap.le_refl _), hS, rfl⟩

theorem N56 : (Try.f56.name == "runtime.NumGoroutine") = false := by kernel_rfl

theorem cmp_Compare_int__sim {w0 w : World} {s : PHeap} {H : List Res} {x413 : Int} {y414 : Int}  {r : Int} (hm : cmp_Compare_int__p x413 y414 = some r) (hS : St w0 s (H) w)  :
    Calls Try.prog 56 #[Value.int .i64 (x413), Value.int .i64 (y414)] w fun e w' => ∃ v, e = .returned v ∧ ((fun (y443 : Int) => ∃ (s444 : PHeap) , PHeap.le s s444 ∧ St w0 s444 (H) w' ∧ v = Value.int .i64 (y443)) r) := by
  unfold cmp_Compare_int__p at hm
  refine calls_of_W Try.func56 rfl rfl ?_
  refine W_seq ?_
  refine W_region ?_
  refine WL_step rfl rfl (Exec.assign (v := Value.int .i64 (0)) rfl rfl ?_)
  refine WL_nil (at_normal ?_)
  refine W_seq ?_
  refine W_region ?_
  refine WL_step rfl rfl (Exec.move (v := Value.int .i64 (x413)) rfl rfl ?_)
  refine WL_step rfl rfl (Exec.call rfl rfl Try.func75 rfl N75 (args_cons rfl args_nil) ((cmp_isNaN_int__sim (cmp_isNaN_int__tot x413) hS ).mono ?_))
  rintro _ w449 ⟨_, rfl, ⟨s450, l451, hS452, rfl⟩⟩
  refine ⟨_, rfl, ?_⟩
  refine WL_step rfl rfl (Exec.assign (v := Value.bool ((cmp_isNaN_int__t x413))) rfl rfl ?_)
  refine WL_nil (at_normal ?_)
  refine W_seq ?_
  refine W_region ?_
  refine WL_step rfl rfl (Exec.move (v := Value.int .i64 (y414)) rfl rfl ?_)
  refine WL_step rfl rfl (Exec.call rfl rfl Try.func75 rfl N75 (args_cons rfl args_nil) ((cmp_isNaN_int__sim (cmp_isNaN_int__tot y414) hS452 ).mono ?_))
  rintro _ w457 ⟨_, rfl, ⟨s458, l459, hS460, rfl⟩⟩
  refine ⟨_, rfl, ?_⟩
  refine WL_step rfl rfl (Exec.assign (v := Value.bool ((cmp_isNaN_int__t y414))) rfl rfl ?_)
  refine WL_nil (at_normal ?_)
  refine W_seq ?_
  refine W_seq ?_
  refine W_region ?_
  refine WL_step rfl rfl (Exec.move (v := Value.bool ((cmp_isNaN_int__t x413))) rfl rfl ?_)
  refine WL_nil (at_normal ?_)
  rcases ite_some hm with ⟨hc461, hm⟩ | ⟨hc461, hm⟩
  · refine W_cond_t rfl hc461 ?_
    refine W_seq ?_
    refine W_seq ?_
    refine W_region ?_
    refine WL_step rfl rfl (Exec.move (v := Value.bool ((cmp_isNaN_int__t y414))) rfl rfl ?_)
    refine WL_nil (at_normal ?_)
    rcases ite_some hm with ⟨hc462, hm⟩ | ⟨hc462, hm⟩
    · refine W_cond_t rfl hc462 ?_
      refine W_seq ?_
      refine W_region ?_
      refine WL_step rfl rfl (Exec.assign (v := Value.int .i64 (0)) rfl rfl ?_)
      refine WL_nil (at_normal ?_)
      refine W_ret (at_ret (at_ret ?_))
      have e464 := Option.some.inj hm
      subst r
      refine ⟨_, ret1 rfl, ?_⟩
      exact ⟨s458, (PHeap.le.trans l451 l459), hS460, rfl⟩
    · refine W_cond_f rfl hc462 ?_
      replace hc462 := not_true hc462
      refine W_skip (at_normal ?_)
      refine W_seq ?_
      refine W_region ?_
      refine WL_step rfl rfl (Exec.assign (v := Value.int .i64 ((-1))) rfl rfl ?_)
      refine WL_nil (at_normal ?_)
      refine W_ret (at_ret ?_)
      have e466 := Option.some.inj hm
      subst r
      refine ⟨_, ret1 rfl, ?_⟩
      exact ⟨s458, (PHeap.le.trans l451 l459), hS460, rfl⟩
  · refine W_cond_f rfl hc461 ?_
    replace hc461 := not_true hc461
    refine W_skip (at_normal ?_)
    refine W_seq ?_
    refine W_seq ?_
    refine W_region ?_
    refine WL_step rfl rfl (Exec.move (v := Value.bool ((cmp_isNaN_int__t y414))) rfl rfl ?_)
    refine WL_nil (at_normal ?_)
    rcases ite_some hm with ⟨hc467, hm⟩ | ⟨hc467, hm⟩
    · refine W_cond_t rfl hc467 ?_
      refine W_seq ?_
      refine W_region ?_
      refine WL_step rfl rfl (Exec.assign (v := Value.int .i64 (1)) rfl rfl ?_)
      refine WL_nil (at_normal ?_)
      refine W_ret (at_ret ?_)
      have e469 := Option.some.inj hm
      subst r
      refine ⟨_, ret1 rfl, ?_⟩
      exact ⟨s458, (PHeap.le.trans l451 l459), hS460, rfl⟩
    · refine W_cond_f rfl hc467 ?_
      replace hc467 := not_true hc467
      refine W_skip (at_normal ?_)
      refine W_seq ?_
      refine W_seq ?_
      refine W_region ?_
      refine WL_step rfl rfl (Exec.move (v := Value.int .i64 (x413)) rfl rfl ?_)
      refine WL_step rfl rfl (Exec.move (v := Value.int .i64 (y414)) rfl rfl ?_)
      refine WL_step rfl rfl (Exec.lss rfl rfl rfl ?_)
      refine WL_nil (at_normal ?_)
      rcases ite_some hm with ⟨hc470, hm⟩ | ⟨hc470, hm⟩
      · refine W_cond_t rfl hc470 ?_
        refine W_seq ?_
        refine W_region ?_
        refine WL_step rfl rfl (Exec.assign (v := Value.int .i64 ((-1))) rfl rfl ?_)
        refine WL_nil (at_normal ?_)
        refine W_ret (at_ret ?_)
        have e472 := Option.some.inj hm
        subst r
        refine ⟨_, ret1 rfl, ?_⟩
        exact ⟨s458, (PHeap.le.trans l451 l459), hS460, rfl⟩
      · refine W_cond_f rfl hc470 ?_
        replace hc470 := not_true hc470
        refine W_skip (at_normal ?_)
        refine W_seq ?_
        refine W_seq ?_
        refine W_region ?_
        refine WL_step rfl rfl (Exec.move (v := Value.int .i64 (x413)) rfl rfl ?_)
        refine WL_step rfl rfl (Exec.move (v := Value.int .i64 (y414)) rfl rfl ?_)
        refine WL_step rfl rfl (Exec.gtr rfl rfl rfl ?_)
        refine WL_nil (at_normal ?_)
        rcases ite_some hm with ⟨hc473, hm⟩ | ⟨hc473, hm⟩
        · refine W_cond_t rfl hc473 ?_
          refine W_seq ?_
          refine W_region ?_
          refine WL_step rfl rfl (Exec.assign (v := Value.int .i64 (1)) rfl rfl ?_)
          refine WL_nil (at_normal ?_)
          refine W_ret (at_ret ?_)
          have e475 := Option.some.inj hm
          subst r
          refine ⟨_, ret1 rfl, ?_⟩
          exact ⟨s458, (PHeap.le.trans l451 l459), hS460, rfl⟩
        · refine W_cond_f rfl hc473 ?_
          replace hc473 := not_true hc473
          refine W_skip (at_normal ?_)
          refine W_seq ?_
          refine W_region ?_
          refine WL_step rfl rfl (Exec.assign (v := Value.int .i64 (0)) rfl rfl ?_)
          refine WL_nil (at_normal ?_)
          refine W_ret ?_
          have e477 := Option.some.inj hm
          subst r
          refine ⟨_, ret1 rfl, ?_⟩
          exact ⟨s458, (PHeap.le.trans l451 l459), hS460, rfl⟩

theorem N55 : (Try.f55.name == "runtime.NumGoroutine") = false := by kernel_rfl

theorem cmp_Or_int__sim {w0 w : World} {s : PHeap} {H : List Res} {vals498 : (List Int)} {v499 : Value} {r : Int} (hm : cmp_Or_int__p vals498 = some r) (hS : St w0 s (H) w) (a500 : SliceRep (encInt .i64) s v499 vals498) :
    Calls Try.prog 55 #[v499] w fun e w' => ∃ v, e = .returned v ∧ ((fun (y597 : Int) => ∃ (s598 : PHeap) , PHeap.le s s598 ∧ St w0 s598 (H) w' ∧ v = Value.int .i64 (y597)) r) := by
  unfold cmp_Or_int__p at hm
  refine calls_of_W Try.func55 rfl rfl ?_
  refine W_seq ?_
  refine W_region ?_
  refine WL_step rfl rfl (Exec.assign (v := Value.int .i64 (0)) rfl rfl ?_)
  refine WL_nil (at_normal ?_)
  refine W_seq ?_
  refine W_region ?_
  refine WL_step rfl rfl (Exec.assign (v := Value.int .i64 (0)) rfl rfl ?_)
  refine WL_nil (at_normal ?_)
  refine W_seq ?_
  refine W_seq ?_
  refine W_region ?_
  refine WL_step rfl rfl (Exec.move (v := v499) rfl rfl ?_)
  refine WL_step rfl rfl (Exec.len_rep S22 rfl rfl a500 ?_)
  refine WL_step rfl rfl (Exec.move (v := Value.int .i64 (0)) rfl rfl ?_)
  refine WL_nil (at_normal ?_)
  obtain ⟨c632, hB633, hr634, hn635, hb636⟩ := ctl_some hm
  refine W_mid (M := fun f' w' => ∃ s', (c632 = .next s' ∨ c632 = .brk s') ∧ (fun (_ : Unit) => ∃ (s638 : PHeap) , PHeap.le s s638 ∧ St w0 s638 (H) w' ∧ f' 3 = Value.int .i64 (0) ∧ f' 6 = v499 ∧ f' 7 = Value.int .i64 ((vals498.length : Int))) s') ?_ ?_
  · refine W_block (W_forC (fun k' s' f' w' => (fun (_ : Unit) => ∃ (s637 : PHeap) , PHeap.le s s637 ∧ St w0 s637 (H) w' ∧ f' 3 = Value.int .i64 (0) ∧ f' 6 = v499 ∧ f' 7 = Value.int .i64 ((vals498.length : Int)) ∧ f' 8 = Value.int .i64 (k' : Int)) s') hB633 ?_ ?_ ?_)
    · exact ⟨s, (PHeap.le_refl _), hS, rfl, rfl, rfl, rfl⟩
    · intro i599 t646 c640 f641 w642 hi647 hI643 hm644 hres645
      obtain ⟨s648, l649, hS650, p651, p652, p653, x654⟩ := hI643
      refine W_seq ?_
      refine W_region ?_
      refine WL_step rfl rfl (Exec.lss rfl x654 p653 ?_)
      refine WL_nil (at_normal ?_)
      refine W_seq ?_
      refine W_true (congrArg Value.bool (decide_eq_true (by omega))) ?_
      refine W_skip (at_normal ?_)
      refine W_seq ?_
      refine W_block ?_
      refine W_seq ?_
      refine W_region ?_
      obtain ⟨x662, q663, hm644⟩ := bind_some hm644
      refine WL_step rfl rfl (Exec.index_rep S22 rfl p652 x654 (a500.mono l649) q663 ?_)
      intro b664 o665 a666
      refine WL_step rfl rfl (Exec.load_at (E := (encInt .i64)) hS650 A3 rfl rfl rfl a666 ?_)
      intro v667 q668
      obtain rfl := encInt_val.1 q668
      refine WL_step rfl rfl (Exec.assign (v := Value.int .i64 (x662)) rfl rfl ?_)
      refine WL_nil (at_normal ?_)
      refine W_seq ?_
      refine W_region ?_
      refine WL_step rfl rfl (Exec.move (v := Value.int .i64 (x662)) rfl rfl ?_)
      refine WL_step rfl rfl (Exec.move (v := Value.int .i64 (0)) rfl p651 ?_)
      refine WL_step rfl rfl (Exec.neq rfl rfl rfl ?_)
      refine WL_nil (at_normal ?_)
      rcases ite_some hm644 with ⟨hc669, hm644⟩ | ⟨hc669, hm644⟩
      · refine W_cond_t rfl hc669 ?_
        refine W_seq ?_
        refine W_region ?_
        refine WL_step rfl rfl (Exec.move (v := Value.int .i64 (x662)) rfl rfl ?_)
        refine WL_step rfl rfl (Exec.assign (v := Value.int .i64 (x662)) rfl rfl ?_)
        refine WL_nil (at_normal ?_)
        refine W_ret (ib_ret (at_ret (at_ret (ib_ret (at_ret (at_ret ?_))))))
        have e670 := Option.some.inj hm644
        subst c640
        have hq671 := hr634 _ (hres645 (by intro _ h; cases h))
        have e672 := Option.some.inj hq671
        subst r
        refine ⟨_, ret1 rfl, ?_⟩
        exact ⟨s648, l649, hS650, rfl⟩
      · refine W_cond_f rfl hc669 ?_
        replace hc669 := not_true hc669
        refine W_skip (ib_normal (at_normal ?_))
        refine W_region ?_
        refine WL_step rfl rfl (Exec.add rfl x654 rfl ?_)
        refine WL_step rfl rfl (Exec.move (v := Value.int .i64 (IntKind.i64.wrap ((i599 : Int) + 1))) rfl rfl ?_)
        refine WL_nil (at_normal ?_)
        have e673 := Option.some.inj hm644
        subst c640
        refine ⟨_, rfl, ?_⟩; exact ⟨s648, l649, hS650, p651, p652, p653, (Eq.trans rfl (wrap_up hi647 (SliceRep.le a500)))⟩
    · intro t674 f675 w676 hI677 hres678
      obtain ⟨s679, l680, hS681, p682, p683, p684, x685⟩ := hI677
      refine W_seq ?_
      refine W_region ?_
      refine WL_step rfl rfl (Exec.lss rfl x685 p684 ?_)
      refine WL_nil (at_normal ?_)
      refine W_seq ?_
      refine W_false (congrArg Value.bool (decide_eq_false (by omega))) ?_
      refine W_exit (at_exit (at_exit (ib_here (at_normal ?_))))
      refine ⟨_, .inl hres678, ?_⟩; exact ⟨s679, l680, hS681, p682, p683, p684⟩
  · rintro f686 w687 ⟨t688, hc689, hM690⟩
    have hm := hc689.elim (hn635 _) (hb636 _)
    clear hc689
    obtain ⟨s691, l692, hS693, p694, p695, p696⟩ := hM690
    refine (at_normal ?_)
    refine W_seq ?_
    refine W_region ?_
    refine WL_step rfl rfl (Exec.move (v := Value.int .i64 (0)) rfl p694 ?_)
    refine WL_step rfl rfl (Exec.assign (v := Value.int .i64 (0)) rfl rfl ?_)
    refine WL_nil (at_normal ?_)
    refine W_ret ?_
    have e698 := Option.some.inj hm
    subst r
    refine ⟨_, ret1 rfl, ?_⟩
    exact ⟨s691, l692, hS693, rfl⟩

theorem N39 : (Try.f39.name == "runtime.NumGoroutine") = false := by kernel_rfl

theorem transys_compare_sim {w0 w : World} {s : PHeap} {H : List Res} {a398 : Edge} {b399 : Edge}  {r : Int} (hm : transys_compare_p a398 b399 = some r) (hS : St w0 s (H) w)  :
    Calls Try.prog 39 #[Value.agg #[Value.int .i64 (a398.From), Value.int .i64 (a398.Label), Value.int .i64 (a398.To)], Value.agg #[Value.int .i64 (b399.From), Value.int .i64 (b399.Label), Value.int .i64 (b399.To)]] w fun e w' => ∃ v, e = .returned v ∧ ((fun (y791 : Int) => ∃ (s792 : PHeap) , PHeap.le s s792 ∧ St w0 s792 (H) w' ∧ v = Value.int .i64 (y791)) r) := by
  unfold transys_compare_p at hm
  refine calls_of_W Try.func39 rfl rfl ?_
  refine W_seq ?_
  refine W_region ?_
  refine WL_step rfl rfl (Exec.box (cs := [Value.int .i64 (a398.From), Value.int .i64 (a398.Label), Value.int .i64 (a398.To)]) hS rfl rfl rfl ?_)
  intro b799 w800 hS801
  refine WL_step rfl rfl (Exec.box (cs := [Value.int .i64 (b399.From), Value.int .i64 (b399.Label), Value.int .i64 (b399.To)]) hS801 rfl rfl rfl ?_)
  intro b802 w803 hS804
  refine WL_step rfl rfl (Exec.assign (v := Value.int .i64 (0)) rfl rfl ?_)
  refine WL_nil (at_normal ?_)
  refine W_seq ?_
  refine W_dl (n0 := 17) (.q 0 (.q 1 (.q 2 (.q 3 (.q 5 (.q 6 (.q 7 (.q 8 (.q 10 (.q 11 (.q 12 (.q 13 (.e 4 [5, 6, 7, 8, 10, 11, 12, 13] (.e 9 [10, 11, 12, 13] (.e 14 [] (.e 15 [] (.e 16 [] .done))))))))))))))))) hmix (by kernel_rfl) (by kernel_rfl) ?_
  have hS889 := hS804.drew
  refine DL_q rfl rfl (Exec.field F66_0 rfl rfl rfl ⟨rfl, ?_⟩)
  refine DL_q rfl rfl (Exec.load_box ((hS889).f1) A3 rfl rfl rfl ⟨rfl, ?_⟩)
  refine DL_q rfl rfl (Exec.field F66_0 rfl rfl rfl ⟨rfl, ?_⟩)
  refine DL_q rfl rfl (Exec.load_box (hS889) A3 rfl rfl rfl ⟨rfl, ?_⟩)
  refine DL_q rfl rfl (Exec.field F66_1 rfl rfl rfl ⟨rfl, ?_⟩)
  refine DL_q rfl rfl (Exec.load_box ((hS889).f1) A3 rfl rfl rfl ⟨rfl, ?_⟩)
  refine DL_q rfl rfl (Exec.field F66_1 rfl rfl rfl ⟨rfl, ?_⟩)
  refine DL_q rfl rfl (Exec.load_box (hS889) A3 rfl rfl rfl ⟨rfl, ?_⟩)
  refine DL_q rfl rfl (Exec.field F66_2 rfl rfl rfl ⟨rfl, ?_⟩)
  refine DL_q rfl rfl (Exec.load_box ((hS889).f1) A3 rfl rfl rfl ⟨rfl, ?_⟩)
  refine DL_q rfl rfl (Exec.field F66_2 rfl rfl rfl ⟨rfl, ?_⟩)
  refine DL_q rfl rfl (Exec.load_box (hS889) A3 rfl rfl rfl ⟨rfl, ?_⟩)
  refine DL_e rfl rfl (Exec.call rfl rfl Try.func56 rfl N56 (args_cons rfl (args_cons rfl args_nil)) ((cmp_Compare_int__sim (cmp_Compare_int__tot a398.From b399.From) hS889 ).mono ?_))
  rintro _ w890 ⟨_, rfl, ⟨s891, l892, hS893, rfl⟩⟩
  refine ⟨_, rfl, ?_⟩
  refine ⟨(ag_cons (ag_r rfl rfl (Exec.field F66_1 rfl rfl rfl ⟨rfl, rfl⟩)) (ag_cons (ag_r rfl rfl (Exec.load_box ((hS893).f1) A3 rfl rfl rfl ⟨rfl, rfl⟩)) (ag_cons (ag_r rfl rfl (Exec.field F66_1 rfl rfl rfl ⟨rfl, rfl⟩)) (ag_cons (ag_r rfl rfl (Exec.load_box (hS893) A3 rfl rfl rfl ⟨rfl, rfl⟩)) (ag_cons (ag_r rfl rfl (Exec.field F66_2 rfl rfl rfl ⟨rfl, rfl⟩)) (ag_cons (ag_r rfl rfl (Exec.load_box ((hS893).f1) A3 rfl rfl rfl ⟨rfl, rfl⟩)) (ag_cons (ag_r rfl rfl (Exec.field F66_2 rfl rfl rfl ⟨rfl, rfl⟩)) (ag_cons (ag_r rfl rfl (Exec.load_box (hS893) A3 rfl rfl rfl ⟨rfl, rfl⟩)) ag_nil)))))))), ?_⟩
  refine DL_e rfl rfl (Exec.call rfl rfl Try.func56 rfl N56 (args_cons rfl (args_cons rfl args_nil)) ((cmp_Compare_int__sim (cmp_Compare_int__tot a398.Label b399.Label) hS893 ).mono ?_))
  rintro _ w894 ⟨_, rfl, ⟨s895, l896, hS897, rfl⟩⟩
  refine ⟨_, rfl, ?_⟩
  refine ⟨(ag_cons (ag_r rfl rfl (Exec.field F66_2 rfl rfl rfl ⟨rfl, rfl⟩)) (ag_cons (ag_r rfl rfl (Exec.load_box ((hS897).f1) A3 rfl rfl rfl ⟨rfl, rfl⟩)) (ag_cons (ag_r rfl rfl (Exec.field F66_2 rfl rfl rfl ⟨rfl, rfl⟩)) (ag_cons (ag_r rfl rfl (Exec.load_box (hS897) A3 rfl rfl rfl ⟨rfl, rfl⟩)) ag_nil)))), ?_⟩
  refine DL_e rfl rfl (Exec.call rfl rfl Try.func56 rfl N56 (args_cons rfl (args_cons rfl args_nil)) ((cmp_Compare_int__sim (cmp_Compare_int__tot a398.To b399.To) hS897 ).mono ?_))
  rintro _ w898 ⟨_, rfl, ⟨s899, l900, hS901, rfl⟩⟩
  refine ⟨_, rfl, ?_⟩
  refine ⟨ag_nil, ?_⟩
  refine DL_e rfl rfl (Exec.buildSlice (Te := 3) (cs := [Value.int .i64 ((cmp_Compare_int__t a398.From b399.From)), Value.int .i64 ((cmp_Compare_int__t a398.Label b399.Label)), Value.int .i64 ((cmp_Compare_int__t a398.To b399.To))]) hS901 rfl (parts_cons (c := [Value.int .i64 ((cmp_Compare_int__t a398.From b399.From))]) (cells_of rfl rfl) (parts_cons (c := [Value.int .i64 ((cmp_Compare_int__t a398.Label b399.Label))]) (cells_of rfl rfl) (parts_cons (c := [Value.int .i64 ((cmp_Compare_int__t a398.To b399.To))]) (cells_of rfl rfl) parts_nil))) (fun _ => by kernel_rfl) ?_)
  intro b902 w903 hS904
  refine ⟨ag_nil, ?_⟩
  have hS905 := St.boxArr (E := (encInt .i64)) (xs := [(cmp_Compare_int__t a398.From b399.From), (cmp_Compare_int__t a398.Label b399.Label), (cmp_Compare_int__t a398.To b399.To)]) hS904 ⟨[Value.int .i64 ((cmp_Compare_int__t a398.From b399.From))], [Value.int .i64 ((cmp_Compare_int__t a398.Label b399.Label)), Value.int .i64 ((cmp_Compare_int__t a398.To b399.To))], rfl, rfl, ⟨[Value.int .i64 ((cmp_Compare_int__t a398.Label b399.Label))], [Value.int .i64 ((cmp_Compare_int__t a398.To b399.To))], rfl, rfl, ⟨[Value.int .i64 ((cmp_Compare_int__t a398.To b399.To))], [], rfl, rfl, rfl⟩⟩⟩ (by simp [maxLen])
  obtain ⟨s906, l907, hS908, r909⟩ := hS905.freezeArr
  obtain ⟨y912, q911, hm⟩ := bind_some hm
  refine DL_e rfl rfl (Exec.call rfl rfl Try.func55 rfl N55 (args_cons rfl args_nil) ((cmp_Or_int__sim q911 hS908 r909).mono ?_))
  rintro _ w913 ⟨_, rfl, ⟨s914, l915, hS916, rfl⟩⟩
  refine ⟨_, rfl, ?_⟩
  refine ⟨ag_nil, ?_⟩
  refine DL_done ?_
  refine WL_step rfl rfl (Exec.assign (v := Value.int .i64 (y912)) rfl rfl ?_)
  refine WL_nil (at_normal ?_)
  refine W_ret ?_
  have e918 := Option.some.inj hm
  subst r
  refine ⟨_, ret1 rfl, ?_⟩
  have hS919 := (hS916).drop
  have hS920 := (hS919).drop
  exact ⟨s914, (PHeap.le.trans (PHeap.le.trans (PHeap.le.trans (PHeap.le.trans l892 l896) l900) l907) l915), hS920, rfl⟩

theorem N25 : (Try.f25.name == "runtime.NumGoroutine") = false := by kernel_rfl

theorem transys_Valid_sim {w0 w : World} {s : PHeap} {H : List Res} {x184 : System} {v185 : Value} {v187 : Value} {v189 : Value} {r : Bool} (hm : transys_Valid_p x184 = some r) (hS : St w0 s (H) w) (a186 : SliceRep (encInt .i64) s v185 x184.Costs) (a188 : SliceRep encEdge s v187 x184.Edges) (a190 : SliceRep encBool s v189 x184.Goals) :
    Calls Try.prog 25 #[Value.agg #[Value.int .i64 (x184.States), Value.int .i64 (x184.Init), v185, v187, v189]] w fun e w' => ∃ v, e = .returned v ∧ ((fun (y1371 : Bool) => ∃ (s1372 : PHeap) , PHeap.le s s1372 ∧ St w0 s1372 (H) w' ∧ v = Value.bool (y1371)) r) := by
  unfold transys_Valid_p at hm
  refine calls_of_W Try.func25 rfl rfl ?_
  refine W_seq ?_
  refine W_region ?_
  refine WL_step rfl rfl (Exec.box (cs := [Value.int .i64 (x184.States), Value.int .i64 (x184.Init), v185, v187, v189]) hS rfl rfl rfl ?_)
  intro b1376 w1377 hS1378
  refine WL_step rfl rfl (Exec.assign (v := Value.bool (false)) rfl rfl ?_)
  refine WL_nil (at_normal ?_)
  refine W_seq ?_
  refine W_seq ?_
  refine W_mid (M := fun f' w' => ∃ (s1385 : PHeap) , PHeap.le s s1385 ∧ St w0 s1385 (Res.box b1376 26 [Value.int .i64 (x184.States), Value.int .i64 (x184.Init), v185, v187, v189] :: H) w' ∧ f' 1 = Value.pointer (some ⟨b1376, 0, none⟩) ∧ f' 46 = Value.bool (((decide (x184.States < 1)) || ((decide (4096 < x184.States)) || ((decide (x184.Init < 0)) || ((decide (x184.States ≤ x184.Init)) || ((!decide ((x184.Goals.length : Int) = x184.States)) || ((decide (4096 < (x184.Costs.length : Int))) || decide (65536 < (x184.Edges.length : Int)))))))))) ?_ ?_
  · refine W_region ?_
    refine WL_step rfl rfl (Exec.field F26_0 rfl rfl rfl ?_)
    refine WL_step rfl rfl (Exec.load_box (hS1378) A3 rfl rfl rfl ?_)
    refine WL_step rfl rfl (Exec.lss rfl rfl rfl ?_)
    refine WL_step rfl rfl (Exec.move (v := Value.bool (decide (x184.States < 1))) rfl rfl ?_)
    by_cases hc1386 : (decide (x184.States < 1)) = true
    · refine WL_pass rfl (yield_of rfl (congrArg Value.bool hc1386)) rfl rfl ?_
      refine WL_pass rfl (yield_of rfl (congrArg Value.bool hc1386)) rfl rfl ?_
      refine WL_pass rfl (yield_of rfl (congrArg Value.bool hc1386)) rfl rfl ?_
      refine WL_step rfl rfl (Exec.pick_t (v := Value.bool (true)) rfl (congrArg Value.bool hc1386) rfl ?_)
      refine WL_step rfl rfl (Exec.move (v := Value.bool (true)) rfl rfl ?_)
      refine WL_pass rfl (yield_of rfl rfl) rfl rfl ?_
      refine WL_pass rfl (yield_of rfl rfl) rfl rfl ?_
      refine WL_pass rfl (yield_of rfl rfl) rfl rfl ?_
      refine WL_step rfl rfl (Exec.pick_t (v := Value.bool (true)) rfl rfl rfl ?_)
      refine WL_step rfl rfl (Exec.move (v := Value.bool (true)) rfl rfl ?_)
      refine WL_pass rfl (yield_of rfl rfl) rfl rfl ?_
      refine WL_pass rfl (yield_of rfl rfl) rfl rfl ?_
      refine WL_pass rfl (yield_of rfl rfl) rfl rfl ?_
      refine WL_pass rfl (yield_of rfl rfl) rfl rfl ?_
      refine WL_pass rfl (yield_of rfl rfl) rfl rfl ?_
      refine WL_step rfl rfl (Exec.pick_t (v := Value.bool (true)) rfl rfl rfl ?_)
      refine WL_step rfl rfl (Exec.move (v := Value.bool (true)) rfl rfl ?_)
      refine WL_pass rfl (yield_of rfl rfl) rfl rfl ?_
      refine WL_pass rfl (yield_of rfl rfl) rfl rfl ?_
      refine WL_pass rfl (yield_of rfl rfl) rfl rfl ?_
      refine WL_pass rfl (yield_of rfl rfl) rfl rfl ?_
      refine WL_pass rfl (yield_of rfl rfl) rfl rfl ?_
      refine WL_pass rfl (yield_of rfl rfl) rfl rfl ?_
      refine WL_step rfl rfl (Exec.pick_t (v := Value.bool (true)) rfl rfl rfl ?_)
      refine WL_step rfl rfl (Exec.move (v := Value.bool (true)) rfl rfl ?_)
      refine WL_pass rfl (yield_of rfl rfl) rfl rfl ?_
      refine WL_pass rfl (yield_of rfl rfl) rfl rfl ?_
      refine WL_pass rfl (yield_of rfl rfl) rfl rfl ?_
      refine WL_pass rfl (yield_of rfl rfl) rfl rfl ?_
      refine WL_step rfl rfl (Exec.pick_t (v := Value.bool (true)) rfl rfl rfl ?_)
      refine WL_step rfl rfl (Exec.move (v := Value.bool (true)) rfl rfl ?_)
      refine WL_pass rfl (yield_of rfl rfl) rfl rfl ?_
      refine WL_pass rfl (yield_of rfl rfl) rfl rfl ?_
      refine WL_pass rfl (yield_of rfl rfl) rfl rfl ?_
      refine WL_pass rfl (yield_of rfl rfl) rfl rfl ?_
      refine WL_step rfl rfl (Exec.pick_t (v := Value.bool (true)) rfl rfl rfl ?_)
      refine WL_nil (at_normal ?_)
      exact ⟨s, (PHeap.le_refl _), hS1378, rfl, (congrArg Value.bool (or_t hc1386)).symm⟩
    · replace hc1386 := not_true hc1386
      refine WL_run rfl (yield_of rfl (congrArg Value.bool hc1386)) rfl (Exec.field F26_0 rfl rfl rfl ?_)
      refine WL_run rfl (yield_of rfl (congrArg Value.bool hc1386)) rfl (Exec.load_box (hS1378) A3 rfl rfl rfl ?_)
      refine WL_run rfl (yield_of rfl (congrArg Value.bool hc1386)) rfl (Exec.gtr rfl rfl rfl ?_)
      refine WL_step rfl rfl (Exec.pick_f (v := Value.bool (decide (4096 < x184.States))) rfl (congrArg Value.bool hc1386) rfl ?_)
      refine WL_step rfl rfl (Exec.move (v := Value.bool (decide (4096 < x184.States))) rfl rfl ?_)
      by_cases hc1387 : (decide (4096 < x184.States)) = true
      · refine WL_pass rfl (yield_of rfl (congrArg Value.bool hc1387)) rfl rfl ?_
        refine WL_pass rfl (yield_of rfl (congrArg Value.bool hc1387)) rfl rfl ?_
        refine WL_pass rfl (yield_of rfl (congrArg Value.bool hc1387)) rfl rfl ?_
        refine WL_step rfl rfl (Exec.pick_t (v := Value.bool (true)) rfl (congrArg Value.bool hc1387) rfl ?_)
        refine WL_step rfl rfl (Exec.move (v := Value.bool (true)) rfl rfl ?_)
        refine WL_pass rfl (yield_of rfl rfl) rfl rfl ?_
        refine WL_pass rfl (yield_of rfl rfl) rfl rfl ?_
        refine WL_pass rfl (yield_of rfl rfl) rfl rfl ?_
        refine WL_pass rfl (yield_of rfl rfl) rfl rfl ?_
        refine WL_pass rfl (yield_of rfl rfl) rfl rfl ?_
        refine WL_step rfl rfl (Exec.pick_t (v := Value.bool (true)) rfl rfl rfl ?_)
        refine WL_step rfl rfl (Exec.move (v := Value.bool (true)) rfl rfl ?_)
        refine WL_pass rfl (yield_of rfl rfl) rfl rfl ?_
        refine WL_pass rfl (yield_of rfl rfl) rfl rfl ?_
        refine WL_pass rfl (yield_of rfl rfl) rfl rfl ?_
        refine WL_pass rfl (yield_of rfl rfl) rfl rfl ?_
        refine WL_pass rfl (yield_of rfl rfl) rfl rfl ?_
        refine WL_pass rfl (yield_of rfl rfl) rfl rfl ?_
        refine WL_step rfl rfl (Exec.pick_t (v := Value.bool (true)) rfl rfl rfl ?_)
        refine WL_step rfl rfl (Exec.move (v := Value.bool (true)) rfl rfl ?_)
        refine WL_pass rfl (yield_of rfl rfl) rfl rfl ?_
        refine WL_pass rfl (yield_of rfl rfl) rfl rfl ?_
        refine WL_pass rfl (yield_of rfl rfl) rfl rfl ?_
        refine WL_pass rfl (yield_of rfl rfl) rfl rfl ?_
        refine WL_step rfl rfl (Exec.pick_t (v := Value.bool (true)) rfl rfl rfl ?_)
        refine WL_step rfl rfl (Exec.move (v := Value.bool (true)) rfl rfl ?_)
        refine WL_pass rfl (yield_of rfl rfl) rfl rfl ?_
        refine WL_pass rfl (yield_of rfl rfl) rfl rfl ?_
        refine WL_pass rfl (yield_of rfl rfl) rfl rfl ?_
        refine WL_pass rfl (yield_of rfl rfl) rfl rfl ?_
        refine WL_step rfl rfl (Exec.pick_t (v := Value.bool (true)) rfl rfl rfl ?_)
        refine WL_nil (at_normal ?_)
        exact ⟨s, (PHeap.le_refl _), hS1378, rfl, (congrArg Value.bool (Eq.trans (or_f hc1386) (or_t hc1387))).symm⟩
      · replace hc1387 := not_true hc1387
        refine WL_run rfl (yield_of rfl (congrArg Value.bool hc1387)) rfl (Exec.field F26_1 rfl rfl rfl ?_)
        refine WL_run rfl (yield_of rfl (congrArg Value.bool hc1387)) rfl (Exec.load_box (hS1378) A3 rfl rfl rfl ?_)
        refine WL_run rfl (yield_of rfl (congrArg Value.bool hc1387)) rfl (Exec.lss rfl rfl rfl ?_)
        refine WL_step rfl rfl (Exec.pick_f (v := Value.bool (decide (x184.Init < 0))) rfl (congrArg Value.bool hc1387) rfl ?_)
        refine WL_step rfl rfl (Exec.move (v := Value.bool (decide (x184.Init < 0))) rfl rfl ?_)
        by_cases hc1388 : (decide (x184.Init < 0)) = true
        · refine WL_pass rfl (yield_of rfl (congrArg Value.bool hc1388)) rfl rfl ?_
          refine WL_pass rfl (yield_of rfl (congrArg Value.bool hc1388)) rfl rfl ?_
          refine WL_pass rfl (yield_of rfl (congrArg Value.bool hc1388)) rfl rfl ?_
          refine WL_pass rfl (yield_of rfl (congrArg Value.bool hc1388)) rfl rfl ?_
          refine WL_pass rfl (yield_of rfl (congrArg Value.bool hc1388)) rfl rfl ?_
          refine WL_step rfl rfl (Exec.pick_t (v := Value.bool (true)) rfl (congrArg Value.bool hc1388) rfl ?_)
          refine WL_step rfl rfl (Exec.move (v := Value.bool (true)) rfl rfl ?_)
          refine WL_pass rfl (yield_of rfl rfl) rfl rfl ?_
          refine WL_pass rfl (yield_of rfl rfl) rfl rfl ?_
          refine WL_pass rfl (yield_of rfl rfl) rfl rfl ?_
          refine WL_pass rfl (yield_of rfl rfl) rfl rfl ?_
          refine WL_pass rfl (yield_of rfl rfl) rfl rfl ?_
          refine WL_pass rfl (yield_of rfl rfl) rfl rfl ?_
          refine WL_step rfl rfl (Exec.pick_t (v := Value.bool (true)) rfl rfl rfl ?_)
          refine WL_step rfl rfl (Exec.move (v := Value.bool (true)) rfl rfl ?_)
          refine WL_pass rfl (yield_of rfl rfl) rfl rfl ?_
          refine WL_pass rfl (yield_of rfl rfl) rfl rfl ?_
          refine WL_pass rfl (yield_of rfl rfl) rfl rfl ?_
          refine WL_pass rfl (yield_of rfl rfl) rfl rfl ?_
          refine WL_step rfl rfl (Exec.pick_t (v := Value.bool (true)) rfl rfl rfl ?_)
          refine WL_step rfl rfl (Exec.move (v := Value.bool (true)) rfl rfl ?_)
          refine WL_pass rfl (yield_of rfl rfl) rfl rfl ?_
          refine WL_pass rfl (yield_of rfl rfl) rfl rfl ?_
          refine WL_pass rfl (yield_of rfl rfl) rfl rfl ?_
          refine WL_pass rfl (yield_of rfl rfl) rfl rfl ?_
          refine WL_step rfl rfl (Exec.pick_t (v := Value.bool (true)) rfl rfl rfl ?_)
          refine WL_nil (at_normal ?_)
          exact ⟨s, (PHeap.le_refl _), hS1378, rfl, (congrArg Value.bool (Eq.trans (or_f hc1386) (Eq.trans (or_f hc1387) (or_t hc1388)))).symm⟩
        · replace hc1388 := not_true hc1388
          refine WL_run rfl (yield_of rfl (congrArg Value.bool hc1388)) rfl (Exec.field F26_1 rfl rfl rfl ?_)
          refine WL_run rfl (yield_of rfl (congrArg Value.bool hc1388)) rfl (Exec.load_box (hS1378) A3 rfl rfl rfl ?_)
          refine WL_run rfl (yield_of rfl (congrArg Value.bool hc1388)) rfl (Exec.field F26_0 rfl rfl rfl ?_)
          refine WL_run rfl (yield_of rfl (congrArg Value.bool hc1388)) rfl (Exec.load_box (hS1378) A3 rfl rfl rfl ?_)
          refine WL_run rfl (yield_of rfl (congrArg Value.bool hc1388)) rfl (Exec.geq rfl rfl rfl ?_)
          refine WL_step rfl rfl (Exec.pick_f (v := Value.bool (decide (x184.States ≤ x184.Init))) rfl (congrArg Value.bool hc1388) rfl ?_)
          refine WL_step rfl rfl (Exec.move (v := Value.bool (decide (x184.States ≤ x184.Init))) rfl rfl ?_)
          by_cases hc1389 : (decide (x184.States ≤ x184.Init)) = true
          · refine WL_pass rfl (yield_of rfl (congrArg Value.bool hc1389)) rfl rfl ?_
            refine WL_pass rfl (yield_of rfl (congrArg Value.bool hc1389)) rfl rfl ?_
            refine WL_pass rfl (yield_of rfl (congrArg Value.bool hc1389)) rfl rfl ?_
            refine WL_pass rfl (yield_of rfl (congrArg Value.bool hc1389)) rfl rfl ?_
            refine WL_pass rfl (yield_of rfl (congrArg Value.bool hc1389)) rfl rfl ?_
            refine WL_pass rfl (yield_of rfl (congrArg Value.bool hc1389)) rfl rfl ?_
            refine WL_step rfl rfl (Exec.pick_t (v := Value.bool (true)) rfl (congrArg Value.bool hc1389) rfl ?_)
            refine WL_step rfl rfl (Exec.move (v := Value.bool (true)) rfl rfl ?_)
            refine WL_pass rfl (yield_of rfl rfl) rfl rfl ?_
            refine WL_pass rfl (yield_of rfl rfl) rfl rfl ?_
            refine WL_pass rfl (yield_of rfl rfl) rfl rfl ?_
            refine WL_pass rfl (yield_of rfl rfl) rfl rfl ?_
            refine WL_step rfl rfl (Exec.pick_t (v := Value.bool (true)) rfl rfl rfl ?_)
            refine WL_step rfl rfl (Exec.move (v := Value.bool (true)) rfl rfl ?_)
            refine WL_pass rfl (yield_of rfl rfl) rfl rfl ?_
            refine WL_pass rfl (yield_of rfl rfl) rfl rfl ?_
            refine WL_pass rfl (yield_of rfl rfl) rfl rfl ?_
            refine WL_pass rfl (yield_of rfl rfl) rfl rfl ?_
            refine WL_step rfl rfl (Exec.pick_t (v := Value.bool (true)) rfl rfl rfl ?_)
            refine WL_nil (at_normal ?_)
            exact ⟨s, (PHeap.le_refl _), hS1378, rfl, (congrArg Value.bool (Eq.trans (or_f hc1386) (Eq.trans (or_f hc1387) (Eq.trans (or_f hc1388) (or_t hc1389))))).symm⟩
          · replace hc1389 := not_true hc1389
            refine WL_run rfl (yield_of rfl (congrArg Value.bool hc1389)) rfl (Exec.field F26_4 rfl rfl rfl ?_)
            refine WL_run rfl (yield_of rfl (congrArg Value.bool hc1389)) rfl (Exec.load_box (hS1378) A24 rfl rfl rfl ?_)
            refine WL_run rfl (yield_of rfl (congrArg Value.bool hc1389)) rfl (Exec.len_rep S24 rfl rfl a190 ?_)
            refine WL_run rfl (yield_of rfl (congrArg Value.bool hc1389)) rfl (Exec.field F26_0 rfl rfl rfl ?_)
            refine WL_run rfl (yield_of rfl (congrArg Value.bool hc1389)) rfl (Exec.load_box (hS1378) A3 rfl rfl rfl ?_)
            refine WL_run rfl (yield_of rfl (congrArg Value.bool hc1389)) rfl (Exec.neq rfl rfl rfl ?_)
            refine WL_step rfl rfl (Exec.pick_f (v := Value.bool (!decide ((x184.Goals.length : Int) = x184.States))) rfl (congrArg Value.bool hc1389) rfl ?_)
            refine WL_step rfl rfl (Exec.move (v := Value.bool (!decide ((x184.Goals.length : Int) = x184.States))) rfl rfl ?_)
            by_cases hc1390 : (!decide ((x184.Goals.length : Int) = x184.States)) = true
            · refine WL_pass rfl (yield_of rfl (congrArg Value.bool hc1390)) rfl rfl ?_
              refine WL_pass rfl (yield_of rfl (congrArg Value.bool hc1390)) rfl rfl ?_
              refine WL_pass rfl (yield_of rfl (congrArg Value.bool hc1390)) rfl rfl ?_
              refine WL_pass rfl (yield_of rfl (congrArg Value.bool hc1390)) rfl rfl ?_
              refine WL_step rfl rfl (Exec.pick_t (v := Value.bool (true)) rfl (congrArg Value.bool hc1390) rfl ?_)
              refine WL_step rfl rfl (Exec.move (v := Value.bool (true)) rfl rfl ?_)
              refine WL_pass rfl (yield_of rfl rfl) rfl rfl ?_
              refine WL_pass rfl (yield_of rfl rfl) rfl rfl ?_
              refine WL_pass rfl (yield_of rfl rfl) rfl rfl ?_
              refine WL_pass rfl (yield_of rfl rfl) rfl rfl ?_
              refine WL_step rfl rfl (Exec.pick_t (v := Value.bool (true)) rfl rfl rfl ?_)
              refine WL_nil (at_normal ?_)
              exact ⟨s, (PHeap.le_refl _), hS1378, rfl, (congrArg Value.bool (Eq.trans (or_f hc1386) (Eq.trans (or_f hc1387) (Eq.trans (or_f hc1388) (Eq.trans (or_f hc1389) (or_t hc1390)))))).symm⟩
            · replace hc1390 := not_true hc1390
              refine WL_run rfl (yield_of rfl (congrArg Value.bool hc1390)) rfl (Exec.field F26_2 rfl rfl rfl ?_)
              refine WL_run rfl (yield_of rfl (congrArg Value.bool hc1390)) rfl (Exec.load_box (hS1378) A22 rfl rfl rfl ?_)
              refine WL_run rfl (yield_of rfl (congrArg Value.bool hc1390)) rfl (Exec.len_rep S22 rfl rfl a186 ?_)
              refine WL_run rfl (yield_of rfl (congrArg Value.bool hc1390)) rfl (Exec.gtr rfl rfl rfl ?_)
              refine WL_step rfl rfl (Exec.pick_f (v := Value.bool (decide (4096 < (x184.Costs.length : Int)))) rfl (congrArg Value.bool hc1390) rfl ?_)
              refine WL_step rfl rfl (Exec.move (v := Value.bool (decide (4096 < (x184.Costs.length : Int)))) rfl rfl ?_)
              by_cases hc1391 : (decide (4096 < (x184.Costs.length : Int))) = true
              · refine WL_pass rfl (yield_of rfl (congrArg Value.bool hc1391)) rfl rfl ?_
                refine WL_pass rfl (yield_of rfl (congrArg Value.bool hc1391)) rfl rfl ?_
                refine WL_pass rfl (yield_of rfl (congrArg Value.bool hc1391)) rfl rfl ?_
                refine WL_pass rfl (yield_of rfl (congrArg Value.bool hc1391)) rfl rfl ?_
                refine WL_step rfl rfl (Exec.pick_t (v := Value.bool (true)) rfl (congrArg Value.bool hc1391) rfl ?_)
                refine WL_nil (at_normal ?_)
                exact ⟨s, (PHeap.le_refl _), hS1378, rfl, (congrArg Value.bool (Eq.trans (or_f hc1386) (Eq.trans (or_f hc1387) (Eq.trans (or_f hc1388) (Eq.trans (or_f hc1389) (Eq.trans (or_f hc1390) (or_t hc1391))))))).symm⟩
              · replace hc1391 := not_true hc1391
                refine WL_run rfl (yield_of rfl (congrArg Value.bool hc1391)) rfl (Exec.field F26_3 rfl rfl rfl ?_)
                refine WL_run rfl (yield_of rfl (congrArg Value.bool hc1391)) rfl (Exec.load_box (hS1378) A23 rfl rfl rfl ?_)
                refine WL_run rfl (yield_of rfl (congrArg Value.bool hc1391)) rfl (Exec.len_rep S23 rfl rfl a188 ?_)
                refine WL_run rfl (yield_of rfl (congrArg Value.bool hc1391)) rfl (Exec.gtr rfl rfl rfl ?_)
                refine WL_step rfl rfl (Exec.pick_f (v := Value.bool (decide (65536 < (x184.Edges.length : Int)))) rfl (congrArg Value.bool hc1391) rfl ?_)
                refine WL_nil (at_normal ?_)
                exact ⟨s, (PHeap.le_refl _), hS1378, rfl, (congrArg Value.bool (Eq.trans (or_f hc1386) (Eq.trans (or_f hc1387) (Eq.trans (or_f hc1388) (Eq.trans (or_f hc1389) (Eq.trans (or_f hc1390) (or_f hc1391))))))).symm⟩
  · intro f1392 w1393 hM1394
    obtain ⟨s1395, l1396, hS1397, p1398, p1399⟩ := hM1394
    refine (at_normal ?_)
    rcases ite_some hm with ⟨hc1400, hm⟩ | ⟨hc1400, hm⟩
    · refine W_cond_t p1399 hc1400 ?_
      refine W_seq ?_
      refine W_region ?_
      refine WL_step rfl rfl (Exec.assign (v := Value.bool (false)) rfl rfl ?_)
      refine WL_nil (at_normal ?_)
      refine W_ret (at_ret ?_)
      have e1402 := Option.some.inj hm
      subst r
      refine ⟨_, ret1 rfl, ?_⟩
      have hS1403 := (hS1397).drop
      exact ⟨s1395, l1396, hS1403, rfl⟩
    · refine W_cond_f p1399 hc1400 ?_
      replace hc1400 := not_true hc1400
      refine W_skip (at_normal ?_)
      refine W_seq ?_
      refine W_seq ?_
      refine W_region ?_
      refine WL_step rfl rfl (Exec.field F26_2 rfl p1398 rfl ?_)
      refine WL_step rfl rfl (Exec.load_box (hS1397) A22 rfl rfl rfl ?_)
      refine WL_step rfl rfl (Exec.len_rep S22 rfl rfl (a186.mono l1396) ?_)
      refine WL_step rfl rfl (Exec.move (v := Value.int .i64 (0)) rfl rfl ?_)
      refine WL_nil (at_normal ?_)
      obtain ⟨c1465, hB1466, hr1467, hn1468, hb1469⟩ := ctl_some hm
      refine W_mid (M := fun f' w' => ∃ s', (c1465 = .next s' ∨ c1465 = .brk s') ∧ (fun (_ : Unit) => ∃ (s1471 : PHeap) , PHeap.le s1395 s1471 ∧ St w0 s1471 (Res.box b1376 26 [Value.int .i64 (x184.States), Value.int .i64 (x184.Init), v185, v187, v189] :: H) w' ∧ f' 1 = Value.pointer (some ⟨b1376, 0, none⟩) ∧ f' 48 = v185 ∧ f' 49 = Value.int .i64 ((x184.Costs.length : Int))) s') ?_ ?_
      · refine W_block (W_forC (fun k' s' f' w' => (fun (_ : Unit) => ∃ (s1470 : PHeap) , PHeap.le s1395 s1470 ∧ St w0 s1470 (Res.box b1376 26 [Value.int .i64 (x184.States), Value.int .i64 (x184.Init), v185, v187, v189] :: H) w' ∧ f' 1 = Value.pointer (some ⟨b1376, 0, none⟩) ∧ f' 48 = v185 ∧ f' 49 = Value.int .i64 ((x184.Costs.length : Int)) ∧ f' 50 = Value.int .i64 (k' : Int)) s') hB1466 ?_ ?_ ?_)
        · exact ⟨s1395, (PHeap.le_refl _), hS1397, p1398, rfl, rfl, rfl⟩
        · intro i1404 t1479 c1473 f1474 w1475 hi1480 hI1476 hm1477 hres1478
          obtain ⟨s1481, l1482, hS1483, p1484, p1485, p1486, x1487⟩ := hI1476
          refine W_seq ?_
          refine W_region ?_
          refine WL_step rfl rfl (Exec.lss rfl x1487 p1486 ?_)
          refine WL_nil (at_normal ?_)
          refine W_seq ?_
          refine W_true (congrArg Value.bool (decide_eq_true (by omega))) ?_
          refine W_skip (at_normal ?_)
          refine W_seq ?_
          refine W_block ?_
          refine W_seq ?_
          refine W_region ?_
          obtain ⟨x1495, q1496, hm1477⟩ := bind_some hm1477
          refine WL_step rfl rfl (Exec.index_rep S22 rfl p1485 x1487 (a186.mono (PHeap.le.trans l1396 l1482)) q1496 ?_)
          intro b1497 o1498 a1499
          refine WL_step rfl rfl (Exec.load_at (E := (encInt .i64)) hS1483 A3 rfl rfl rfl a1499 ?_)
          intro v1500 q1501
          obtain rfl := encInt_val.1 q1501
          refine WL_step rfl rfl (Exec.assign (v := Value.int .i64 (x1495)) rfl rfl ?_)
          refine WL_nil (at_normal ?_)
          refine W_seq ?_
          refine W_mid (M := fun f' w' => ∃ (s1503 : PHeap) , PHeap.le s1481 s1503 ∧ St w0 s1503 (Res.box b1376 26 [Value.int .i64 (x184.States), Value.int .i64 (x184.Init), v185, v187, v189] :: H) w' ∧ f' 1 = Value.pointer (some ⟨b1376, 0, none⟩) ∧ f' 48 = v185 ∧ f' 49 = Value.int .i64 ((x184.Costs.length : Int)) ∧ f' 50 = Value.int .i64 ((i1404 : Int)) ∧ f' 59 = Value.bool (((decide (x1495 < 0)) || decide (1048576 < x1495)))) ?_ ?_
          · refine W_region ?_
            refine WL_step rfl rfl (Exec.move (v := Value.int .i64 (x1495)) rfl rfl ?_)
            refine WL_step rfl rfl (Exec.lss rfl rfl rfl ?_)
            refine WL_step rfl rfl (Exec.move (v := Value.bool (decide (x1495 < 0))) rfl rfl ?_)
            by_cases hc1504 : (decide (x1495 < 0)) = true
            · refine WL_pass rfl (yield_of rfl (congrArg Value.bool hc1504)) rfl rfl ?_
              refine WL_pass rfl (yield_of rfl (congrArg Value.bool hc1504)) rfl rfl ?_
              refine WL_step rfl rfl (Exec.pick_t (v := Value.bool (true)) rfl (congrArg Value.bool hc1504) rfl ?_)
              refine WL_nil (at_normal ?_)
              exact ⟨s1481, (PHeap.le_refl _), hS1483, p1484, p1485, p1486, x1487, (congrArg Value.bool (or_t hc1504)).symm⟩
            · replace hc1504 := not_true hc1504
              refine WL_run rfl (yield_of rfl (congrArg Value.bool hc1504)) rfl (Exec.move (v := Value.int .i64 (x1495)) rfl rfl ?_)
              refine WL_run rfl (yield_of rfl (congrArg Value.bool hc1504)) rfl (Exec.gtr rfl rfl rfl ?_)
              refine WL_step rfl rfl (Exec.pick_f (v := Value.bool (decide (1048576 < x1495))) rfl (congrArg Value.bool hc1504) rfl ?_)
              refine WL_nil (at_normal ?_)
              exact ⟨s1481, (PHeap.le_refl _), hS1483, p1484, p1485, p1486, x1487, (congrArg Value.bool (or_f hc1504)).symm⟩
          · intro f1505 w1506 hM1507
            obtain ⟨s1508, l1509, hS1510, p1511, p1512, p1513, p1514, p1515⟩ := hM1507
            refine (at_normal ?_)
            rcases ite_some hm1477 with ⟨hc1516, hm1477⟩ | ⟨hc1516, hm1477⟩
            · refine W_cond_t p1515 hc1516 ?_
              refine W_seq ?_
              refine W_region ?_
              refine WL_step rfl rfl (Exec.assign (v := Value.bool (false)) rfl rfl ?_)
              refine WL_nil (at_normal ?_)
              refine W_ret (ib_ret (at_ret (at_ret (ib_ret (at_ret (at_ret ?_))))))
              have e1517 := Option.some.inj hm1477
              subst c1473
              have hq1518 := hr1467 _ (hres1478 (by intro _ h; cases h))
              have e1519 := Option.some.inj hq1518
              subst r
              refine ⟨_, ret1 rfl, ?_⟩
              have hS1520 := (hS1510).drop
              exact ⟨s1508, (PHeap.le.trans (PHeap.le.trans l1396 l1482) l1509), hS1520, rfl⟩
            · refine W_cond_f p1515 hc1516 ?_
              replace hc1516 := not_true hc1516
              refine W_skip (ib_normal (at_normal ?_))
              refine W_region ?_
              refine WL_step rfl rfl (Exec.add rfl p1514 rfl ?_)
              refine WL_step rfl rfl (Exec.move (v := Value.int .i64 (IntKind.i64.wrap ((i1404 : Int) + 1))) rfl rfl ?_)
              refine WL_nil (at_normal ?_)
              have e1521 := Option.some.inj hm1477
              subst c1473
              refine ⟨_, rfl, ?_⟩; exact ⟨s1508, (PHeap.le.trans l1482 l1509), hS1510, p1511, p1512, p1513, (Eq.trans rfl (wrap_up hi1480 (SliceRep.le (a186.mono l1396))))⟩
        · intro t1522 f1523 w1524 hI1525 hres1526
          obtain ⟨s1527, l1528, hS1529, p1530, p1531, p1532, x1533⟩ := hI1525
          refine W_seq ?_
          refine W_region ?_
          refine WL_step rfl rfl (Exec.lss rfl x1533 p1532 ?_)
          refine WL_nil (at_normal ?_)
          refine W_seq ?_
          refine W_false (congrArg Value.bool (decide_eq_false (by omega))) ?_
          refine W_exit (at_exit (at_exit (ib_here (at_normal ?_))))
          refine ⟨_, .inl hres1526, ?_⟩; exact ⟨s1527, l1528, hS1529, p1530, p1531, p1532⟩
      · rintro f1534 w1535 ⟨t1536, hc1537, hM1538⟩
        have hm := hc1537.elim (hn1468 _) (hb1469 _)
        clear hc1537
        obtain ⟨s1539, l1540, hS1541, p1542, p1543, p1544⟩ := hM1538
        refine (at_normal ?_)
        refine W_seq ?_
        refine W_seq ?_
        refine W_region ?_
        refine WL_step rfl rfl (Exec.field F26_3 rfl p1542 rfl ?_)
        refine WL_step rfl rfl (Exec.load_box (hS1541) A23 rfl rfl rfl ?_)
        refine WL_step rfl rfl (Exec.len_rep S23 rfl rfl (a188.mono (PHeap.le.trans l1396 l1540)) ?_)
        refine WL_step rfl rfl (Exec.move (v := Value.int .i64 (0)) rfl rfl ?_)
        refine WL_nil (at_normal ?_)
        obtain ⟨c1842, hB1843, hr1844, hn1845, hb1846⟩ := ctl_some hm
        refine W_mid (M := fun f' w' => ∃ s', (c1842 = .next s' ∨ c1842 = .brk s') ∧ (fun (_ : Unit) => ∃ (s1848 : PHeap) , PHeap.le s1539 s1848 ∧ St w0 s1848 (Res.box b1376 26 [Value.int .i64 (x184.States), Value.int .i64 (x184.Init), v185, v187, v189] :: H) w' ∧ f' 1 = Value.pointer (some ⟨b1376, 0, none⟩) ∧ f' 62 = v187 ∧ f' 63 = Value.int .i64 ((x184.Edges.length : Int))) s') ?_ ?_
        · refine W_block (W_forC (fun k' s' f' w' => (fun (_ : Unit) => ∃ (s1847 : PHeap) , PHeap.le s1539 s1847 ∧ St w0 s1847 (Res.box b1376 26 [Value.int .i64 (x184.States), Value.int .i64 (x184.Init), v185, v187, v189] :: H) w' ∧ f' 1 = Value.pointer (some ⟨b1376, 0, none⟩) ∧ f' 62 = v187 ∧ f' 63 = Value.int .i64 ((x184.Edges.length : Int)) ∧ f' 64 = Value.int .i64 (k' : Int)) s') hB1843 ?_ ?_ ?_)
          · exact ⟨s1539, (PHeap.le_refl _), hS1541, p1542, rfl, rfl, rfl⟩
          · intro i1545 t1856 c1850 f1851 w1852 hi1857 hI1853 hm1854 hres1855
            obtain ⟨s1858, l1859, hS1860, p1861, p1862, p1863, x1864⟩ := hI1853
            refine W_seq ?_
            refine W_region ?_
            refine WL_step rfl rfl (Exec.lss rfl x1864 p1863 ?_)
            refine WL_nil (at_normal ?_)
            refine W_seq ?_
            refine W_true (congrArg Value.bool (decide_eq_true (by omega))) ?_
            refine W_skip (at_normal ?_)
            refine W_seq ?_
            refine W_block ?_
            refine W_seq ?_
            refine W_region ?_
            refine WL_step rfl rfl (Exec.move (v := Value.int .i64 ((i1545 : Int))) rfl x1864 ?_)
            obtain ⟨x1877, q1878, hm1854⟩ := bind_some hm1854
            refine WL_step rfl rfl (Exec.index_rep S23 rfl p1862 x1864 (a188.mono (PHeap.le.trans (PHeap.le.trans l1396 l1540) l1859)) q1878 ?_)
            intro b1879 o1880 a1881
            refine WL_step rfl rfl (Exec.load_at (E := encEdge) hS1860 A66 rfl rfl rfl a1881 ?_)
            intro v1882 q1883
            obtain rfl := encEdge_val.1 q1883
            refine WL_step rfl rfl (Exec.alloc (cs := [Value.int .i64 (0), Value.int .i64 (0), Value.int .i64 (0)]) hS1860 Z66 rfl rfl ?_)
            intro b1884 w1885 hS1886
            refine WL_step rfl rfl (Exec.assign (v := Value.int .i64 ((i1545 : Int))) rfl rfl ?_)
            refine WL_step rfl rfl (Exec.store_box (ds := [Value.int .i64 (x1877.From), Value.int .i64 (x1877.Label), Value.int .i64 (x1877.To)]) (es := [Value.int .i64 (x1877.From), Value.int .i64 (x1877.Label), Value.int .i64 (x1877.To)]) hS1886 A66 rfl rfl rfl rfl (one_cons rfl (one_cons rfl (one_cons rfl one_nil))) (Nat.le_of_ble_eq_true rfl) rfl ?_)
            intro w1887 hS1888
            refine WL_nil (at_normal ?_)
            refine W_seq ?_
            obtain ⟨z1935, ht1936, hm1854⟩ := bind_some hm1854
            refine W_mid (M := fun f' w' => (fun (z1935 : Bool) => ∃ (s1937 : PHeap) , PHeap.le s1858 s1937 ∧ St w0 s1937 (Res.box b1376 26 [Value.int .i64 (x184.States), Value.int .i64 (x184.Init), v185, v187, v189] :: H) w' ∧ f' 1 = Value.pointer (some ⟨b1376, 0, none⟩) ∧ f' 62 = v187 ∧ f' 63 = Value.int .i64 ((x184.Edges.length : Int)) ∧ f' 64 = Value.int .i64 ((i1545 : Int)) ∧ f' 118 = Value.bool (z1935)) z1935) ?_ ?_
            · refine W_dl (n0 := 50) (.q 0 (.q 1 (.q 2 (.q 3 (.q 4 (.q 5 (.q 6 (.q 7 (.q 8 (.q 9 (.q 10 (.q 11 (.q 12 (.q 13 (.q 14 (.q 15 (.q 16 (.q 17 (.q 18 (.q 19 (.q 20 (.q 21 (.q 22 (.q 23 (.q 24 (.q 25 (.q 26 (.q 27 (.q 28 (.q 29 (.q 30 (.q 31 (.q 32 (.q 33 (.q 34 (.q 35 (.q 36 (.q 37 (.q 38 (.q 39 (.q 40 (.q 41 (.q 42 (.q 43 (.q 44 (.q 45 (.e 46 [] (.q 47 (.q 48 (.q 49 .done)))))))))))))))))))))))))))))))))))))))))))))))))) hmix (by kernel_rfl) (by kernel_rfl) ?_
              have hS1961 := hS1888.drew
              refine DL_q rfl rfl (Exec.field F66_0 rfl rfl rfl ⟨rfl, ?_⟩)
              refine DL_q rfl rfl (Exec.load_box (hS1961) A3 rfl rfl rfl ⟨rfl, ?_⟩)
              refine DL_q rfl rfl (Exec.lss rfl rfl rfl ⟨rfl, ?_⟩)
              refine DL_q rfl rfl (Exec.move (v := Value.bool (decide (x1877.From < 0))) rfl rfl ⟨rfl, ?_⟩)
              rcases ite_some ht1936 with ⟨hc1962, ht1936⟩ | ⟨hc1962, ht1936⟩
              · refine DL_qp rfl rfl (yield_of rfl (congrArg Value.bool hc1962)) rfl ?_
                refine DL_qp rfl rfl (yield_of rfl (congrArg Value.bool hc1962)) rfl ?_
                refine DL_qp rfl rfl (yield_of rfl (congrArg Value.bool hc1962)) rfl ?_
                refine DL_qp rfl rfl (yield_of rfl (congrArg Value.bool hc1962)) rfl ?_
                refine DL_qp rfl rfl (yield_of rfl (congrArg Value.bool hc1962)) rfl ?_
                refine DL_q rfl rfl (Exec.pick_t (v := Value.bool (true)) rfl (congrArg Value.bool hc1962) rfl ⟨rfl, ?_⟩)
                refine DL_q rfl rfl (Exec.move (v := Value.bool (true)) rfl rfl ⟨rfl, ?_⟩)
                refine DL_qp rfl rfl (yield_of rfl rfl) rfl ?_
                refine DL_qp rfl rfl (yield_of rfl rfl) rfl ?_
                refine DL_qp rfl rfl (yield_of rfl rfl) rfl ?_
                refine DL_q rfl rfl (Exec.pick_t (v := Value.bool (true)) rfl rfl rfl ⟨rfl, ?_⟩)
                refine DL_q rfl rfl (Exec.move (v := Value.bool (true)) rfl rfl ⟨rfl, ?_⟩)
                refine DL_qp rfl rfl (yield_of rfl rfl) rfl ?_
                refine DL_qp rfl rfl (yield_of rfl rfl) rfl ?_
                refine DL_qp rfl rfl (yield_of rfl rfl) rfl ?_
                refine DL_qp rfl rfl (yield_of rfl rfl) rfl ?_
                refine DL_qp rfl rfl (yield_of rfl rfl) rfl ?_
                refine DL_q rfl rfl (Exec.pick_t (v := Value.bool (true)) rfl rfl rfl ⟨rfl, ?_⟩)
                refine DL_q rfl rfl (Exec.move (v := Value.bool (true)) rfl rfl ⟨rfl, ?_⟩)
                refine DL_qp rfl rfl (yield_of rfl rfl) rfl ?_
                refine DL_qp rfl rfl (yield_of rfl rfl) rfl ?_
                refine DL_qp rfl rfl (yield_of rfl rfl) rfl ?_
                refine DL_q rfl rfl (Exec.pick_t (v := Value.bool (true)) rfl rfl rfl ⟨rfl, ?_⟩)
                refine DL_q rfl rfl (Exec.move (v := Value.bool (true)) rfl rfl ⟨rfl, ?_⟩)
                refine DL_qp rfl rfl (yield_of rfl rfl) rfl ?_
                refine DL_qp rfl rfl (yield_of rfl rfl) rfl ?_
                refine DL_qp rfl rfl (yield_of rfl rfl) rfl ?_
                refine DL_qp rfl rfl (yield_of rfl rfl) rfl ?_
                refine DL_qp rfl rfl (yield_of rfl rfl) rfl ?_
                refine DL_qp rfl rfl (yield_of rfl rfl) rfl ?_
                refine DL_q rfl rfl (Exec.pick_t (v := Value.bool (true)) rfl rfl rfl ⟨rfl, ?_⟩)
                refine DL_q rfl rfl (Exec.move (v := Value.bool (true)) rfl rfl ⟨rfl, ?_⟩)
                refine DL_qp rfl rfl (yield_of rfl rfl) rfl ?_
                refine DL_qp rfl rfl (yield_of rfl rfl) rfl ?_
                refine DL_qp rfl rfl (yield_of rfl rfl) rfl ?_
                refine DL_qn rfl rfl (yield_undef rfl rfl) ?_
                refine DL_qn rfl rfl (yield_undef rfl rfl) ?_
                refine DL_qn rfl rfl (yield_undef rfl rfl) ?_
                refine DL_qn rfl rfl (yield_undef rfl rfl) ?_
                refine DL_qn rfl rfl (yield_undef rfl rfl) ?_
                refine DL_qn rfl rfl (yield_undef rfl rfl) ?_
                refine DL_qn rfl rfl (yield_undef rfl rfl) ?_
                refine DL_en rfl rfl (yield_undef rfl rfl) ?_
                refine DL_qn rfl rfl (yield_undef rfl rfl) ?_
                refine DL_qp rfl rfl (yield_of rfl rfl) rfl ?_
                refine DL_q rfl rfl (Exec.pick_t (v := Value.bool (true)) rfl rfl rfl ⟨rfl, ?_⟩)
                refine DL_done ?_
                refine WL_nil (at_normal ?_)
                have e1963 := Option.some.inj ht1936
                subst z1935
                have hS1964 := (hS1961).drop
                exact ⟨s1858, (PHeap.le_refl _), hS1964, p1861, p1862, p1863, x1864, rfl⟩
              · replace hc1962 := not_true hc1962
                refine DL_qg rfl rfl (yield_of rfl (congrArg Value.bool hc1962)) (Exec.field F66_0 rfl rfl rfl ⟨rfl, ?_⟩)
                refine DL_qg rfl rfl (yield_of rfl (congrArg Value.bool hc1962)) (Exec.load_box (hS1961) A3 rfl rfl rfl ⟨rfl, ?_⟩)
                refine DL_qg rfl rfl (yield_of rfl (congrArg Value.bool hc1962)) (Exec.field F26_0 rfl p1861 rfl ⟨rfl, ?_⟩)
                refine DL_qg rfl rfl (yield_of rfl (congrArg Value.bool hc1962)) (Exec.load_box ((hS1961).f1) A3 rfl rfl rfl ⟨rfl, ?_⟩)
                refine DL_qg rfl rfl (yield_of rfl (congrArg Value.bool hc1962)) (Exec.geq rfl rfl rfl ⟨rfl, ?_⟩)
                refine DL_q rfl rfl (Exec.pick_f (v := Value.bool (decide (x184.States ≤ x1877.From))) rfl (congrArg Value.bool hc1962) rfl ⟨rfl, ?_⟩)
                refine DL_q rfl rfl (Exec.move (v := Value.bool (decide (x184.States ≤ x1877.From))) rfl rfl ⟨rfl, ?_⟩)
                rcases ite_some ht1936 with ⟨hc1965, ht1936⟩ | ⟨hc1965, ht1936⟩
                · refine DL_qp rfl rfl (yield_of rfl (congrArg Value.bool hc1965)) rfl ?_
                  refine DL_qp rfl rfl (yield_of rfl (congrArg Value.bool hc1965)) rfl ?_
                  refine DL_qp rfl rfl (yield_of rfl (congrArg Value.bool hc1965)) rfl ?_
                  refine DL_q rfl rfl (Exec.pick_t (v := Value.bool (true)) rfl (congrArg Value.bool hc1965) rfl ⟨rfl, ?_⟩)
                  refine DL_q rfl rfl (Exec.move (v := Value.bool (true)) rfl rfl ⟨rfl, ?_⟩)
                  refine DL_qp rfl rfl (yield_of rfl rfl) rfl ?_
                  refine DL_qp rfl rfl (yield_of rfl rfl) rfl ?_
                  refine DL_qp rfl rfl (yield_of rfl rfl) rfl ?_
                  refine DL_qp rfl rfl (yield_of rfl rfl) rfl ?_
                  refine DL_qp rfl rfl (yield_of rfl rfl) rfl ?_
                  refine DL_q rfl rfl (Exec.pick_t (v := Value.bool (true)) rfl rfl rfl ⟨rfl, ?_⟩)
                  refine DL_q rfl rfl (Exec.move (v := Value.bool (true)) rfl rfl ⟨rfl, ?_⟩)
                  refine DL_qp rfl rfl (yield_of rfl rfl) rfl ?_
                  refine DL_qp rfl rfl (yield_of rfl rfl) rfl ?_
                  refine DL_qp rfl rfl (yield_of rfl rfl) rfl ?_
                  refine DL_q rfl rfl (Exec.pick_t (v := Value.bool (true)) rfl rfl rfl ⟨rfl, ?_⟩)
                  refine DL_q rfl rfl (Exec.move (v := Value.bool (true)) rfl rfl ⟨rfl, ?_⟩)
                  refine DL_qp rfl rfl (yield_of rfl rfl) rfl ?_
                  refine DL_qp rfl rfl (yield_of rfl rfl) rfl ?_
                  refine DL_qp rfl rfl (yield_of rfl rfl) rfl ?_
                  refine DL_qp rfl rfl (yield_of rfl rfl) rfl ?_
                  refine DL_qp rfl rfl (yield_of rfl rfl) rfl ?_
                  refine DL_qp rfl rfl (yield_of rfl rfl) rfl ?_
                  refine DL_q rfl rfl (Exec.pick_t (v := Value.bool (true)) rfl rfl rfl ⟨rfl, ?_⟩)
                  refine DL_q rfl rfl (Exec.move (v := Value.bool (true)) rfl rfl ⟨rfl, ?_⟩)
                  refine DL_qp rfl rfl (yield_of rfl rfl) rfl ?_
                  refine DL_qp rfl rfl (yield_of rfl rfl) rfl ?_
                  refine DL_qp rfl rfl (yield_of rfl rfl) rfl ?_
                  refine DL_qn rfl rfl (yield_undef rfl rfl) ?_
                  refine DL_qn rfl rfl (yield_undef rfl rfl) ?_
                  refine DL_qn rfl rfl (yield_undef rfl rfl) ?_
                  refine DL_qn rfl rfl (yield_undef rfl rfl) ?_
                  refine DL_qn rfl rfl (yield_undef rfl rfl) ?_
                  refine DL_qn rfl rfl (yield_undef rfl rfl) ?_
                  refine DL_qn rfl rfl (yield_undef rfl rfl) ?_
                  refine DL_en rfl rfl (yield_undef rfl rfl) ?_
                  refine DL_qn rfl rfl (yield_undef rfl rfl) ?_
                  refine DL_qp rfl rfl (yield_of rfl rfl) rfl ?_
                  refine DL_q rfl rfl (Exec.pick_t (v := Value.bool (true)) rfl rfl rfl ⟨rfl, ?_⟩)
                  refine DL_done ?_
                  refine WL_nil (at_normal ?_)
                  have e1966 := Option.some.inj ht1936
                  subst z1935
                  have hS1967 := (hS1961).drop
                  exact ⟨s1858, (PHeap.le_refl _), hS1967, p1861, p1862, p1863, x1864, rfl⟩
                · replace hc1965 := not_true hc1965
                  refine DL_qg rfl rfl (yield_of rfl (congrArg Value.bool hc1965)) (Exec.field F66_2 rfl rfl rfl ⟨rfl, ?_⟩)
                  refine DL_qg rfl rfl (yield_of rfl (congrArg Value.bool hc1965)) (Exec.load_box (hS1961) A3 rfl rfl rfl ⟨rfl, ?_⟩)
                  refine DL_qg rfl rfl (yield_of rfl (congrArg Value.bool hc1965)) (Exec.lss rfl rfl rfl ⟨rfl, ?_⟩)
                  refine DL_q rfl rfl (Exec.pick_f (v := Value.bool (decide (x1877.To < 0))) rfl (congrArg Value.bool hc1965) rfl ⟨rfl, ?_⟩)
                  refine DL_q rfl rfl (Exec.move (v := Value.bool (decide (x1877.To < 0))) rfl rfl ⟨rfl, ?_⟩)
                  rcases ite_some ht1936 with ⟨hc1968, ht1936⟩ | ⟨hc1968, ht1936⟩
                  · refine DL_qp rfl rfl (yield_of rfl (congrArg Value.bool hc1968)) rfl ?_
                    refine DL_qp rfl rfl (yield_of rfl (congrArg Value.bool hc1968)) rfl ?_
                    refine DL_qp rfl rfl (yield_of rfl (congrArg Value.bool hc1968)) rfl ?_
                    refine DL_qp rfl rfl (yield_of rfl (congrArg Value.bool hc1968)) rfl ?_
                    refine DL_qp rfl rfl (yield_of rfl (congrArg Value.bool hc1968)) rfl ?_
                    refine DL_q rfl rfl (Exec.pick_t (v := Value.bool (true)) rfl (congrArg Value.bool hc1968) rfl ⟨rfl, ?_⟩)
                    refine DL_q rfl rfl (Exec.move (v := Value.bool (true)) rfl rfl ⟨rfl, ?_⟩)
                    refine DL_qp rfl rfl (yield_of rfl rfl) rfl ?_
                    refine DL_qp rfl rfl (yield_of rfl rfl) rfl ?_
                    refine DL_qp rfl rfl (yield_of rfl rfl) rfl ?_
                    refine DL_q rfl rfl (Exec.pick_t (v := Value.bool (true)) rfl rfl rfl ⟨rfl, ?_⟩)
                    refine DL_q rfl rfl (Exec.move (v := Value.bool (true)) rfl rfl ⟨rfl, ?_⟩)
                    refine DL_qp rfl rfl (yield_of rfl rfl) rfl ?_
                    refine DL_qp rfl rfl (yield_of rfl rfl) rfl ?_
                    refine DL_qp rfl rfl (yield_of rfl rfl) rfl ?_
                    refine DL_qp rfl rfl (yield_of rfl rfl) rfl ?_
                    refine DL_qp rfl rfl (yield_of rfl rfl) rfl ?_
                    refine DL_qp rfl rfl (yield_of rfl rfl) rfl ?_
                    refine DL_q rfl rfl (Exec.pick_t (v := Value.bool (true)) rfl rfl rfl ⟨rfl, ?_⟩)
                    refine DL_q rfl rfl (Exec.move (v := Value.bool (true)) rfl rfl ⟨rfl, ?_⟩)
                    refine DL_qp rfl rfl (yield_of rfl rfl) rfl ?_
                    refine DL_qp rfl rfl (yield_of rfl rfl) rfl ?_
                    refine DL_qp rfl rfl (yield_of rfl rfl) rfl ?_
                    refine DL_qn rfl rfl (yield_undef rfl rfl) ?_
                    refine DL_qn rfl rfl (yield_undef rfl rfl) ?_
                    refine DL_qn rfl rfl (yield_undef rfl rfl) ?_
                    refine DL_qn rfl rfl (yield_undef rfl rfl) ?_
                    refine DL_qn rfl rfl (yield_undef rfl rfl) ?_
                    refine DL_qn rfl rfl (yield_undef rfl rfl) ?_
                    refine DL_qn rfl rfl (yield_undef rfl rfl) ?_
                    refine DL_en rfl rfl (yield_undef rfl rfl) ?_
                    refine DL_qn rfl rfl (yield_undef rfl rfl) ?_
                    refine DL_qp rfl rfl (yield_of rfl rfl) rfl ?_
                    refine DL_q rfl rfl (Exec.pick_t (v := Value.bool (true)) rfl rfl rfl ⟨rfl, ?_⟩)
                    refine DL_done ?_
                    refine WL_nil (at_normal ?_)
                    have e1969 := Option.some.inj ht1936
                    subst z1935
                    have hS1970 := (hS1961).drop
                    exact ⟨s1858, (PHeap.le_refl _), hS1970, p1861, p1862, p1863, x1864, rfl⟩
                  · replace hc1968 := not_true hc1968
                    refine DL_qg rfl rfl (yield_of rfl (congrArg Value.bool hc1968)) (Exec.field F66_2 rfl rfl rfl ⟨rfl, ?_⟩)
                    refine DL_qg rfl rfl (yield_of rfl (congrArg Value.bool hc1968)) (Exec.load_box (hS1961) A3 rfl rfl rfl ⟨rfl, ?_⟩)
                    refine DL_qg rfl rfl (yield_of rfl (congrArg Value.bool hc1968)) (Exec.field F26_0 rfl p1861 rfl ⟨rfl, ?_⟩)
                    refine DL_qg rfl rfl (yield_of rfl (congrArg Value.bool hc1968)) (Exec.load_box ((hS1961).f1) A3 rfl rfl rfl ⟨rfl, ?_⟩)
                    refine DL_qg rfl rfl (yield_of rfl (congrArg Value.bool hc1968)) (Exec.geq rfl rfl rfl ⟨rfl, ?_⟩)
                    refine DL_q rfl rfl (Exec.pick_f (v := Value.bool (decide (x184.States ≤ x1877.To))) rfl (congrArg Value.bool hc1968) rfl ⟨rfl, ?_⟩)
                    refine DL_q rfl rfl (Exec.move (v := Value.bool (decide (x184.States ≤ x1877.To))) rfl rfl ⟨rfl, ?_⟩)
                    rcases ite_some ht1936 with ⟨hc1971, ht1936⟩ | ⟨hc1971, ht1936⟩
                    · refine DL_qp rfl rfl (yield_of rfl (congrArg Value.bool hc1971)) rfl ?_
                      refine DL_qp rfl rfl (yield_of rfl (congrArg Value.bool hc1971)) rfl ?_
                      refine DL_qp rfl rfl (yield_of rfl (congrArg Value.bool hc1971)) rfl ?_
                      refine DL_q rfl rfl (Exec.pick_t (v := Value.bool (true)) rfl (congrArg Value.bool hc1971) rfl ⟨rfl, ?_⟩)
                      refine DL_q rfl rfl (Exec.move (v := Value.bool (true)) rfl rfl ⟨rfl, ?_⟩)
                      refine DL_qp rfl rfl (yield_of rfl rfl) rfl ?_
                      refine DL_qp rfl rfl (yield_of rfl rfl) rfl ?_
                      refine DL_qp rfl rfl (yield_of rfl rfl) rfl ?_
                      refine DL_qp rfl rfl (yield_of rfl rfl) rfl ?_
                      refine DL_qp rfl rfl (yield_of rfl rfl) rfl ?_
                      refine DL_qp rfl rfl (yield_of rfl rfl) rfl ?_
                      refine DL_q rfl rfl (Exec.pick_t (v := Value.bool (true)) rfl rfl rfl ⟨rfl, ?_⟩)
                      refine DL_q rfl rfl (Exec.move (v := Value.bool (true)) rfl rfl ⟨rfl, ?_⟩)
                      refine DL_qp rfl rfl (yield_of rfl rfl) rfl ?_
                      refine DL_qp rfl rfl (yield_of rfl rfl) rfl ?_
                      refine DL_qp rfl rfl (yield_of rfl rfl) rfl ?_
                      refine DL_qn rfl rfl (yield_undef rfl rfl) ?_
                      refine DL_qn rfl rfl (yield_undef rfl rfl) ?_
                      refine DL_qn rfl rfl (yield_undef rfl rfl) ?_
                      refine DL_qn rfl rfl (yield_undef rfl rfl) ?_
                      refine DL_qn rfl rfl (yield_undef rfl rfl) ?_
                      refine DL_qn rfl rfl (yield_undef rfl rfl) ?_
                      refine DL_qn rfl rfl (yield_undef rfl rfl) ?_
                      refine DL_en rfl rfl (yield_undef rfl rfl) ?_
                      refine DL_qn rfl rfl (yield_undef rfl rfl) ?_
                      refine DL_qp rfl rfl (yield_of rfl rfl) rfl ?_
                      refine DL_q rfl rfl (Exec.pick_t (v := Value.bool (true)) rfl rfl rfl ⟨rfl, ?_⟩)
                      refine DL_done ?_
                      refine WL_nil (at_normal ?_)
                      have e1972 := Option.some.inj ht1936
                      subst z1935
                      have hS1973 := (hS1961).drop
                      exact ⟨s1858, (PHeap.le_refl _), hS1973, p1861, p1862, p1863, x1864, rfl⟩
                    · replace hc1971 := not_true hc1971
                      refine DL_qg rfl rfl (yield_of rfl (congrArg Value.bool hc1971)) (Exec.field F66_1 rfl rfl rfl ⟨rfl, ?_⟩)
                      refine DL_qg rfl rfl (yield_of rfl (congrArg Value.bool hc1971)) (Exec.load_box (hS1961) A3 rfl rfl rfl ⟨rfl, ?_⟩)
                      refine DL_qg rfl rfl (yield_of rfl (congrArg Value.bool hc1971)) (Exec.lss rfl rfl rfl ⟨rfl, ?_⟩)
                      refine DL_q rfl rfl (Exec.pick_f (v := Value.bool (decide (x1877.Label < 0))) rfl (congrArg Value.bool hc1971) rfl ⟨rfl, ?_⟩)
                      refine DL_q rfl rfl (Exec.move (v := Value.bool (decide (x1877.Label < 0))) rfl rfl ⟨rfl, ?_⟩)
                      rcases ite_some ht1936 with ⟨hc1974, ht1936⟩ | ⟨hc1974, ht1936⟩
                      · refine DL_qp rfl rfl (yield_of rfl (congrArg Value.bool hc1974)) rfl ?_
                        refine DL_qp rfl rfl (yield_of rfl (congrArg Value.bool hc1974)) rfl ?_
                        refine DL_qp rfl rfl (yield_of rfl (congrArg Value.bool hc1974)) rfl ?_
                        refine DL_qp rfl rfl (yield_of rfl (congrArg Value.bool hc1974)) rfl ?_
                        refine DL_qp rfl rfl (yield_of rfl (congrArg Value.bool hc1974)) rfl ?_
                        refine DL_qp rfl rfl (yield_of rfl (congrArg Value.bool hc1974)) rfl ?_
                        refine DL_q rfl rfl (Exec.pick_t (v := Value.bool (true)) rfl (congrArg Value.bool hc1974) rfl ⟨rfl, ?_⟩)
                        refine DL_q rfl rfl (Exec.move (v := Value.bool (true)) rfl rfl ⟨rfl, ?_⟩)
                        refine DL_qp rfl rfl (yield_of rfl rfl) rfl ?_
                        refine DL_qp rfl rfl (yield_of rfl rfl) rfl ?_
                        refine DL_qp rfl rfl (yield_of rfl rfl) rfl ?_
                        refine DL_qn rfl rfl (yield_undef rfl rfl) ?_
                        refine DL_qn rfl rfl (yield_undef rfl rfl) ?_
                        refine DL_qn rfl rfl (yield_undef rfl rfl) ?_
                        refine DL_qn rfl rfl (yield_undef rfl rfl) ?_
                        refine DL_qn rfl rfl (yield_undef rfl rfl) ?_
                        refine DL_qn rfl rfl (yield_undef rfl rfl) ?_
                        refine DL_qn rfl rfl (yield_undef rfl rfl) ?_
                        refine DL_en rfl rfl (yield_undef rfl rfl) ?_
                        refine DL_qn rfl rfl (yield_undef rfl rfl) ?_
                        refine DL_qp rfl rfl (yield_of rfl rfl) rfl ?_
                        refine DL_q rfl rfl (Exec.pick_t (v := Value.bool (true)) rfl rfl rfl ⟨rfl, ?_⟩)
                        refine DL_done ?_
                        refine WL_nil (at_normal ?_)
                        have e1975 := Option.some.inj ht1936
                        subst z1935
                        have hS1976 := (hS1961).drop
                        exact ⟨s1858, (PHeap.le_refl _), hS1976, p1861, p1862, p1863, x1864, rfl⟩
                      · replace hc1974 := not_true hc1974
                        refine DL_qg rfl rfl (yield_of rfl (congrArg Value.bool hc1974)) (Exec.field F66_1 rfl rfl rfl ⟨rfl, ?_⟩)
                        refine DL_qg rfl rfl (yield_of rfl (congrArg Value.bool hc1974)) (Exec.load_box (hS1961) A3 rfl rfl rfl ⟨rfl, ?_⟩)
                        refine DL_qg rfl rfl (yield_of rfl (congrArg Value.bool hc1974)) (Exec.field F26_2 rfl p1861 rfl ⟨rfl, ?_⟩)
                        refine DL_qg rfl rfl (yield_of rfl (congrArg Value.bool hc1974)) (Exec.load_box ((hS1961).f1) A22 rfl rfl rfl ⟨rfl, ?_⟩)
                        refine DL_qg rfl rfl (yield_of rfl (congrArg Value.bool hc1974)) (Exec.len_rep S22 rfl rfl (a186.mono (PHeap.le.trans (PHeap.le.trans l1396 l1540) l1859)) ⟨rfl, ?_⟩)
                        refine DL_qg rfl rfl (yield_of rfl (congrArg Value.bool hc1974)) (Exec.geq rfl rfl rfl ⟨rfl, ?_⟩)
                        refine DL_q rfl rfl (Exec.pick_f (v := Value.bool (decide ((x184.Costs.length : Int) ≤ x1877.Label))) rfl (congrArg Value.bool hc1974) rfl ⟨rfl, ?_⟩)
                        refine DL_q rfl rfl (Exec.move (v := Value.bool (decide ((x184.Costs.length : Int) ≤ x1877.Label))) rfl rfl ⟨rfl, ?_⟩)
                        rcases ite_some ht1936 with ⟨hc1977, ht1936⟩ | ⟨hc1977, ht1936⟩
                        · refine DL_qp rfl rfl (yield_of rfl (congrArg Value.bool hc1977)) rfl ?_
                          refine DL_qp rfl rfl (yield_of rfl (congrArg Value.bool hc1977)) rfl ?_
                          refine DL_qp rfl rfl (yield_of rfl (congrArg Value.bool hc1977)) rfl ?_
                          refine DL_qn rfl rfl (yield_undef rfl rfl) ?_
                          refine DL_qn rfl rfl (yield_undef rfl rfl) ?_
                          refine DL_qn rfl rfl (yield_undef rfl rfl) ?_
                          refine DL_qn rfl rfl (yield_undef rfl rfl) ?_
                          refine DL_qn rfl rfl (yield_undef rfl rfl) ?_
                          refine DL_qn rfl rfl (yield_undef rfl rfl) ?_
                          refine DL_qn rfl rfl (yield_undef rfl rfl) ?_
                          refine DL_en rfl rfl (yield_undef rfl rfl) ?_
                          refine DL_qn rfl rfl (yield_undef rfl rfl) ?_
                          refine DL_qp rfl rfl (yield_of rfl (congrArg Value.bool hc1977)) rfl ?_
                          refine DL_q rfl rfl (Exec.pick_t (v := Value.bool (true)) rfl (congrArg Value.bool hc1977) rfl ⟨rfl, ?_⟩)
                          refine DL_done ?_
                          refine WL_nil (at_normal ?_)
                          have e1978 := Option.some.inj ht1936
                          subst z1935
                          have hS1979 := (hS1961).drop
                          exact ⟨s1858, (PHeap.le_refl _), hS1979, p1861, p1862, p1863, x1864, rfl⟩
                        · replace hc1977 := not_true hc1977
                          refine DL_qg rfl rfl (yield_of rfl (congrArg Value.bool hc1977)) (Exec.move (v := Value.int .i64 ((i1545 : Int))) rfl rfl ⟨rfl, ?_⟩)
                          refine DL_qg rfl rfl (yield_of rfl (congrArg Value.bool hc1977)) (Exec.gtr rfl rfl rfl ⟨rfl, ?_⟩)
                          refine DL_qg rfl rfl (yield_of rfl (congrArg Value.bool hc1977)) (Exec.move (v := Value.bool (decide (0 < (i1545 : Int)))) rfl rfl ⟨rfl, ?_⟩)
                          rcases ite_some ht1936 with ⟨hc1980, ht1936⟩ | ⟨hc1980, ht1936⟩
                          · refine DL_qg rfl rfl (yield_of rfl (congrArg Value.bool hc1980)) (Exec.field F26_3 rfl p1861 rfl ⟨rfl, ?_⟩)
                            refine DL_qg rfl rfl (yield_of rfl (congrArg Value.bool hc1980)) (Exec.load_box ((hS1961).f1) A23 rfl rfl rfl ⟨rfl, ?_⟩)
                            refine DL_qg rfl rfl (yield_of rfl (congrArg Value.bool hc1980)) (Exec.move (v := Value.int .i64 ((i1545 : Int))) rfl rfl ⟨rfl, ?_⟩)
                            refine DL_qg rfl rfl (yield_of rfl (congrArg Value.bool hc1980)) (Exec.sub rfl rfl rfl ⟨rfl, ?_⟩)
                            obtain ⟨x1981, q1982, ht1936⟩ := bind_some ht1936
                            refine DL_qg rfl rfl (yield_of rfl (congrArg Value.bool hc1980)) (Exec.index_repE S23 rfl rfl rfl (a188.mono (PHeap.le.trans (PHeap.le.trans l1396 l1540) l1859)) q1982 ?_)
                            intro b1983 o1984 a1985 e1986
                            refine ⟨rfl, ?_⟩
                            refine DL_qg rfl rfl (yield_of rfl (congrArg Value.bool hc1980)) (Exec.load_at (E := encEdge) hS1961 A66 rfl rfl rfl a1985 ?_)
                            intro v1987 q1988
                            obtain rfl := encEdge_val.1 q1988
                            refine ⟨rfl, ?_⟩
                            refine DL_qg rfl rfl (yield_of rfl (congrArg Value.bool hc1980)) (Exec.load_box_agg (ds := [Value.int .i64 (x1877.From), Value.int .i64 (x1877.Label), Value.int .i64 (x1877.To)]) (hS1961) A66 rfl rfl rfl ⟨rfl, ?_⟩)
                            obtain ⟨y1991, q1990, ht1936⟩ := bind_some ht1936
                            refine DL_eg rfl rfl (yield_of rfl (congrArg Value.bool hc1980)) (Exec.call rfl rfl Try.func39 rfl N39 (args_cons rfl (args_cons rfl args_nil)) ((transys_compare_sim q1990 hS1961 ).mono ?_))
                            rintro _ w1992 ⟨_, rfl, ⟨s1993, l1994, hS1995, rfl⟩⟩
                            refine ⟨_, rfl, ?_⟩
                            refine ⟨ag_nil, ?_⟩
                            refine DL_qg rfl rfl (yield_of rfl (congrArg Value.bool hc1980)) (Exec.geq rfl rfl rfl ⟨rfl, ?_⟩)
                            refine DL_qg rfl rfl (yield_of rfl (congrArg Value.bool hc1977)) (Exec.pick_t (v := Value.bool (decide (0 ≤ y1991))) rfl (congrArg Value.bool hc1980) rfl ⟨rfl, ?_⟩)
                            refine DL_q rfl rfl (Exec.pick_f (v := Value.bool (decide (0 ≤ y1991))) rfl (congrArg Value.bool hc1977) rfl ⟨rfl, ?_⟩)
                            refine DL_done ?_
                            refine WL_nil (at_normal ?_)
                            have e1996 := Option.some.inj ht1936
                            subst z1935
                            have hS1997 := (hS1995).drop
                            exact ⟨s1993, l1994, hS1997, p1861, p1862, p1863, x1864, rfl⟩
                          · replace hc1980 := not_true hc1980
                            refine DL_qp rfl rfl (yield_of rfl (congrArg Value.bool hc1980)) rfl ?_
                            refine DL_qp rfl rfl (yield_of rfl (congrArg Value.bool hc1980)) rfl ?_
                            refine DL_qp rfl rfl (yield_of rfl (congrArg Value.bool hc1980)) rfl ?_
                            refine DL_qp rfl rfl (yield_of rfl (congrArg Value.bool hc1980)) rfl ?_
                            refine DL_qp rfl rfl (yield_of rfl (congrArg Value.bool hc1980)) rfl ?_
                            refine DL_qp rfl rfl (yield_of rfl (congrArg Value.bool hc1980)) rfl ?_
                            refine DL_qp rfl rfl (yield_of rfl (congrArg Value.bool hc1980)) rfl ?_
                            refine DL_ep rfl rfl (yield_of rfl (congrArg Value.bool hc1980)) rfl ?_
                            refine DL_qp rfl rfl (yield_of rfl (congrArg Value.bool hc1980)) rfl ?_
                            refine DL_qg rfl rfl (yield_of rfl (congrArg Value.bool hc1977)) (Exec.pick_f (v := Value.bool (false)) rfl (congrArg Value.bool hc1980) rfl ⟨rfl, ?_⟩)
                            refine DL_q rfl rfl (Exec.pick_f (v := Value.bool (false)) rfl (congrArg Value.bool hc1977) rfl ⟨rfl, ?_⟩)
                            refine DL_done ?_
                            refine WL_nil (at_normal ?_)
                            have e1998 := Option.some.inj ht1936
                            subst z1935
                            have hS1999 := (hS1961).drop
                            exact ⟨s1858, (PHeap.le_refl _), hS1999, p1861, p1862, p1863, x1864, rfl⟩
            · intro f2000 w2001 hM2002
              obtain ⟨s2003, l2004, hS2005, p2006, p2007, p2008, p2009, p2010⟩ := hM2002
              refine (at_normal ?_)
              rcases ite_some hm1854 with ⟨hc2011, hm1854⟩ | ⟨hc2011, hm1854⟩
              · refine W_cond_t p2010 hc2011 ?_
                refine W_seq ?_
                refine W_region ?_
                refine WL_step rfl rfl (Exec.assign (v := Value.bool (false)) rfl rfl ?_)
                refine WL_nil (at_normal ?_)
                refine W_ret (ib_ret (at_ret (at_ret (ib_ret (at_ret (at_ret ?_))))))
                have e2012 := Option.some.inj hm1854
                subst c1850
                have hq2013 := hr1844 _ (hres1855 (by intro _ h; cases h))
                have e2014 := Option.some.inj hq2013
                subst r
                refine ⟨_, ret1 rfl, ?_⟩
                have hS2015 := (hS2005).drop
                exact ⟨s2003, (PHeap.le.trans (PHeap.le.trans (PHeap.le.trans l1396 l1540) l1859) l2004), hS2015, rfl⟩
              · refine W_cond_f p2010 hc2011 ?_
                replace hc2011 := not_true hc2011
                refine W_skip (ib_normal (at_normal ?_))
                refine W_region ?_
                refine WL_step rfl rfl (Exec.add rfl p2009 rfl ?_)
                refine WL_step rfl rfl (Exec.move (v := Value.int .i64 (IntKind.i64.wrap ((i1545 : Int) + 1))) rfl rfl ?_)
                refine WL_nil (at_normal ?_)
                have e2016 := Option.some.inj hm1854
                subst c1850
                refine ⟨_, rfl, ?_⟩; exact ⟨s2003, (PHeap.le.trans l1859 l2004), hS2005, p2006, p2007, p2008, (Eq.trans rfl (wrap_up hi1857 (SliceRep.le (a188.mono (PHeap.le.trans l1396 l1540)))))⟩
          · intro t2017 f2018 w2019 hI2020 hres2021
            obtain ⟨s2022, l2023, hS2024, p2025, p2026, p2027, x2028⟩ := hI2020
            refine W_seq ?_
            refine W_region ?_
            refine WL_step rfl rfl (Exec.lss rfl x2028 p2027 ?_)
            refine WL_nil (at_normal ?_)
            refine W_seq ?_
            refine W_false (congrArg Value.bool (decide_eq_false (by omega))) ?_
            refine W_exit (at_exit (at_exit (ib_here (at_normal ?_))))
            refine ⟨_, .inl hres2021, ?_⟩; exact ⟨s2022, l2023, hS2024, p2025, p2026, p2027⟩
        · rintro f2029 w2030 ⟨t2031, hc2032, hM2033⟩
          have hm := hc2032.elim (hn1845 _) (hb1846 _)
          clear hc2032
          obtain ⟨s2034, l2035, hS2036, p2037, p2038, p2039⟩ := hM2033
          refine (at_normal ?_)
          refine W_seq ?_
          refine W_region ?_
          refine WL_step rfl rfl (Exec.assign (v := Value.bool (true)) rfl rfl ?_)
          refine WL_nil (at_normal ?_)
          refine W_ret ?_
          have e2041 := Option.some.inj hm
          subst r
          refine ⟨_, ret1 rfl, ?_⟩
          have hS2042 := (hS2036).drop
          exact ⟨s2034, (PHeap.le.trans (PHeap.le.trans l1396 l1540) l2035), hS2042, rfl⟩

theorem N35 : (Try.f35.name == "runtime.NumGoroutine") = false := by kernel_rfl

theorem slices_Equal___int_int__sim {w0 w : World} {s : PHeap} {H : List Res} {s12059 : (List Int)} {s22062 : (List Int)} {v2060 : Value} {v2063 : Value} {r : Bool} (hm : slices_Equal___int_int__p s12059 s22062 = some r) (hS : St w0 s (H) w) (a2061 : SliceRep (encInt .i64) s v2060 s12059) (a2064 : SliceRep (encInt .i64) s v2063 s22062) :
    Calls Try.prog 35 #[v2060, v2063] w fun e w' => ∃ v, e = .returned v ∧ ((fun (y2324 : Bool) => ∃ (s2325 : PHeap) , PHeap.le s s2325 ∧ St w0 s2325 (H) w' ∧ v = Value.bool (y2324)) r) := by
  unfold slices_Equal___int_int__p at hm
  refine calls_of_W Try.func35 rfl rfl ?_
  refine W_seq ?_
  refine W_region ?_
  refine WL_step rfl rfl (Exec.assign (v := Value.bool (false)) rfl rfl ?_)
  refine WL_nil (at_normal ?_)
  refine W_seq ?_
  refine W_seq ?_
  refine W_region ?_
  refine WL_step rfl rfl (Exec.move (v := v2060) rfl rfl ?_)
  refine WL_step rfl rfl (Exec.len_rep S22 rfl rfl a2061 ?_)
  refine WL_step rfl rfl (Exec.move (v := v2063) rfl rfl ?_)
  refine WL_step rfl rfl (Exec.len_rep S22 rfl rfl a2064 ?_)
  refine WL_step rfl rfl (Exec.neq rfl rfl rfl ?_)
  refine WL_nil (at_normal ?_)
  rcases ite_some hm with ⟨hc2326, hm⟩ | ⟨hc2326, hm⟩
  · refine W_cond_t rfl hc2326 ?_
    refine W_seq ?_
    refine W_region ?_
    refine WL_step rfl rfl (Exec.assign (v := Value.bool (false)) rfl rfl ?_)
    refine WL_nil (at_normal ?_)
    refine W_ret (at_ret ?_)
    have e2328 := Option.some.inj hm
    subst r
    refine ⟨_, ret1 rfl, ?_⟩
    exact ⟨s, (PHeap.le_refl _), hS, rfl⟩
  · refine W_cond_f rfl hc2326 ?_
    replace hc2326 := not_true hc2326
    refine W_skip (at_normal ?_)
    refine W_seq ?_
    refine W_seq ?_
    refine W_region ?_
    refine WL_step rfl rfl (Exec.move (v := v2060) rfl rfl ?_)
    refine WL_step rfl rfl (Exec.len_rep S22 rfl rfl a2061 ?_)
    refine WL_step rfl rfl (Exec.move (v := Value.int .i64 (0)) rfl rfl ?_)
    refine WL_nil (at_normal ?_)
    obtain ⟨c2470, hB2471, hr2472, hn2473, hb2474⟩ := ctl_some hm
    refine W_mid (M := fun f' w' => ∃ s', (c2470 = .next s' ∨ c2470 = .brk s') ∧ (fun (_ : Unit) => ∃ (s2476 : PHeap) , PHeap.le s s2476 ∧ St w0 s2476 (H) w' ∧ f' 0 = v2060 ∧ f' 1 = v2063 ∧ f' 12 = Value.int .i64 ((s12059.length : Int))) s') ?_ ?_
    · refine W_block (W_forC (fun k' s' f' w' => (fun (_ : Unit) => ∃ (s2475 : PHeap) , PHeap.le s s2475 ∧ St w0 s2475 (H) w' ∧ f' 0 = v2060 ∧ f' 1 = v2063 ∧ f' 12 = Value.int .i64 ((s12059.length : Int)) ∧ f' 13 = Value.int .i64 (k' : Int)) s') hB2471 ?_ ?_ ?_)
      · exact ⟨s, (PHeap.le_refl _), hS, rfl, rfl, rfl, rfl⟩
      · intro i2329 t2484 c2478 f2479 w2480 hi2485 hI2481 hm2482 hres2483
        obtain ⟨s2486, l2487, hS2488, p2489, p2490, p2491, x2492⟩ := hI2481
        refine W_seq ?_
        refine W_region ?_
        refine WL_step rfl rfl (Exec.lss rfl x2492 p2491 ?_)
        refine WL_nil (at_normal ?_)
        refine W_seq ?_
        refine W_true (congrArg Value.bool (decide_eq_true (by omega))) ?_
        refine W_skip (at_normal ?_)
        refine W_seq ?_
        refine W_block ?_
        refine W_seq ?_
        refine W_region ?_
        refine WL_step rfl rfl (Exec.move (v := Value.int .i64 ((i2329 : Int))) rfl x2492 ?_)
        refine WL_step rfl rfl (Exec.assign (v := Value.int .i64 ((i2329 : Int))) rfl rfl ?_)
        refine WL_nil (at_normal ?_)
        refine W_seq ?_
        refine W_dl (n0 := 9) (.q 0 (.q 1 (.q 2 (.q 3 (.q 4 (.q 5 (.q 6 (.q 7 (.q 8 .done))))))))) hmix (by kernel_rfl) (by kernel_rfl) ?_
        have hS2544 := hS2488.drew
        refine DL_q rfl rfl (Exec.move (v := v2060) rfl p2489 ⟨rfl, ?_⟩)
        refine DL_q rfl rfl (Exec.move (v := Value.int .i64 ((i2329 : Int))) rfl rfl ⟨rfl, ?_⟩)
        obtain ⟨x2545, q2546, hm2482⟩ := bind_some hm2482
        refine DL_q rfl rfl (Exec.index_repE S22 rfl rfl rfl (a2061.mono l2487) q2546 ?_)
        intro b2547 o2548 a2549 e2550
        refine ⟨rfl, ?_⟩
        refine DL_q rfl rfl (Exec.load_at (E := (encInt .i64)) hS2544 A3 rfl rfl rfl a2549 ?_)
        intro v2551 q2552
        obtain rfl := encInt_val.1 q2552
        refine ⟨rfl, ?_⟩
        refine DL_q rfl rfl (Exec.move (v := v2063) rfl p2490 ⟨rfl, ?_⟩)
        refine DL_q rfl rfl (Exec.move (v := Value.int .i64 ((i2329 : Int))) rfl rfl ⟨rfl, ?_⟩)
        obtain ⟨x2553, q2554, hm2482⟩ := bind_some hm2482
        refine DL_q rfl rfl (Exec.index_repE S22 rfl rfl rfl (a2064.mono l2487) q2554 ?_)
        intro b2555 o2556 a2557 e2558
        refine ⟨rfl, ?_⟩
        refine DL_q rfl rfl (Exec.load_at (E := (encInt .i64)) hS2544 A3 rfl rfl rfl a2557 ?_)
        intro v2559 q2560
        obtain rfl := encInt_val.1 q2560
        refine ⟨rfl, ?_⟩
        refine DL_q rfl rfl (Exec.neq rfl rfl rfl ⟨rfl, ?_⟩)
        refine DL_done ?_
        refine WL_nil (at_normal ?_)
        rcases ite_some hm2482 with ⟨hc2561, hm2482⟩ | ⟨hc2561, hm2482⟩
        · refine W_cond_t rfl hc2561 ?_
          refine W_seq ?_
          refine W_region ?_
          refine WL_step rfl rfl (Exec.assign (v := Value.bool (false)) rfl rfl ?_)
          refine WL_nil (at_normal ?_)
          refine W_ret (ib_ret (at_ret (at_ret (ib_ret (at_ret (at_ret ?_))))))
          have e2562 := Option.some.inj hm2482
          subst c2478
          have hq2563 := hr2472 _ (hres2483 (by intro _ h; cases h))
          have e2564 := Option.some.inj hq2563
          subst r
          refine ⟨_, ret1 rfl, ?_⟩
          exact ⟨s2486, l2487, hS2544, rfl⟩
        · refine W_cond_f rfl hc2561 ?_
          replace hc2561 := not_true hc2561
          refine W_skip (ib_normal (at_normal ?_))
          refine W_region ?_
          refine WL_step rfl rfl (Exec.add rfl x2492 rfl ?_)
          refine WL_step rfl rfl (Exec.move (v := Value.int .i64 (IntKind.i64.wrap ((i2329 : Int) + 1))) rfl rfl ?_)
          refine WL_nil (at_normal ?_)
          have e2565 := Option.some.inj hm2482
          subst c2478
          refine ⟨_, rfl, ?_⟩; exact ⟨s2486, l2487, hS2544, p2489, p2490, p2491, (Eq.trans rfl (wrap_up hi2485 (SliceRep.le a2061)))⟩
      · intro t2566 f2567 w2568 hI2569 hres2570
        obtain ⟨s2571, l2572, hS2573, p2574, p2575, p2576, x2577⟩ := hI2569
        refine W_seq ?_
        refine W_region ?_
        refine WL_step rfl rfl (Exec.lss rfl x2577 p2576 ?_)
        refine WL_nil (at_normal ?_)
        refine W_seq ?_
        refine W_false (congrArg Value.bool (decide_eq_false (by omega))) ?_
        refine W_exit (at_exit (at_exit (ib_here (at_normal ?_))))
        refine ⟨_, .inl hres2570, ?_⟩; exact ⟨s2571, l2572, hS2573, p2574, p2575, p2576⟩
    · rintro f2578 w2579 ⟨t2580, hc2581, hM2582⟩
      have hm := hc2581.elim (hn2473 _) (hb2474 _)
      clear hc2581
      obtain ⟨s2583, l2584, hS2585, p2586, p2587, p2588⟩ := hM2582
      refine (at_normal ?_)
      refine W_seq ?_
      refine W_region ?_
      refine WL_step rfl rfl (Exec.assign (v := Value.bool (true)) rfl rfl ?_)
      refine WL_nil (at_normal ?_)
      refine W_ret ?_
      have e2590 := Option.some.inj hm
      subst r
      refine ⟨_, ret1 rfl, ?_⟩
      exact ⟨s2583, l2584, hS2585, rfl⟩

theorem C39 : Try.prog.concrete 39 = true := by kernel_rfl

theorem Z3 : tyZero Try.prog 3 = some (Value.int .i64 (0)) := by kernel_rfl

theorem N36 : (Try.f36.name == "runtime.NumGoroutine") = false := by kernel_rfl

theorem slices_Clone___int_int__sim {w0 w : World} {s : PHeap} {H : List Res} {s_2658 : (List Int)} {v2659 : Value} {r : (List Int)} (hm : slices_Clone___int_int__p s_2658 = some r) (hS : St w0 s (H) w) (a2660 : SliceRep (encInt .i64) s v2659 s_2658) :
    Calls Try.prog 36 #[v2659] w fun e w' => ∃ v, e = .returned v ∧ ((fun (y2692 : (List Int)) => ∃ (s2694 : PHeap) (v2693 : Value), PHeap.le s s2694 ∧ St w0 s2694 (Res.arr (encInt .i64) 3 v2693 y2692 :: H) w' ∧ v = v2693) r) := by
  unfold slices_Clone___int_int__p at hm
  refine calls_of_W Try.func36 rfl rfl ?_
  refine W_seq ?_
  refine W_region ?_
  refine WL_step rfl rfl (Exec.assign (v := Value.slice none 0 0) rfl rfl ?_)
  refine WL_nil (at_normal ?_)
  refine W_seq ?_
  refine W_seq ?_
  refine W_region ?_
  refine WL_step rfl rfl (Exec.move (v := v2659) rfl rfl ?_)
  obtain ⟨a2700, n2701, c2702, e2703, hn2704⟩ := (a2660).nilShape
  refine WL_step rfl rfl (Exec.slice_eql_nil Try.underlying22 rfl e2703 rfl ?_)
  refine WL_nil (at_normal ?_)
  by_cases hc2705 : a2700.isNone = true
  · have hq2706 := hn2704 hc2705
    replace hm := (show (some []) = ((app 8 [] s_2658).bind fun l2723 => some l2723) from by simp [hq2706, app]).trans hm
    refine W_true ((congrArg Value.bool hc2705)) ?_
    refine W_seq ?_
    refine W_region ?_
    refine WL_step rfl rfl (Exec.assign (v := Value.slice none 0 0) rfl rfl ?_)
    refine WL_nil (at_normal ?_)
    refine W_ret (at_ret ?_)
    have e2708 := Option.some.inj hm
    subst r
    refine ⟨_, ret1 rfl, ?_⟩
    have hS2709 := hS.nilArr (encInt .i64) 3
    exact ⟨s, (Value.slice none 0 0), (PHeap.le_refl _), hS2709, rfl⟩
  · replace hc2705 := not_true hc2705
    refine W_false ((congrArg Value.bool hc2705)) ?_
    refine W_skip (at_normal ?_)
    refine W_seq ?_
    refine W_region ?_
    refine WL_step rfl rfl (Exec.buildSlice (Te := 3) (cs := []) hS rfl parts_nil (fun _ => by kernel_rfl) ?_)
    intro b2719 w2720 hS2721
    refine WL_step rfl rfl (Exec.move (v := v2659) rfl rfl ?_)
    have hS2722 := St.boxArr (E := (encInt .i64)) (xs := []) hS2721 rfl (by simp [maxLen])
    obtain ⟨l2723, q2724, hm⟩ := bind_some hm
    refine WL_step rfl rfl (Exec.append_rep (E := (encInt .i64)) (ys := s_2658) hS2722 S22 Z3 rfl (by decide) rfl rfl rfl a2660 q2724 ?_)
    intro v2725 w2726 hS2727
    refine WL_step rfl rfl (Exec.assign (v := v2725) rfl rfl ?_)
    refine WL_nil (at_normal ?_)
    refine W_ret ?_
    have e2729 := Option.some.inj hm
    subst r
    refine ⟨_, ret1 rfl, ?_⟩
    exact ⟨s, v2725, (PHeap.le_refl _), hS2727, rfl⟩

theorem A4 : tyAgg Try.prog 4 = some (false, 1) := by kernel_rfl

theorem Z4 : tyZero Try.prog 4 = some (Value.bool false) := by kernel_rfl

theorem S63 : tySlice Try.prog 63 = some (23, 1, 24) := by kernel_rfl

theorem Z23 : tyZero Try.prog 23 = some (Value.slice none 0 0) := by kernel_rfl

theorem N37 : (Try.f37.name == "runtime.NumGoroutine") = false := by kernel_rfl

theorem transys_labelled_sim {w0 w : World} {s : PHeap} {H : List Res} {x4821 : System} {v4822 : Value} {v4824 : Value} {v4826 : Value} {r : (List (List Edge))} (hm : transys_labelled_p x4821 = some r) (hS : St w0 s (H) w) (a4823 : SliceRep (encInt .i64) s v4822 x4821.Costs) (a4825 : SliceRep encEdge s v4824 x4821.Edges) (a4827 : SliceRep encBool s v4826 x4821.Goals) :
    Calls Try.prog 37 #[Value.agg #[Value.int .i64 (x4821.States), Value.int .i64 (x4821.Init), v4822, v4824, v4826]] w fun e w' => ∃ v, e = .returned v ∧ ((fun (y5261 : (List (List Edge))) => ∃ (s5267 : PHeap) (v5266 : Value), PHeap.le s s5267 ∧ St w0 s5267 (H) w' ∧ v = v5266 ∧ SliceRep (encSlice encEdge) s5267 v5266 y5261) r) := by
  unfold transys_labelled_p at hm
  refine calls_of_W Try.func37 rfl rfl ?_
  refine W_seq ?_
  refine W_region ?_
  refine WL_step rfl rfl (Exec.box (cs := [Value.int .i64 (x4821.States), Value.int .i64 (x4821.Init), v4822, v4824, v4826]) hS rfl rfl rfl ?_)
  intro b5271 w5272 hS5273
  refine WL_step rfl rfl (Exec.assign (v := Value.slice none 0 0) rfl rfl ?_)
  refine WL_nil (at_normal ?_)
  refine W_seq ?_
  refine W_region ?_
  refine WL_step rfl rfl (Exec.field F26_2 rfl rfl rfl ?_)
  refine WL_step rfl rfl (Exec.load_box (hS5273) A22 rfl rfl rfl ?_)
  refine WL_step rfl rfl (Exec.len_rep S22 rfl rfl a4823 ?_)
  obtain ⟨l5280, q5281, hm⟩ := bind_some hm
  refine WL_step rfl rfl (Exec.make_grid (F := encEdge) (T2 := 66) hS5273 S63 Z23 rfl rfl rfl q5281 ?_)
  intro v5282 hs5283 w5284 hS5285
  refine WL_step rfl rfl (Exec.assign (v := v5282) rfl rfl ?_)
  refine WL_nil (at_normal ?_)
  refine W_seq ?_
  refine W_seq ?_
  refine W_region ?_
  refine WL_step rfl rfl (Exec.field F26_3 rfl rfl rfl ?_)
  refine WL_step rfl rfl (Exec.load_box ((hS5285).f2) A23 rfl rfl rfl ?_)
  refine WL_step rfl rfl (Exec.len_rep S23 rfl rfl a4825 ?_)
  refine WL_step rfl rfl (Exec.move (v := Value.int .i64 (0)) rfl rfl ?_)
  refine WL_nil (at_normal ?_)
  obtain ⟨l5414, hB5545, hm⟩ := bind_some hm
  refine W_block (W_forS (fun k' s' f' w' => (fun (l5414 : (List (List Edge))) => ∃ (s5546 : PHeap) (hs5415 : List Value), PHeap.le s s5546 ∧ St w0 s5546 (Res.arr encRaw 23 v5282 hs5415 :: Res.rows encEdge 66 hs5415 l5414 :: H) w' ∧ f' 3 = v5282 ∧ f' 11 = v4824 ∧ f' 12 = Value.int .i64 ((x4821.Edges.length : Int)) ∧ f' 13 = Value.int .i64 (k' : Int)) s') hB5545 ?_ ?_ ?_)
  · have hS5547 := ((hS5285).f2).drop
    exact ⟨s, hs5283, (PHeap.le_refl _), hS5547, rfl, rfl, rfl, rfl⟩
  · intro i5286 l5414 s5549 f5550 w5551 hi5552 hI5553 hm5554
    obtain ⟨s5555, hs5415, l5556, hS5557, p5558, p5559, p5560, x5561⟩ := hI5553
    refine W_seq ?_
    refine W_region ?_
    refine WL_step rfl rfl (Exec.lss rfl x5561 p5560 ?_)
    refine WL_nil (at_normal ?_)
    refine W_seq ?_
    refine W_true (congrArg Value.bool (decide_eq_true (by omega))) ?_
    refine W_skip (at_normal ?_)
    refine W_seq ?_
    refine W_block ?_
    refine W_seq ?_
    refine W_region ?_
    obtain ⟨x5574, q5575, hm5554⟩ := bind_some hm5554
    refine WL_step rfl rfl (Exec.index_rep S23 rfl p5559 x5561 (a4825.mono l5556) q5575 ?_)
    intro b5576 o5577 a5578
    refine WL_step rfl rfl (Exec.load_at (E := encEdge) hS5557 A66 rfl rfl rfl a5578 ?_)
    intro v5579 q5580
    obtain rfl := encEdge_val.1 q5580
    refine WL_step rfl rfl (Exec.alloc (cs := [Value.int .i64 (0), Value.int .i64 (0), Value.int .i64 (0)]) hS5557 Z66 rfl rfl ?_)
    intro b5581 w5582 hS5583
    refine WL_step rfl rfl (Exec.store_box (ds := [Value.int .i64 (x5574.From), Value.int .i64 (x5574.Label), Value.int .i64 (x5574.To)]) (es := [Value.int .i64 (x5574.From), Value.int .i64 (x5574.Label), Value.int .i64 (x5574.To)]) hS5583 A66 rfl rfl rfl rfl (one_cons rfl (one_cons rfl (one_cons rfl one_nil))) (Nat.le_of_ble_eq_true rfl) rfl ?_)
    intro w5584 hS5585
    refine WL_nil (at_normal ?_)
    refine W_dl (n0 := 11) (.q 0 (.q 1 (.q 2 (.q 3 (.q 4 (.q 5 (.q 6 (.q 7 (.q 8 (.e 9 [0, 1, 2, 3, 4, 5, 6, 7] (.e 10 [0, 1, 2] .done))))))))))) hmix (by kernel_rfl) (by kernel_rfl) ?_
    have hS5659 := hS5585.drew
    refine DL_q rfl rfl (Exec.move (v := v5282) rfl p5558 ⟨rfl, ?_⟩)
    refine DL_q rfl rfl (Exec.field F66_1 rfl rfl rfl ⟨rfl, ?_⟩)
    refine DL_q rfl rfl (Exec.load_box (hS5659) A3 rfl rfl rfl ⟨rfl, ?_⟩)
    refine DL_q rfl rfl (Exec.move (v := v5282) rfl p5558 ⟨rfl, ?_⟩)
    refine DL_q rfl rfl (Exec.field F66_1 rfl rfl rfl ⟨rfl, ?_⟩)
    refine DL_q rfl rfl (Exec.load_box (hS5659) A3 rfl rfl rfl ⟨rfl, ?_⟩)
    obtain ⟨row5660, q5661, hm5554⟩ := bind_some hm5554
    obtain ⟨h5662, e5663, e5664, _⟩ := ((((hS5659).f2).f2).f1).rows_at q5661
    obtain ⟨g5665, c5666, e5667⟩ := (((hS5659).f2).f2).arr_at e5663
    refine DL_q rfl rfl (Exec.index_slice S63 rfl e5667 rfl (idx_some e5663).1 (idx_some e5663).2.1 ⟨rfl, ?_⟩)
    refine DL_q rfl rfl (Exec.load_arr (F := encRaw) (((hS5659).f2).f2) e5667 A23 rfl rfl rfl e5663 (Sub.refl _) ?_)
    intro v5668 q5669
    replace q5669 := (encRaw_val.1 q5669).1
    subst v5668
    refine ⟨rfl, ?_⟩
    refine DL_q rfl rfl (Exec.load_box_agg (ds := [Value.int .i64 (x5574.From), Value.int .i64 (x5574.Label), Value.int .i64 (x5574.To)]) (hS5659) A66 rfl rfl rfl ⟨rfl, ?_⟩)
    refine DL_e rfl rfl (Exec.buildSlice (Te := 66) (cs := [Value.int .i64 (x5574.From), Value.int .i64 (x5574.Label), Value.int .i64 (x5574.To)]) hS5659 rfl (parts_cons (c := [Value.int .i64 (x5574.From), Value.int .i64 (x5574.Label), Value.int .i64 (x5574.To)]) (cells_of rfl rfl) parts_nil) (fun _ => by kernel_rfl) ?_)
    intro b5670 w5671 hS5672
    refine ⟨(ag_cons (ag_r rfl rfl (Exec.move (v := v5282) rfl p5558 ⟨rfl, rfl⟩)) (ag_cons (ag_r rfl rfl (Exec.field F66_1 rfl rfl rfl ⟨rfl, rfl⟩)) (ag_cons (ag_r rfl rfl (Exec.load_box ((hS5672).f1) A3 rfl rfl rfl ⟨rfl, rfl⟩)) (ag_cons (ag_r rfl rfl (Exec.move (v := v5282) rfl p5558 ⟨rfl, rfl⟩)) (ag_cons (ag_r rfl rfl (Exec.field F66_1 rfl rfl rfl ⟨rfl, rfl⟩)) (ag_cons (ag_r rfl rfl (Exec.load_box ((hS5672).f1) A3 rfl rfl rfl ⟨rfl, rfl⟩)) (ag_cons (ag_r rfl rfl (Exec.index_slice S63 rfl e5667 rfl (idx_some e5663).1 (idx_some e5663).2.1 ⟨rfl, rfl⟩)) (ag_cons (ag_r rfl rfl (Exec.load_arr (F := encRaw) (((hS5672).f3).f3) e5667 A23 rfl rfl rfl e5663 (Sub.refl _) (fun _ q => ⟨rfl, (encRaw_val.1 q).1⟩))) ag_nil)))))))), ?_⟩
    have hS5673 := ((((hS5672).f3).f3).f1).rows_split e5664 (idx_some q5661).2.2
    obtain ⟨l5674, q5675, hm5554⟩ := bind_some hm5554
    have hS5676 := (hS5673).f3
    have hS5677 := (hS5676).f1
    refine DL_e rfl rfl (Exec.append_box (E := encEdge) (ys := [x5574]) hS5677 S23 Z66 rfl (by decide) rfl rfl rfl rfl ⟨[Value.int .i64 (x5574.From), Value.int .i64 (x5574.Label), Value.int .i64 (x5574.To)], [], rfl, ⟨[Value.int .i64 (x5574.From)], [Value.int .i64 (x5574.Label), Value.int .i64 (x5574.To)], rfl, rfl, ⟨[Value.int .i64 (x5574.Label)], [Value.int .i64 (x5574.To)], rfl, rfl, rfl⟩⟩, rfl⟩ rfl q5675 ?_)
    intro v5678 w5679 hS5680
    refine ⟨(ag_cons (ag_r rfl rfl (Exec.move (v := v5282) rfl p5558 ⟨rfl, rfl⟩)) (ag_cons (ag_r rfl rfl (Exec.field F66_1 rfl rfl rfl ⟨rfl, rfl⟩)) (ag_cons (ag_r rfl rfl (Exec.load_box ((hS5680).f3) A3 rfl rfl rfl ⟨rfl, rfl⟩)) ag_nil))), ?_⟩
    refine DL_done ?_
    refine WL_step rfl rfl (Exec.index_slice S63 rfl e5667 rfl (idx_some e5663).1 (idx_some e5663).2.1 ?_)
    obtain ⟨l5681, q5682, hm5554⟩ := bind_some hm5554
    have hS5683 := ((hS5680).f2).f2
    have hS5684 := (hS5683).f2
    refine WL_step rfl rfl (Exec.store_row hS5684 e5664 e5667 A23 rfl rfl rfl rfl q5682 ?_)
    intro hs5685 w5686 hS5687
    refine WL_nil (ib_normal (at_normal ?_))
    refine W_region ?_
    refine WL_step rfl rfl (Exec.add rfl x5561 rfl ?_)
    refine WL_step rfl rfl (Exec.move (v := Value.int .i64 (IntKind.i64.wrap ((i5286 : Int) + 1))) rfl rfl ?_)
    refine WL_nil (at_normal ?_)
    have e5688 := Option.some.inj hm5554
    subst s5549
    have hS5689 := ((hS5687).f2).drop
    exact ⟨s5555, hs5685, l5556, hS5689, p5558, p5559, p5560, (Eq.trans rfl (wrap_up hi5552 (SliceRep.le a4825)))⟩
  · intro f5690 w5691 hI5692
    obtain ⟨s5693, hs5415, l5694, hS5695, p5696, p5697, p5698, x5699⟩ := hI5692
    refine W_seq ?_
    refine W_region ?_
    refine WL_step rfl rfl (Exec.lss rfl x5699 p5698 ?_)
    refine WL_nil (at_normal ?_)
    refine W_seq ?_
    refine W_false (congrArg Value.bool (decide_eq_false (by omega))) ?_
    refine W_exit (at_exit (at_exit (ib_here (at_normal ?_))))
    refine W_seq ?_
    refine W_region ?_
    refine WL_step rfl rfl (Exec.move (v := v5282) rfl p5696 ?_)
    refine WL_step rfl rfl (Exec.assign (v := v5282) rfl rfl ?_)
    refine WL_nil (at_normal ?_)
    refine W_ret ?_
    have e5701 := Option.some.inj hm
    subst r
    refine ⟨_, ret1 rfl, ?_⟩
    obtain ⟨s5702, l5703, hS5704, r5705⟩ := hS5695.freezeGrid
    exact ⟨s5702, v5282, (PHeap.le.trans l5694 l5703), hS5704, rfl, r5705⟩

theorem N38 : (Try.f38.name == "runtime.NumGoroutine") = false := by kernel_rfl

end Go.Pw
