/-
  The walks (printed by my generator).
-/
import Derived.Test.YtdhfofhginfdnaaFoP
import Derived.Test.YtdhfofhginfdnaaL8
import Derived.Test.YtdhfofhginfdnaaL9
import Derived.Test.YtdhfofhginfdnaaL12
import Derived.KernelRfl
import Derived.Test.YtdhfofhginfdnaaProg
import Derived.KernelRfl
set_option maxRecDepth 100000
set_option maxHeartbeats 4000000
set_option linter.unusedVariables false
namespace Go.Pw
open Go.Proofs
theorem Z26 : tyZero Try.prog 26 = some (Value.agg #[Value.int .i64 (0), Value.int .i64 (0), Value.slice none 0 0, Value.slice none 0 0, Value.slice none 0 0]) := by kernel_rfl

theorem A26 : tyAgg Try.prog 26 = some (true, 5) := by kernel_rfl

theorem N26 : (Try.f26.name == "runtime.NumGoroutine") = false := by kernel_rfl

theorem law44_example_sim {w0 w : World} {s : PHeap} {H : List Res}   {r : System} (hm : law44_example_p  = some r) (hS : St w0 s (H) w)  :
    Calls Try.prog 26 #[] w fun e w' => ∃ v, e = .returned v ∧ ((fun (y45 : System) => ∃ (s67 : PHeap) (v64 : Value) (v65 : Value) (v66 : Value), PHeap.le s s67 ∧ St w0 s67 (H) w' ∧ v = Value.agg #[Value.int .i64 (y45.States), Value.int .i64 (y45.Init), v64, v65, v66] ∧ SliceRep (encInt .i64) s67 v64 y45.Costs ∧ SliceRep encEdge s67 v65 y45.Edges ∧ SliceRep encBool s67 v66 y45.Goals) r) := by
  unfold law44_example_p at hm
  refine calls_of_W Try.func26 rfl rfl ?_
  refine W_seq ?_
  refine W_region ?_
  refine WL_step rfl rfl (Exec.alloc (cs := [Value.int .i64 (0), Value.int .i64 (0), Value.slice none 0 0, Value.slice none 0 0, Value.slice none 0 0]) hS Z26 rfl rfl ?_)
  intro b71 w72 hS73
  refine WL_nil (at_normal ?_)
  refine W_seq ?_
  refine W_region ?_
  refine WL_step rfl rfl (Exec.buildSlice (Te := 3) (cs := [Value.int .i64 (2), Value.int .i64 (0)]) hS73 rfl (parts_cons (c := [Value.int .i64 (2)]) (cells_of rfl rfl) (parts_cons (c := [Value.int .i64 (0)]) (cells_of rfl rfl) parts_nil)) (fun _ => by kernel_rfl) ?_)
  intro b86 w87 hS88
  refine WL_step rfl rfl (Exec.build rfl (parts_cons (c := [Value.int .i64 (0)]) (cells_of rfl rfl) (parts_cons (c := [Value.int .i64 (0)]) (cells_of rfl rfl) (parts_cons (c := [Value.int .i64 (1)]) (cells_of rfl rfl) parts_nil))) (v := Value.agg #[Value.int .i64 (0), Value.int .i64 (0), Value.int .i64 (1)]) (fun _ => by kernel_rfl) ?_)
  refine WL_step rfl rfl (Exec.build rfl (parts_cons (c := [Value.int .i64 (1)]) (cells_of rfl rfl) (parts_cons (c := [Value.int .i64 (1)]) (cells_of rfl rfl) (parts_cons (c := [Value.int .i64 (1)]) (cells_of rfl rfl) parts_nil))) (v := Value.agg #[Value.int .i64 (1), Value.int .i64 (1), Value.int .i64 (1)]) (fun _ => by kernel_rfl) ?_)
  refine WL_step rfl rfl (Exec.buildSlice (Te := 66) (cs := [Value.int .i64 (0), Value.int .i64 (0), Value.int .i64 (1), Value.int .i64 (1), Value.int .i64 (1), Value.int .i64 (1)]) hS88 rfl (parts_cons (c := [Value.int .i64 (0), Value.int .i64 (0), Value.int .i64 (1)]) (cells_of rfl rfl) (parts_cons (c := [Value.int .i64 (1), Value.int .i64 (1), Value.int .i64 (1)]) (cells_of rfl rfl) parts_nil)) (fun _ => by kernel_rfl) ?_)
  intro b89 w90 hS91
  refine WL_step rfl rfl (Exec.buildSlice (Te := 4) (cs := [Value.bool (false), Value.bool (true)]) hS91 rfl (parts_cons (c := [Value.bool (false)]) (cells_of rfl rfl) (parts_cons (c := [Value.bool (true)]) (cells_of rfl rfl) parts_nil)) (fun _ => by kernel_rfl) ?_)
  intro b92 w93 hS94
  refine WL_step rfl rfl (Exec.build rfl (parts_cons (c := [Value.int .i64 (2)]) (cells_of rfl rfl) (parts_cons (c := [Value.slice (some ⟨b86, 0, none⟩) 2 2]) (cells_of rfl rfl) (parts_cons (c := [Value.slice (some ⟨b89, 0, none⟩) 2 2]) (cells_of rfl rfl) (parts_cons (c := [Value.slice (some ⟨b92, 0, none⟩) 2 2]) (cells_of rfl rfl) parts_nil)))) (v := Value.agg #[Value.int .i64 (2), Value.int .i64 (0), Value.slice (some ⟨b86, 0, none⟩) 2 2, Value.slice (some ⟨b89, 0, none⟩) 2 2, Value.slice (some ⟨b92, 0, none⟩) 2 2]) (fun _ => by kernel_rfl) ?_)
  have hS95 := (hS94).f3
  refine WL_step rfl rfl (Exec.store_box (ds := [Value.int .i64 (2), Value.int .i64 (0), Value.slice (some ⟨b86, 0, none⟩) 2 2, Value.slice (some ⟨b89, 0, none⟩) 2 2, Value.slice (some ⟨b92, 0, none⟩) 2 2]) (es := [Value.int .i64 (2), Value.int .i64 (0), Value.slice (some ⟨b86, 0, none⟩) 2 2, Value.slice (some ⟨b89, 0, none⟩) 2 2, Value.slice (some ⟨b92, 0, none⟩) 2 2]) hS95 A26 rfl rfl rfl rfl (one_cons rfl (one_cons rfl (one_cons rfl (one_cons rfl (one_cons rfl one_nil))))) (Nat.le_of_ble_eq_true rfl) rfl ?_)
  intro w96 hS97
  refine WL_nil (at_normal ?_)
  refine W_ret ?_
  have e99 := Option.some.inj hm
  subst r
  refine ⟨_, retG1 rfl ⟨_, _, rfl, cellRes (hS97) A26⟩, ?_⟩
  have hS100 := (hS97).f3
  have hS101 := St.boxArr (E := (encInt .i64)) (xs := [2, 0]) hS100 ⟨[Value.int .i64 (2)], [Value.int .i64 (0)], rfl, rfl, ⟨[Value.int .i64 (0)], [], rfl, rfl, rfl⟩⟩ (by simp [maxLen])
  obtain ⟨s102, l103, hS104, r105⟩ := hS101.freezeArr
  have hS106 := (hS104).f2
  have hS107 := St.boxArr (E := encEdge) (xs := [(⟨0, 0, 1⟩ : Edge), (⟨1, 1, 1⟩ : Edge)]) hS106 ⟨[Value.int .i64 (0), Value.int .i64 (0), Value.int .i64 (1)], [Value.int .i64 (1), Value.int .i64 (1), Value.int .i64 (1)], rfl, ⟨[Value.int .i64 (0)], [Value.int .i64 (0), Value.int .i64 (1)], rfl, rfl, ⟨[Value.int .i64 (0)], [Value.int .i64 (1)], rfl, rfl, rfl⟩⟩, ⟨[Value.int .i64 (1), Value.int .i64 (1), Value.int .i64 (1)], [], rfl, ⟨[Value.int .i64 (1)], [Value.int .i64 (1), Value.int .i64 (1)], rfl, rfl, ⟨[Value.int .i64 (1)], [Value.int .i64 (1)], rfl, rfl, rfl⟩⟩, rfl⟩⟩ (by simp [maxLen])
  obtain ⟨s108, l109, hS110, r111⟩ := hS107.freezeArr
  have hS112 := (hS110).f1
  have hS113 := St.boxArr (E := encBool) (xs := [false, true]) hS112 ⟨[Value.bool (false)], [Value.bool (true)], rfl, rfl, ⟨[Value.bool (true)], [], rfl, rfl, rfl⟩⟩ (by simp [maxLen])
  obtain ⟨s114, l115, hS116, r117⟩ := hS113.freezeArr
  have hS118 := (hS116).drop
  exact ⟨s114, (Value.slice (some ⟨b86, 0, none⟩) 2 2), (Value.slice (some ⟨b89, 0, none⟩) 2 2), (Value.slice (some ⟨b92, 0, none⟩) 2 2), (PHeap.le.trans (PHeap.le.trans l103 l109) l115), hS118, rfl, (r105.mono (PHeap.le.trans l109 l115)), (r111.mono l115), r117⟩

theorem F26_0 : tyField Try.prog 26 0 = some 0 := by kernel_rfl

theorem A3 : tyAgg Try.prog 3 = some (false, 1) := by kernel_rfl

theorem F26_1 : tyField Try.prog 26 1 = some 1 := by kernel_rfl

theorem F26_4 : tyField Try.prog 26 4 = some 4 := by kernel_rfl

theorem A24 : tyAgg Try.prog 24 = some (false, 1) := by kernel_rfl

theorem S24 : tySlice Try.prog 24 = some (4, 1, 1) := by kernel_rfl

theorem F26_2 : tyField Try.prog 26 2 = some 2 := by kernel_rfl

theorem A22 : tyAgg Try.prog 22 = some (false, 1) := by kernel_rfl

theorem S22 : tySlice Try.prog 22 = some (3, 1, 8) := by kernel_rfl

theorem F26_3 : tyField Try.prog 26 3 = some 3 := by kernel_rfl

theorem A23 : tyAgg Try.prog 23 = some (false, 1) := by kernel_rfl

theorem S23 : tySlice Try.prog 23 = some (66, 3, 24) := by kernel_rfl

theorem A66 : tyAgg Try.prog 66 = some (true, 3) := by kernel_rfl

theorem Z66 : tyZero Try.prog 66 = some (Value.agg #[Value.int .i64 (0), Value.int .i64 (0), Value.int .i64 (0)]) := by kernel_rfl

theorem hmix : Try.prog.follows .mixedOrders = true := by kernel_rfl

theorem F66_0 : tyField Try.prog 66 0 = some 0 := by kernel_rfl

theorem F66_2 : tyField Try.prog 66 2 = some 2 := by kernel_rfl

theorem F66_1 : tyField Try.prog 66 1 = some 1 := by kernel_rfl

theorem N75 : (Try.f75.name == "runtime.NumGoroutine") = false := by kernel_rfl

theorem cmp_isNaN_int__sim {w0 w : World} {s : PHeap} {H : List Res} {x402 : Int}  {r : Bool} (hm : cmp_isNaN_int__p x402 = some r) (hS : St w0 s (H) w)  :
    Calls Try.prog 75 #[Value.int .i64 (x402)] w fun e w' => ∃ v, e = .returned v ∧ ((fun (y404 : Bool) => ∃ (s405 : PHeap) , PHeap.le s s405 ∧ St w0 s405 (H) w' ∧ v = Value.bool (y404)) r) := by
  unfold cmp_isNaN_int__p at hm
  refine calls_of_W Try.func75 rfl rfl ?_
  refine W_seq ?_
  refine W_region ?_
  refine WL_step rfl rfl (Exec.assign (v := Value.bool (false)) rfl rfl ?_)
  refine WL_nil (at_normal ?_)
  refine W_seq ?_
  refine W_region ?_
  refine WL_step rfl rfl (Exec.move (v := Value.int .i64 (x402)) rfl rfl ?_)
  refine WL_step rfl rfl (Exec.move (v := Value.int .i64 (x402)) rfl rfl ?_)
  refine WL_step rfl rfl (Exec.neq rfl rfl rfl ?_)
  refine WL_step rfl rfl (Exec.assign (v := Value.bool (!decide (x402 = x402))) rfl rfl ?_)
  refine WL_nil (at_normal ?_)
  refine W_ret ?_
  have e407 := Option.some.inj hm
  subst r
  refine ⟨_, ret1 rfl, ?_⟩
  exact ⟨s, (PHeap.le_refl _), hS, rfl⟩

theorem N56 : (Try.f56.name == "runtime.NumGoroutine") = false := by kernel_rfl

theorem cmp_Compare_int__sim {w0 w : World} {s : PHeap} {H : List Res} {x400 : Int} {y401 : Int}  {r : Int} (hm : cmp_Compare_int__p x400 y401 = some r) (hS : St w0 s (H) w)  :
    Calls Try.prog 56 #[Value.int .i64 (x400), Value.int .i64 (y401)] w fun e w' => ∃ v, e = .returned v ∧ ((fun (y430 : Int) => ∃ (s431 : PHeap) , PHeap.le s s431 ∧ St w0 s431 (H) w' ∧ v = Value.int .i64 (y430)) r) := by
  unfold cmp_Compare_int__p at hm
  refine calls_of_W Try.func56 rfl rfl ?_
  refine W_seq ?_
  refine W_region ?_
  refine WL_step rfl rfl (Exec.assign (v := Value.int .i64 (0)) rfl rfl ?_)
  refine WL_nil (at_normal ?_)
  refine W_seq ?_
  refine W_region ?_
  refine WL_step rfl rfl (Exec.move (v := Value.int .i64 (x400)) rfl rfl ?_)
  refine WL_step rfl rfl (Exec.call rfl rfl Try.func75 rfl N75 (args_cons rfl args_nil) ((cmp_isNaN_int__sim (cmp_isNaN_int__tot x400) hS ).mono ?_))
  rintro _ w436 ⟨_, rfl, ⟨s437, l438, hS439, rfl⟩⟩
  refine ⟨_, rfl, ?_⟩
  refine WL_step rfl rfl (Exec.assign (v := Value.bool ((cmp_isNaN_int__t x400))) rfl rfl ?_)
  refine WL_nil (at_normal ?_)
  refine W_seq ?_
  refine W_region ?_
  refine WL_step rfl rfl (Exec.move (v := Value.int .i64 (y401)) rfl rfl ?_)
  refine WL_step rfl rfl (Exec.call rfl rfl Try.func75 rfl N75 (args_cons rfl args_nil) ((cmp_isNaN_int__sim (cmp_isNaN_int__tot y401) hS439 ).mono ?_))
  rintro _ w444 ⟨_, rfl, ⟨s445, l446, hS447, rfl⟩⟩
  refine ⟨_, rfl, ?_⟩
  refine WL_step rfl rfl (Exec.assign (v := Value.bool ((cmp_isNaN_int__t y401))) rfl rfl ?_)
  refine WL_nil (at_normal ?_)
  refine W_seq ?_
  refine W_seq ?_
  refine W_region ?_
  refine WL_step rfl rfl (Exec.move (v := Value.bool ((cmp_isNaN_int__t x400))) rfl rfl ?_)
  refine WL_nil (at_normal ?_)
  rcases ite_some hm with ⟨hc448, hm⟩ | ⟨hc448, hm⟩
  · refine W_cond_t rfl hc448 ?_
    refine W_seq ?_
    refine W_seq ?_
    refine W_region ?_
    refine WL_step rfl rfl (Exec.move (v := Value.bool ((cmp_isNaN_int__t y401))) rfl rfl ?_)
    refine WL_nil (at_normal ?_)
    rcases ite_some hm with ⟨hc449, hm⟩ | ⟨hc449, hm⟩
    · refine W_cond_t rfl hc449 ?_
      refine W_seq ?_
      refine W_region ?_
      refine WL_step rfl rfl (Exec.assign (v := Value.int .i64 (0)) rfl rfl ?_)
      refine WL_nil (at_normal ?_)
      refine W_ret (at_ret (at_ret ?_))
      have e451 := Option.some.inj hm
      subst r
      refine ⟨_, ret1 rfl, ?_⟩
      exact ⟨s445, (PHeap.le.trans l438 l446), hS447, rfl⟩
    · refine W_cond_f rfl hc449 ?_
      replace hc449 := not_true hc449
      refine W_skip (at_normal ?_)
      refine W_seq ?_
      refine W_region ?_
      refine WL_step rfl rfl (Exec.assign (v := Value.int .i64 ((-1))) rfl rfl ?_)
      refine WL_nil (at_normal ?_)
      refine W_ret (at_ret ?_)
      have e453 := Option.some.inj hm
      subst r
      refine ⟨_, ret1 rfl, ?_⟩
      exact ⟨s445, (PHeap.le.trans l438 l446), hS447, rfl⟩
  · refine W_cond_f rfl hc448 ?_
    replace hc448 := not_true hc448
    refine W_skip (at_normal ?_)
    refine W_seq ?_
    refine W_seq ?_
    refine W_region ?_
    refine WL_step rfl rfl (Exec.move (v := Value.bool ((cmp_isNaN_int__t y401))) rfl rfl ?_)
    refine WL_nil (at_normal ?_)
    rcases ite_some hm with ⟨hc454, hm⟩ | ⟨hc454, hm⟩
    · refine W_cond_t rfl hc454 ?_
      refine W_seq ?_
      refine W_region ?_
      refine WL_step rfl rfl (Exec.assign (v := Value.int .i64 (1)) rfl rfl ?_)
      refine WL_nil (at_normal ?_)
      refine W_ret (at_ret ?_)
      have e456 := Option.some.inj hm
      subst r
      refine ⟨_, ret1 rfl, ?_⟩
      exact ⟨s445, (PHeap.le.trans l438 l446), hS447, rfl⟩
    · refine W_cond_f rfl hc454 ?_
      replace hc454 := not_true hc454
      refine W_skip (at_normal ?_)
      refine W_seq ?_
      refine W_seq ?_
      refine W_region ?_
      refine WL_step rfl rfl (Exec.move (v := Value.int .i64 (x400)) rfl rfl ?_)
      refine WL_step rfl rfl (Exec.move (v := Value.int .i64 (y401)) rfl rfl ?_)
      refine WL_step rfl rfl (Exec.lss rfl rfl rfl ?_)
      refine WL_nil (at_normal ?_)
      rcases ite_some hm with ⟨hc457, hm⟩ | ⟨hc457, hm⟩
      · refine W_cond_t rfl hc457 ?_
        refine W_seq ?_
        refine W_region ?_
        refine WL_step rfl rfl (Exec.assign (v := Value.int .i64 ((-1))) rfl rfl ?_)
        refine WL_nil (at_normal ?_)
        refine W_ret (at_ret ?_)
        have e459 := Option.some.inj hm
        subst r
        refine ⟨_, ret1 rfl, ?_⟩
        exact ⟨s445, (PHeap.le.trans l438 l446), hS447, rfl⟩
      · refine W_cond_f rfl hc457 ?_
        replace hc457 := not_true hc457
        refine W_skip (at_normal ?_)
        refine W_seq ?_
        refine W_seq ?_
        refine W_region ?_
        refine WL_step rfl rfl (Exec.move (v := Value.int .i64 (x400)) rfl rfl ?_)
        refine WL_step rfl rfl (Exec.move (v := Value.int .i64 (y401)) rfl rfl ?_)
        refine WL_step rfl rfl (Exec.gtr rfl rfl rfl ?_)
        refine WL_nil (at_normal ?_)
        rcases ite_some hm with ⟨hc460, hm⟩ | ⟨hc460, hm⟩
        · refine W_cond_t rfl hc460 ?_
          refine W_seq ?_
          refine W_region ?_
          refine WL_step rfl rfl (Exec.assign (v := Value.int .i64 (1)) rfl rfl ?_)
          refine WL_nil (at_normal ?_)
          refine W_ret (at_ret ?_)
          have e462 := Option.some.inj hm
          subst r
          refine ⟨_, ret1 rfl, ?_⟩
          exact ⟨s445, (PHeap.le.trans l438 l446), hS447, rfl⟩
        · refine W_cond_f rfl hc460 ?_
          replace hc460 := not_true hc460
          refine W_skip (at_normal ?_)
          refine W_seq ?_
          refine W_region ?_
          refine WL_step rfl rfl (Exec.assign (v := Value.int .i64 (0)) rfl rfl ?_)
          refine WL_nil (at_normal ?_)
          refine W_ret ?_
          have e464 := Option.some.inj hm
          subst r
          refine ⟨_, ret1 rfl, ?_⟩
          exact ⟨s445, (PHeap.le.trans l438 l446), hS447, rfl⟩

theorem N55 : (Try.f55.name == "runtime.NumGoroutine") = false := by kernel_rfl

theorem cmp_Or_int__sim {w0 w : World} {s : PHeap} {H : List Res} {vals485 : (List Int)} {v486 : Value} {r : Int} (hm : cmp_Or_int__p vals485 = some r) (hS : St w0 s (H) w) (a487 : SliceRep (encInt .i64) s v486 vals485) :
    Calls Try.prog 55 #[v486] w fun e w' => ∃ v, e = .returned v ∧ ((fun (y584 : Int) => ∃ (s585 : PHeap) , PHeap.le s s585 ∧ St w0 s585 (H) w' ∧ v = Value.int .i64 (y584)) r) := by
  unfold cmp_Or_int__p at hm
  refine calls_of_W Try.func55 rfl rfl ?_
  refine W_seq ?_
  refine W_region ?_
  refine WL_step rfl rfl (Exec.assign (v := Value.int .i64 (0)) rfl rfl ?_)
  refine WL_nil (at_normal ?_)
  refine W_seq ?_
  refine W_region ?_
  refine WL_step rfl rfl (Exec.assign (v := Value.int .i64 (0)) rfl rfl ?_)
  refine WL_nil (at_normal ?_)
  refine W_seq ?_
  refine W_seq ?_
  refine W_region ?_
  refine WL_step rfl rfl (Exec.move (v := v486) rfl rfl ?_)
  refine WL_step rfl rfl (Exec.len_rep S22 rfl rfl a487 ?_)
  refine WL_step rfl rfl (Exec.move (v := Value.int .i64 (0)) rfl rfl ?_)
  refine WL_nil (at_normal ?_)
  obtain ⟨c619, hB620, hr621, hn622, hb623⟩ := ctl_some hm
  refine W_mid (M := fun f' w' => ∃ s', (c619 = .next s' ∨ c619 = .brk s') ∧ (fun (_ : Unit) => ∃ (s625 : PHeap) , PHeap.le s s625 ∧ St w0 s625 (H) w' ∧ f' 3 = Value.int .i64 (0) ∧ f' 6 = v486 ∧ f' 7 = Value.int .i64 ((vals485.length : Int))) s') ?_ ?_
  · refine W_block (W_forC (fun k' s' f' w' => (fun (_ : Unit) => ∃ (s624 : PHeap) , PHeap.le s s624 ∧ St w0 s624 (H) w' ∧ f' 3 = Value.int .i64 (0) ∧ f' 6 = v486 ∧ f' 7 = Value.int .i64 ((vals485.length : Int)) ∧ f' 8 = Value.int .i64 (k' : Int)) s') hB620 ?_ ?_ ?_)
    · exact ⟨s, (PHeap.le_refl _), hS, rfl, rfl, rfl, rfl⟩
    · intro i586 t633 c627 f628 w629 hi634 hI630 hm631 hres632
      obtain ⟨s635, l636, hS637, p638, p639, p640, x641⟩ := hI630
      refine W_seq ?_
      refine W_region ?_
      refine WL_step rfl rfl (Exec.lss rfl x641 p640 ?_)
      refine WL_nil (at_normal ?_)
      refine W_seq ?_
      refine W_true (congrArg Value.bool (decide_eq_true (by omega))) ?_
      refine W_skip (at_normal ?_)
      refine W_seq ?_
      refine W_block ?_
      refine W_seq ?_
      refine W_region ?_
      obtain ⟨x649, q650, hm631⟩ := bind_some hm631
      refine WL_step rfl rfl (Exec.index_rep S22 rfl p639 x641 (a487.mono l636) q650 ?_)
      intro b651 o652 a653
      refine WL_step rfl rfl (Exec.load_at (E := (encInt .i64)) hS637 A3 rfl rfl rfl a653 ?_)
      intro v654 q655
      obtain rfl := encInt_val.1 q655
      refine WL_step rfl rfl (Exec.assign (v := Value.int .i64 (x649)) rfl rfl ?_)
      refine WL_nil (at_normal ?_)
      refine W_seq ?_
      refine W_region ?_
      refine WL_step rfl rfl (Exec.move (v := Value.int .i64 (x649)) rfl rfl ?_)
      refine WL_step rfl rfl (Exec.move (v := Value.int .i64 (0)) rfl p638 ?_)
      refine WL_step rfl rfl (Exec.neq rfl rfl rfl ?_)
      refine WL_nil (at_normal ?_)
      rcases ite_some hm631 with ⟨hc656, hm631⟩ | ⟨hc656, hm631⟩
      · refine W_cond_t rfl hc656 ?_
        refine W_seq ?_
        refine W_region ?_
        refine WL_step rfl rfl (Exec.move (v := Value.int .i64 (x649)) rfl rfl ?_)
        refine WL_step rfl rfl (Exec.assign (v := Value.int .i64 (x649)) rfl rfl ?_)
        refine WL_nil (at_normal ?_)
        refine W_ret (ib_ret (at_ret (at_ret (ib_ret (at_ret (at_ret ?_))))))
        have e657 := Option.some.inj hm631
        subst c627
        have hq658 := hr621 _ (hres632 (by intro _ h; cases h))
        have e659 := Option.some.inj hq658
        subst r
        refine ⟨_, ret1 rfl, ?_⟩
        exact ⟨s635, l636, hS637, rfl⟩
      · refine W_cond_f rfl hc656 ?_
        replace hc656 := not_true hc656
        refine W_skip (ib_normal (at_normal ?_))
        refine W_region ?_
        refine WL_step rfl rfl (Exec.add rfl x641 rfl ?_)
        refine WL_step rfl rfl (Exec.move (v := Value.int .i64 (IntKind.i64.wrap ((i586 : Int) + 1))) rfl rfl ?_)
        refine WL_nil (at_normal ?_)
        have e660 := Option.some.inj hm631
        subst c627
        refine ⟨_, rfl, ?_⟩; exact ⟨s635, l636, hS637, p638, p639, p640, (Eq.trans rfl (wrap_up hi634 (SliceRep.le a487)))⟩
    · intro t661 f662 w663 hI664 hres665
      obtain ⟨s666, l667, hS668, p669, p670, p671, x672⟩ := hI664
      refine W_seq ?_
      refine W_region ?_
      refine WL_step rfl rfl (Exec.lss rfl x672 p671 ?_)
      refine WL_nil (at_normal ?_)
      refine W_seq ?_
      refine W_false (congrArg Value.bool (decide_eq_false (by omega))) ?_
      refine W_exit (at_exit (at_exit (ib_here (at_normal ?_))))
      refine ⟨_, .inl hres665, ?_⟩; exact ⟨s666, l667, hS668, p669, p670, p671⟩
  · rintro f673 w674 ⟨t675, hc676, hM677⟩
    have hm := hc676.elim (hn622 _) (hb623 _)
    clear hc676
    obtain ⟨s678, l679, hS680, p681, p682, p683⟩ := hM677
    refine (at_normal ?_)
    refine W_seq ?_
    refine W_region ?_
    refine WL_step rfl rfl (Exec.move (v := Value.int .i64 (0)) rfl p681 ?_)
    refine WL_step rfl rfl (Exec.assign (v := Value.int .i64 (0)) rfl rfl ?_)
    refine WL_nil (at_normal ?_)
    refine W_ret ?_
    have e685 := Option.some.inj hm
    subst r
    refine ⟨_, ret1 rfl, ?_⟩
    exact ⟨s678, l679, hS680, rfl⟩

theorem N39 : (Try.f39.name == "runtime.NumGoroutine") = false := by kernel_rfl

theorem transys_compare_sim {w0 w : World} {s : PHeap} {H : List Res} {a385 : Edge} {b386 : Edge}  {r : Int} (hm : transys_compare_p a385 b386 = some r) (hS : St w0 s (H) w)  :
    Calls Try.prog 39 #[Value.agg #[Value.int .i64 (a385.From), Value.int .i64 (a385.Label), Value.int .i64 (a385.To)], Value.agg #[Value.int .i64 (b386.From), Value.int .i64 (b386.Label), Value.int .i64 (b386.To)]] w fun e w' => ∃ v, e = .returned v ∧ ((fun (y778 : Int) => ∃ (s779 : PHeap) , PHeap.le s s779 ∧ St w0 s779 (H) w' ∧ v = Value.int .i64 (y778)) r) := by
  unfold transys_compare_p at hm
  refine calls_of_W Try.func39 rfl rfl ?_
  refine W_seq ?_
  refine W_region ?_
  refine WL_step rfl rfl (Exec.box (cs := [Value.int .i64 (a385.From), Value.int .i64 (a385.Label), Value.int .i64 (a385.To)]) hS rfl rfl rfl ?_)
  intro b786 w787 hS788
  refine WL_step rfl rfl (Exec.box (cs := [Value.int .i64 (b386.From), Value.int .i64 (b386.Label), Value.int .i64 (b386.To)]) hS788 rfl rfl rfl ?_)
  intro b789 w790 hS791
  refine WL_step rfl rfl (Exec.assign (v := Value.int .i64 (0)) rfl rfl ?_)
  refine WL_nil (at_normal ?_)
  refine W_seq ?_
  refine W_dl (n0 := 17) (.q 0 (.q 1 (.q 2 (.q 3 (.q 5 (.q 6 (.q 7 (.q 8 (.q 10 (.q 11 (.q 12 (.q 13 (.e 4 [5, 6, 7, 8, 10, 11, 12, 13] (.e 9 [10, 11, 12, 13] (.e 14 [] (.e 15 [] (.e 16 [] .done))))))))))))))))) hmix (by kernel_rfl) (by kernel_rfl) ?_
  have hS876 := hS791.drew
  refine DL_q rfl rfl (Exec.field F66_0 rfl rfl rfl ⟨rfl, ?_⟩)
  refine DL_q rfl rfl (Exec.load_box ((hS876).f1) A3 rfl rfl rfl ⟨rfl, ?_⟩)
  refine DL_q rfl rfl (Exec.field F66_0 rfl rfl rfl ⟨rfl, ?_⟩)
  refine DL_q rfl rfl (Exec.load_box (hS876) A3 rfl rfl rfl ⟨rfl, ?_⟩)
  refine DL_q rfl rfl (Exec.field F66_1 rfl rfl rfl ⟨rfl, ?_⟩)
  refine DL_q rfl rfl (Exec.load_box ((hS876).f1) A3 rfl rfl rfl ⟨rfl, ?_⟩)
  refine DL_q rfl rfl (Exec.field F66_1 rfl rfl rfl ⟨rfl, ?_⟩)
  refine DL_q rfl rfl (Exec.load_box (hS876) A3 rfl rfl rfl ⟨rfl, ?_⟩)
  refine DL_q rfl rfl (Exec.field F66_2 rfl rfl rfl ⟨rfl, ?_⟩)
  refine DL_q rfl rfl (Exec.load_box ((hS876).f1) A3 rfl rfl rfl ⟨rfl, ?_⟩)
  refine DL_q rfl rfl (Exec.field F66_2 rfl rfl rfl ⟨rfl, ?_⟩)
  refine DL_q rfl rfl (Exec.load_box (hS876) A3 rfl rfl rfl ⟨rfl, ?_⟩)
  refine DL_e rfl rfl (Exec.call rfl rfl Try.func56 rfl N56 (args_cons rfl (args_cons rfl args_nil)) ((cmp_Compare_int__sim (cmp_Compare_int__tot a385.From b386.From) hS876 ).mono ?_))
  rintro _ w877 ⟨_, rfl, ⟨s878, l879, hS880, rfl⟩⟩
  refine ⟨_, rfl, ?_⟩
  refine ⟨(ag_cons (ag_r rfl rfl (Exec.field F66_1 rfl rfl rfl ⟨rfl, rfl⟩)) (ag_cons (ag_r rfl rfl (Exec.load_box ((hS880).f1) A3 rfl rfl rfl ⟨rfl, rfl⟩)) (ag_cons (ag_r rfl rfl (Exec.field F66_1 rfl rfl rfl ⟨rfl, rfl⟩)) (ag_cons (ag_r rfl rfl (Exec.load_box (hS880) A3 rfl rfl rfl ⟨rfl, rfl⟩)) (ag_cons (ag_r rfl rfl (Exec.field F66_2 rfl rfl rfl ⟨rfl, rfl⟩)) (ag_cons (ag_r rfl rfl (Exec.load_box ((hS880).f1) A3 rfl rfl rfl ⟨rfl, rfl⟩)) (ag_cons (ag_r rfl rfl (Exec.field F66_2 rfl rfl rfl ⟨rfl, rfl⟩)) (ag_cons (ag_r rfl rfl (Exec.load_box (hS880) A3 rfl rfl rfl ⟨rfl, rfl⟩)) ag_nil)))))))), ?_⟩
  refine DL_e rfl rfl (Exec.call rfl rfl Try.func56 rfl N56 (args_cons rfl (args_cons rfl args_nil)) ((cmp_Compare_int__sim (cmp_Compare_int__tot a385.Label b386.Label) hS880 ).mono ?_))
  rintro _ w881 ⟨_, rfl, ⟨s882, l883, hS884, rfl⟩⟩
  refine ⟨_, rfl, ?_⟩
  refine ⟨(ag_cons (ag_r rfl rfl (Exec.field F66_2 rfl rfl rfl ⟨rfl, rfl⟩)) (ag_cons (ag_r rfl rfl (Exec.load_box ((hS884).f1) A3 rfl rfl rfl ⟨rfl, rfl⟩)) (ag_cons (ag_r rfl rfl (Exec.field F66_2 rfl rfl rfl ⟨rfl, rfl⟩)) (ag_cons (ag_r rfl rfl (Exec.load_box (hS884) A3 rfl rfl rfl ⟨rfl, rfl⟩)) ag_nil)))), ?_⟩
  refine DL_e rfl rfl (Exec.call rfl rfl Try.func56 rfl N56 (args_cons rfl (args_cons rfl args_nil)) ((cmp_Compare_int__sim (cmp_Compare_int__tot a385.To b386.To) hS884 ).mono ?_))
  rintro _ w885 ⟨_, rfl, ⟨s886, l887, hS888, rfl⟩⟩
  refine ⟨_, rfl, ?_⟩
  refine ⟨ag_nil, ?_⟩
  refine DL_e rfl rfl (Exec.buildSlice (Te := 3) (cs := [Value.int .i64 ((cmp_Compare_int__t a385.From b386.From)), Value.int .i64 ((cmp_Compare_int__t a385.Label b386.Label)), Value.int .i64 ((cmp_Compare_int__t a385.To b386.To))]) hS888 rfl (parts_cons (c := [Value.int .i64 ((cmp_Compare_int__t a385.From b386.From))]) (cells_of rfl rfl) (parts_cons (c := [Value.int .i64 ((cmp_Compare_int__t a385.Label b386.Label))]) (cells_of rfl rfl) (parts_cons (c := [Value.int .i64 ((cmp_Compare_int__t a385.To b386.To))]) (cells_of rfl rfl) parts_nil))) (fun _ => by kernel_rfl) ?_)
  intro b889 w890 hS891
  refine ⟨ag_nil, ?_⟩
  have hS892 := St.boxArr (E := (encInt .i64)) (xs := [(cmp_Compare_int__t a385.From b386.From), (cmp_Compare_int__t a385.Label b386.Label), (cmp_Compare_int__t a385.To b386.To)]) hS891 ⟨[Value.int .i64 ((cmp_Compare_int__t a385.From b386.From))], [Value.int .i64 ((cmp_Compare_int__t a385.Label b386.Label)), Value.int .i64 ((cmp_Compare_int__t a385.To b386.To))], rfl, rfl, ⟨[Value.int .i64 ((cmp_Compare_int__t a385.Label b386.Label))], [Value.int .i64 ((cmp_Compare_int__t a385.To b386.To))], rfl, rfl, ⟨[Value.int .i64 ((cmp_Compare_int__t a385.To b386.To))], [], rfl, rfl, rfl⟩⟩⟩ (by simp [maxLen])
  obtain ⟨s893, l894, hS895, r896⟩ := hS892.freezeArr
  obtain ⟨y899, q898, hm⟩ := bind_some hm
  refine DL_e rfl rfl (Exec.call rfl rfl Try.func55 rfl N55 (args_cons rfl args_nil) ((cmp_Or_int__sim q898 hS895 r896).mono ?_))
  rintro _ w900 ⟨_, rfl, ⟨s901, l902, hS903, rfl⟩⟩
  refine ⟨_, rfl, ?_⟩
  refine ⟨ag_nil, ?_⟩
  refine DL_done ?_
  refine WL_step rfl rfl (Exec.assign (v := Value.int .i64 (y899)) rfl rfl ?_)
  refine WL_nil (at_normal ?_)
  refine W_ret ?_
  have e905 := Option.some.inj hm
  subst r
  refine ⟨_, ret1 rfl, ?_⟩
  have hS906 := (hS903).drop
  have hS907 := (hS906).drop
  exact ⟨s901, (PHeap.le.trans (PHeap.le.trans (PHeap.le.trans (PHeap.le.trans l879 l883) l887) l894) l902), hS907, rfl⟩

theorem N25 : (Try.f25.name == "runtime.NumGoroutine") = false := by kernel_rfl

theorem transys_Valid_sim {w0 w : World} {s : PHeap} {H : List Res} {x171 : System} {v172 : Value} {v174 : Value} {v176 : Value} {r : Bool} (hm : transys_Valid_p x171 = some r) (hS : St w0 s (H) w) (a173 : SliceRep (encInt .i64) s v172 x171.Costs) (a175 : SliceRep encEdge s v174 x171.Edges) (a177 : SliceRep encBool s v176 x171.Goals) :
    Calls Try.prog 25 #[Value.agg #[Value.int .i64 (x171.States), Value.int .i64 (x171.Init), v172, v174, v176]] w fun e w' => ∃ v, e = .returned v ∧ ((fun (y1358 : Bool) => ∃ (s1359 : PHeap) , PHeap.le s s1359 ∧ St w0 s1359 (H) w' ∧ v = Value.bool (y1358)) r) := by
  unfold transys_Valid_p at hm
  refine calls_of_W Try.func25 rfl rfl ?_
  refine W_seq ?_
  refine W_region ?_
  refine WL_step rfl rfl (Exec.box (cs := [Value.int .i64 (x171.States), Value.int .i64 (x171.Init), v172, v174, v176]) hS rfl rfl rfl ?_)
  intro b1363 w1364 hS1365
  refine WL_step rfl rfl (Exec.assign (v := Value.bool (false)) rfl rfl ?_)
  refine WL_nil (at_normal ?_)
  refine W_seq ?_
  refine W_seq ?_
  refine W_mid (M := fun f' w' => ∃ (s1372 : PHeap) , PHeap.le s s1372 ∧ St w0 s1372 (Res.box b1363 26 [Value.int .i64 (x171.States), Value.int .i64 (x171.Init), v172, v174, v176] :: H) w' ∧ f' 1 = Value.pointer (some ⟨b1363, 0, none⟩) ∧ f' 46 = Value.bool (((decide (x171.States < 1)) || ((decide (4096 < x171.States)) || ((decide (x171.Init < 0)) || ((decide (x171.States ≤ x171.Init)) || ((!decide ((x171.Goals.length : Int) = x171.States)) || ((decide (4096 < (x171.Costs.length : Int))) || decide (65536 < (x171.Edges.length : Int)))))))))) ?_ ?_
  · refine W_region ?_
    refine WL_step rfl rfl (Exec.field F26_0 rfl rfl rfl ?_)
    refine WL_step rfl rfl (Exec.load_box (hS1365) A3 rfl rfl rfl ?_)
    refine WL_step rfl rfl (Exec.lss rfl rfl rfl ?_)
    refine WL_step rfl rfl (Exec.move (v := Value.bool (decide (x171.States < 1))) rfl rfl ?_)
    by_cases hc1373 : (decide (x171.States < 1)) = true
    · refine WL_pass rfl (yield_of rfl (congrArg Value.bool hc1373)) rfl rfl ?_
      refine WL_pass rfl (yield_of rfl (congrArg Value.bool hc1373)) rfl rfl ?_
      refine WL_pass rfl (yield_of rfl (congrArg Value.bool hc1373)) rfl rfl ?_
      refine WL_step rfl rfl (Exec.pick_t (v := Value.bool (true)) rfl (congrArg Value.bool hc1373) rfl ?_)
      refine WL_step rfl rfl (Exec.move (v := Value.bool (true)) rfl rfl ?_)
      refine WL_pass rfl (yield_of rfl rfl) rfl rfl ?_
      refine WL_pass rfl (yield_of rfl rfl) rfl rfl ?_
      refine WL_pass rfl (yield_of rfl rfl) rfl rfl ?_
      refine WL_step rfl rfl (Exec.pick_t (v := Value.bool (true)) rfl rfl rfl ?_)
      refine WL_step rfl rfl (Exec.move (v := Value.bool (true)) rfl rfl ?_)
      refine WL_pass rfl (yield_of rfl rfl) rfl rfl ?_
      refine WL_pass rfl (yield_of rfl rfl) rfl rfl ?_
      refine WL_pass rfl (yield_of rfl rfl) rfl rfl ?_
      refine WL_pass rfl (yield_of rfl rfl) rfl rfl ?_
      refine WL_pass rfl (yield_of rfl rfl) rfl rfl ?_
      refine WL_step rfl rfl (Exec.pick_t (v := Value.bool (true)) rfl rfl rfl ?_)
      refine WL_step rfl rfl (Exec.move (v := Value.bool (true)) rfl rfl ?_)
      refine WL_pass rfl (yield_of rfl rfl) rfl rfl ?_
      refine WL_pass rfl (yield_of rfl rfl) rfl rfl ?_
      refine WL_pass rfl (yield_of rfl rfl) rfl rfl ?_
      refine WL_pass rfl (yield_of rfl rfl) rfl rfl ?_
      refine WL_pass rfl (yield_of rfl rfl) rfl rfl ?_
      refine WL_pass rfl (yield_of rfl rfl) rfl rfl ?_
      refine WL_step rfl rfl (Exec.pick_t (v := Value.bool (true)) rfl rfl rfl ?_)
      refine WL_step rfl rfl (Exec.move (v := Value.bool (true)) rfl rfl ?_)
      refine WL_pass rfl (yield_of rfl rfl) rfl rfl ?_
      refine WL_pass rfl (yield_of rfl rfl) rfl rfl ?_
      refine WL_pass rfl (yield_of rfl rfl) rfl rfl ?_
      refine WL_pass rfl (yield_of rfl rfl) rfl rfl ?_
      refine WL_step rfl rfl (Exec.pick_t (v := Value.bool (true)) rfl rfl rfl ?_)
      refine WL_step rfl rfl (Exec.move (v := Value.bool (true)) rfl rfl ?_)
      refine WL_pass rfl (yield_of rfl rfl) rfl rfl ?_
      refine WL_pass rfl (yield_of rfl rfl) rfl rfl ?_
      refine WL_pass rfl (yield_of rfl rfl) rfl rfl ?_
      refine WL_pass rfl (yield_of rfl rfl) rfl rfl ?_
      refine WL_step rfl rfl (Exec.pick_t (v := Value.bool (true)) rfl rfl rfl ?_)
      refine WL_nil (at_normal ?_)
      exact ⟨s, (PHeap.le_refl _), hS1365, rfl, (congrArg Value.bool (or_t hc1373)).symm⟩
    · replace hc1373 := not_true hc1373
      refine WL_run rfl (yield_of rfl (congrArg Value.bool hc1373)) rfl (Exec.field F26_0 rfl rfl rfl ?_)
      refine WL_run rfl (yield_of rfl (congrArg Value.bool hc1373)) rfl (Exec.load_box (hS1365) A3 rfl rfl rfl ?_)
      refine WL_run rfl (yield_of rfl (congrArg Value.bool hc1373)) rfl (Exec.gtr rfl rfl rfl ?_)
      refine WL_step rfl rfl (Exec.pick_f (v := Value.bool (decide (4096 < x171.States))) rfl (congrArg Value.bool hc1373) rfl ?_)
      refine WL_step rfl rfl (Exec.move (v := Value.bool (decide (4096 < x171.States))) rfl rfl ?_)
      by_cases hc1374 : (decide (4096 < x171.States)) = true
      · refine WL_pass rfl (yield_of rfl (congrArg Value.bool hc1374)) rfl rfl ?_
        refine WL_pass rfl (yield_of rfl (congrArg Value.bool hc1374)) rfl rfl ?_
        refine WL_pass rfl (yield_of rfl (congrArg Value.bool hc1374)) rfl rfl ?_
        refine WL_step rfl rfl (Exec.pick_t (v := Value.bool (true)) rfl (congrArg Value.bool hc1374) rfl ?_)
        refine WL_step rfl rfl (Exec.move (v := Value.bool (true)) rfl rfl ?_)
        refine WL_pass rfl (yield_of rfl rfl) rfl rfl ?_
        refine WL_pass rfl (yield_of rfl rfl) rfl rfl ?_
        refine WL_pass rfl (yield_of rfl rfl) rfl rfl ?_
        refine WL_pass rfl (yield_of rfl rfl) rfl rfl ?_
        refine WL_pass rfl (yield_of rfl rfl) rfl rfl ?_
        refine WL_step rfl rfl (Exec.pick_t (v := Value.bool (true)) rfl rfl rfl ?_)
        refine WL_step rfl rfl (Exec.move (v := Value.bool (true)) rfl rfl ?_)
        refine WL_pass rfl (yield_of rfl rfl) rfl rfl ?_
        refine WL_pass rfl (yield_of rfl rfl) rfl rfl ?_
        refine WL_pass rfl (yield_of rfl rfl) rfl rfl ?_
        refine WL_pass rfl (yield_of rfl rfl) rfl rfl ?_
        refine WL_pass rfl (yield_of rfl rfl) rfl rfl ?_
        refine WL_pass rfl (yield_of rfl rfl) rfl rfl ?_
        refine WL_step rfl rfl (Exec.pick_t (v := Value.bool (true)) rfl rfl rfl ?_)
        refine WL_step rfl rfl (Exec.move (v := Value.bool (true)) rfl rfl ?_)
        refine WL_pass rfl (yield_of rfl rfl) rfl rfl ?_
        refine WL_pass rfl (yield_of rfl rfl) rfl rfl ?_
        refine WL_pass rfl (yield_of rfl rfl) rfl rfl ?_
        refine WL_pass rfl (yield_of rfl rfl) rfl rfl ?_
        refine WL_step rfl rfl (Exec.pick_t (v := Value.bool (true)) rfl rfl rfl ?_)
        refine WL_step rfl rfl (Exec.move (v := Value.bool (true)) rfl rfl ?_)
        refine WL_pass rfl (yield_of rfl rfl) rfl rfl ?_
        refine WL_pass rfl (yield_of rfl rfl) rfl rfl ?_
        refine WL_pass rfl (yield_of rfl rfl) rfl rfl ?_
        refine WL_pass rfl (yield_of rfl rfl) rfl rfl ?_
        refine WL_step rfl rfl (Exec.pick_t (v := Value.bool (true)) rfl rfl rfl ?_)
        refine WL_nil (at_normal ?_)
        exact ⟨s, (PHeap.le_refl _), hS1365, rfl, (congrArg Value.bool (Eq.trans (or_f hc1373) (or_t hc1374))).symm⟩
      · replace hc1374 := not_true hc1374
        refine WL_run rfl (yield_of rfl (congrArg Value.bool hc1374)) rfl (Exec.field F26_1 rfl rfl rfl ?_)
        refine WL_run rfl (yield_of rfl (congrArg Value.bool hc1374)) rfl (Exec.load_box (hS1365) A3 rfl rfl rfl ?_)
        refine WL_run rfl (yield_of rfl (congrArg Value.bool hc1374)) rfl (Exec.lss rfl rfl rfl ?_)
        refine WL_step rfl rfl (Exec.pick_f (v := Value.bool (decide (x171.Init < 0))) rfl (congrArg Value.bool hc1374) rfl ?_)
        refine WL_step rfl rfl (Exec.move (v := Value.bool (decide (x171.Init < 0))) rfl rfl ?_)
        by_cases hc1375 : (decide (x171.Init < 0)) = true
        · refine WL_pass rfl (yield_of rfl (congrArg Value.bool hc1375)) rfl rfl ?_
          refine WL_pass rfl (yield_of rfl (congrArg Value.bool hc1375)) rfl rfl ?_
          refine WL_pass rfl (yield_of rfl (congrArg Value.bool hc1375)) rfl rfl ?_
          refine WL_pass rfl (yield_of rfl (congrArg Value.bool hc1375)) rfl rfl ?_
          refine WL_pass rfl (yield_of rfl (congrArg Value.bool hc1375)) rfl rfl ?_
          refine WL_step rfl rfl (Exec.pick_t (v := Value.bool (true)) rfl (congrArg Value.bool hc1375) rfl ?_)
          refine WL_step rfl rfl (Exec.move (v := Value.bool (true)) rfl rfl ?_)
          refine WL_pass rfl (yield_of rfl rfl) rfl rfl ?_
          refine WL_pass rfl (yield_of rfl rfl) rfl rfl ?_
          refine WL_pass rfl (yield_of rfl rfl) rfl rfl ?_
          refine WL_pass rfl (yield_of rfl rfl) rfl rfl ?_
          refine WL_pass rfl (yield_of rfl rfl) rfl rfl ?_
          refine WL_pass rfl (yield_of rfl rfl) rfl rfl ?_
          refine WL_step rfl rfl (Exec.pick_t (v := Value.bool (true)) rfl rfl rfl ?_)
          refine WL_step rfl rfl (Exec.move (v := Value.bool (true)) rfl rfl ?_)
          refine WL_pass rfl (yield_of rfl rfl) rfl rfl ?_
          refine WL_pass rfl (yield_of rfl rfl) rfl rfl ?_
          refine WL_pass rfl (yield_of rfl rfl) rfl rfl ?_
          refine WL_pass rfl (yield_of rfl rfl) rfl rfl ?_
          refine WL_step rfl rfl (Exec.pick_t (v := Value.bool (true)) rfl rfl rfl ?_)
          refine WL_step rfl rfl (Exec.move (v := Value.bool (true)) rfl rfl ?_)
          refine WL_pass rfl (yield_of rfl rfl) rfl rfl ?_
          refine WL_pass rfl (yield_of rfl rfl) rfl rfl ?_
          refine WL_pass rfl (yield_of rfl rfl) rfl rfl ?_
          refine WL_pass rfl (yield_of rfl rfl) rfl rfl ?_
          refine WL_step rfl rfl (Exec.pick_t (v := Value.bool (true)) rfl rfl rfl ?_)
          refine WL_nil (at_normal ?_)
          exact ⟨s, (PHeap.le_refl _), hS1365, rfl, (congrArg Value.bool (Eq.trans (or_f hc1373) (Eq.trans (or_f hc1374) (or_t hc1375)))).symm⟩
        · replace hc1375 := not_true hc1375
          refine WL_run rfl (yield_of rfl (congrArg Value.bool hc1375)) rfl (Exec.field F26_1 rfl rfl rfl ?_)
          refine WL_run rfl (yield_of rfl (congrArg Value.bool hc1375)) rfl (Exec.load_box (hS1365) A3 rfl rfl rfl ?_)
          refine WL_run rfl (yield_of rfl (congrArg Value.bool hc1375)) rfl (Exec.field F26_0 rfl rfl rfl ?_)
          refine WL_run rfl (yield_of rfl (congrArg Value.bool hc1375)) rfl (Exec.load_box (hS1365) A3 rfl rfl rfl ?_)
          refine WL_run rfl (yield_of rfl (congrArg Value.bool hc1375)) rfl (Exec.geq rfl rfl rfl ?_)
          refine WL_step rfl rfl (Exec.pick_f (v := Value.bool (decide (x171.States ≤ x171.Init))) rfl (congrArg Value.bool hc1375) rfl ?_)
          refine WL_step rfl rfl (Exec.move (v := Value.bool (decide (x171.States ≤ x171.Init))) rfl rfl ?_)
          by_cases hc1376 : (decide (x171.States ≤ x171.Init)) = true
          · refine WL_pass rfl (yield_of rfl (congrArg Value.bool hc1376)) rfl rfl ?_
            refine WL_pass rfl (yield_of rfl (congrArg Value.bool hc1376)) rfl rfl ?_
            refine WL_pass rfl (yield_of rfl (congrArg Value.bool hc1376)) rfl rfl ?_
            refine WL_pass rfl (yield_of rfl (congrArg Value.bool hc1376)) rfl rfl ?_
            refine WL_pass rfl (yield_of rfl (congrArg Value.bool hc1376)) rfl rfl ?_
            refine WL_pass rfl (yield_of rfl (congrArg Value.bool hc1376)) rfl rfl ?_
            refine WL_step rfl rfl (Exec.pick_t (v := Value.bool (true)) rfl (congrArg Value.bool hc1376) rfl ?_)
            refine WL_step rfl rfl (Exec.move (v := Value.bool (true)) rfl rfl ?_)
            refine WL_pass rfl (yield_of rfl rfl) rfl rfl ?_
            refine WL_pass rfl (yield_of rfl rfl) rfl rfl ?_
            refine WL_pass rfl (yield_of rfl rfl) rfl rfl ?_
            refine WL_pass rfl (yield_of rfl rfl) rfl rfl ?_
            refine WL_step rfl rfl (Exec.pick_t (v := Value.bool (true)) rfl rfl rfl ?_)
            refine WL_step rfl rfl (Exec.move (v := Value.bool (true)) rfl rfl ?_)
            refine WL_pass rfl (yield_of rfl rfl) rfl rfl ?_
            refine WL_pass rfl (yield_of rfl rfl) rfl rfl ?_
            refine WL_pass rfl (yield_of rfl rfl) rfl rfl ?_
            refine WL_pass rfl (yield_of rfl rfl) rfl rfl ?_
            refine WL_step rfl rfl (Exec.pick_t (v := Value.bool (true)) rfl rfl rfl ?_)
            refine WL_nil (at_normal ?_)
            exact ⟨s, (PHeap.le_refl _), hS1365, rfl, (congrArg Value.bool (Eq.trans (or_f hc1373) (Eq.trans (or_f hc1374) (Eq.trans (or_f hc1375) (or_t hc1376))))).symm⟩
          · replace hc1376 := not_true hc1376
            refine WL_run rfl (yield_of rfl (congrArg Value.bool hc1376)) rfl (Exec.field F26_4 rfl rfl rfl ?_)
            refine WL_run rfl (yield_of rfl (congrArg Value.bool hc1376)) rfl (Exec.load_box (hS1365) A24 rfl rfl rfl ?_)
            refine WL_run rfl (yield_of rfl (congrArg Value.bool hc1376)) rfl (Exec.len_rep S24 rfl rfl a177 ?_)
            refine WL_run rfl (yield_of rfl (congrArg Value.bool hc1376)) rfl (Exec.field F26_0 rfl rfl rfl ?_)
            refine WL_run rfl (yield_of rfl (congrArg Value.bool hc1376)) rfl (Exec.load_box (hS1365) A3 rfl rfl rfl ?_)
            refine WL_run rfl (yield_of rfl (congrArg Value.bool hc1376)) rfl (Exec.neq rfl rfl rfl ?_)
            refine WL_step rfl rfl (Exec.pick_f (v := Value.bool (!decide ((x171.Goals.length : Int) = x171.States))) rfl (congrArg Value.bool hc1376) rfl ?_)
            refine WL_step rfl rfl (Exec.move (v := Value.bool (!decide ((x171.Goals.length : Int) = x171.States))) rfl rfl ?_)
            by_cases hc1377 : (!decide ((x171.Goals.length : Int) = x171.States)) = true
            · refine WL_pass rfl (yield_of rfl (congrArg Value.bool hc1377)) rfl rfl ?_
              refine WL_pass rfl (yield_of rfl (congrArg Value.bool hc1377)) rfl rfl ?_
              refine WL_pass rfl (yield_of rfl (congrArg Value.bool hc1377)) rfl rfl ?_
              refine WL_pass rfl (yield_of rfl (congrArg Value.bool hc1377)) rfl rfl ?_
              refine WL_step rfl rfl (Exec.pick_t (v := Value.bool (true)) rfl (congrArg Value.bool hc1377) rfl ?_)
              refine WL_step rfl rfl (Exec.move (v := Value.bool (true)) rfl rfl ?_)
              refine WL_pass rfl (yield_of rfl rfl) rfl rfl ?_
              refine WL_pass rfl (yield_of rfl rfl) rfl rfl ?_
              refine WL_pass rfl (yield_of rfl rfl) rfl rfl ?_
              refine WL_pass rfl (yield_of rfl rfl) rfl rfl ?_
              refine WL_step rfl rfl (Exec.pick_t (v := Value.bool (true)) rfl rfl rfl ?_)
              refine WL_nil (at_normal ?_)
              exact ⟨s, (PHeap.le_refl _), hS1365, rfl, (congrArg Value.bool (Eq.trans (or_f hc1373) (Eq.trans (or_f hc1374) (Eq.trans (or_f hc1375) (Eq.trans (or_f hc1376) (or_t hc1377)))))).symm⟩
            · replace hc1377 := not_true hc1377
              refine WL_run rfl (yield_of rfl (congrArg Value.bool hc1377)) rfl (Exec.field F26_2 rfl rfl rfl ?_)
              refine WL_run rfl (yield_of rfl (congrArg Value.bool hc1377)) rfl (Exec.load_box (hS1365) A22 rfl rfl rfl ?_)
              refine WL_run rfl (yield_of rfl (congrArg Value.bool hc1377)) rfl (Exec.len_rep S22 rfl rfl a173 ?_)
              refine WL_run rfl (yield_of rfl (congrArg Value.bool hc1377)) rfl (Exec.gtr rfl rfl rfl ?_)
              refine WL_step rfl rfl (Exec.pick_f (v := Value.bool (decide (4096 < (x171.Costs.length : Int)))) rfl (congrArg Value.bool hc1377) rfl ?_)
              refine WL_step rfl rfl (Exec.move (v := Value.bool (decide (4096 < (x171.Costs.length : Int)))) rfl rfl ?_)
              by_cases hc1378 : (decide (4096 < (x171.Costs.length : Int))) = true
              · refine WL_pass rfl (yield_of rfl (congrArg Value.bool hc1378)) rfl rfl ?_
                refine WL_pass rfl (yield_of rfl (congrArg Value.bool hc1378)) rfl rfl ?_
                refine WL_pass rfl (yield_of rfl (congrArg Value.bool hc1378)) rfl rfl ?_
                refine WL_pass rfl (yield_of rfl (congrArg Value.bool hc1378)) rfl rfl ?_
                refine WL_step rfl rfl (Exec.pick_t (v := Value.bool (true)) rfl (congrArg Value.bool hc1378) rfl ?_)
                refine WL_nil (at_normal ?_)
                exact ⟨s, (PHeap.le_refl _), hS1365, rfl, (congrArg Value.bool (Eq.trans (or_f hc1373) (Eq.trans (or_f hc1374) (Eq.trans (or_f hc1375) (Eq.trans (or_f hc1376) (Eq.trans (or_f hc1377) (or_t hc1378))))))).symm⟩
              · replace hc1378 := not_true hc1378
                refine WL_run rfl (yield_of rfl (congrArg Value.bool hc1378)) rfl (Exec.field F26_3 rfl rfl rfl ?_)
                refine WL_run rfl (yield_of rfl (congrArg Value.bool hc1378)) rfl (Exec.load_box (hS1365) A23 rfl rfl rfl ?_)
                refine WL_run rfl (yield_of rfl (congrArg Value.bool hc1378)) rfl (Exec.len_rep S23 rfl rfl a175 ?_)
                refine WL_run rfl (yield_of rfl (congrArg Value.bool hc1378)) rfl (Exec.gtr rfl rfl rfl ?_)
                refine WL_step rfl rfl (Exec.pick_f (v := Value.bool (decide (65536 < (x171.Edges.length : Int)))) rfl (congrArg Value.bool hc1378) rfl ?_)
                refine WL_nil (at_normal ?_)
                exact ⟨s, (PHeap.le_refl _), hS1365, rfl, (congrArg Value.bool (Eq.trans (or_f hc1373) (Eq.trans (or_f hc1374) (Eq.trans (or_f hc1375) (Eq.trans (or_f hc1376) (Eq.trans (or_f hc1377) (or_f hc1378))))))).symm⟩
  · intro f1379 w1380 hM1381
    obtain ⟨s1382, l1383, hS1384, p1385, p1386⟩ := hM1381
    refine (at_normal ?_)
    rcases ite_some hm with ⟨hc1387, hm⟩ | ⟨hc1387, hm⟩
    · refine W_cond_t p1386 hc1387 ?_
      refine W_seq ?_
      refine W_region ?_
      refine WL_step rfl rfl (Exec.assign (v := Value.bool (false)) rfl rfl ?_)
      refine WL_nil (at_normal ?_)
      refine W_ret (at_ret ?_)
      have e1389 := Option.some.inj hm
      subst r
      refine ⟨_, ret1 rfl, ?_⟩
      have hS1390 := (hS1384).drop
      exact ⟨s1382, l1383, hS1390, rfl⟩
    · refine W_cond_f p1386 hc1387 ?_
      replace hc1387 := not_true hc1387
      refine W_skip (at_normal ?_)
      refine W_seq ?_
      refine W_seq ?_
      refine W_region ?_
      refine WL_step rfl rfl (Exec.field F26_2 rfl p1385 rfl ?_)
      refine WL_step rfl rfl (Exec.load_box (hS1384) A22 rfl rfl rfl ?_)
      refine WL_step rfl rfl (Exec.len_rep S22 rfl rfl (a173.mono l1383) ?_)
      refine WL_step rfl rfl (Exec.move (v := Value.int .i64 (0)) rfl rfl ?_)
      refine WL_nil (at_normal ?_)
      obtain ⟨c1452, hB1453, hr1454, hn1455, hb1456⟩ := ctl_some hm
      refine W_mid (M := fun f' w' => ∃ s', (c1452 = .next s' ∨ c1452 = .brk s') ∧ (fun (_ : Unit) => ∃ (s1458 : PHeap) , PHeap.le s1382 s1458 ∧ St w0 s1458 (Res.box b1363 26 [Value.int .i64 (x171.States), Value.int .i64 (x171.Init), v172, v174, v176] :: H) w' ∧ f' 1 = Value.pointer (some ⟨b1363, 0, none⟩) ∧ f' 48 = v172 ∧ f' 49 = Value.int .i64 ((x171.Costs.length : Int))) s') ?_ ?_
      · refine W_block (W_forC (fun k' s' f' w' => (fun (_ : Unit) => ∃ (s1457 : PHeap) , PHeap.le s1382 s1457 ∧ St w0 s1457 (Res.box b1363 26 [Value.int .i64 (x171.States), Value.int .i64 (x171.Init), v172, v174, v176] :: H) w' ∧ f' 1 = Value.pointer (some ⟨b1363, 0, none⟩) ∧ f' 48 = v172 ∧ f' 49 = Value.int .i64 ((x171.Costs.length : Int)) ∧ f' 50 = Value.int .i64 (k' : Int)) s') hB1453 ?_ ?_ ?_)
        · exact ⟨s1382, (PHeap.le_refl _), hS1384, p1385, rfl, rfl, rfl⟩
        · intro i1391 t1466 c1460 f1461 w1462 hi1467 hI1463 hm1464 hres1465
          obtain ⟨s1468, l1469, hS1470, p1471, p1472, p1473, x1474⟩ := hI1463
          refine W_seq ?_
          refine W_region ?_
          refine WL_step rfl rfl (Exec.lss rfl x1474 p1473 ?_)
          refine WL_nil (at_normal ?_)
          refine W_seq ?_
          refine W_true (congrArg Value.bool (decide_eq_true (by omega))) ?_
          refine W_skip (at_normal ?_)
          refine W_seq ?_
          refine W_block ?_
          refine W_seq ?_
          refine W_region ?_
          obtain ⟨x1482, q1483, hm1464⟩ := bind_some hm1464
          refine WL_step rfl rfl (Exec.index_rep S22 rfl p1472 x1474 (a173.mono (PHeap.le.trans l1383 l1469)) q1483 ?_)
          intro b1484 o1485 a1486
          refine WL_step rfl rfl (Exec.load_at (E := (encInt .i64)) hS1470 A3 rfl rfl rfl a1486 ?_)
          intro v1487 q1488
          obtain rfl := encInt_val.1 q1488
          refine WL_step rfl rfl (Exec.assign (v := Value.int .i64 (x1482)) rfl rfl ?_)
          refine WL_nil (at_normal ?_)
          refine W_seq ?_
          refine W_mid (M := fun f' w' => ∃ (s1490 : PHeap) , PHeap.le s1468 s1490 ∧ St w0 s1490 (Res.box b1363 26 [Value.int .i64 (x171.States), Value.int .i64 (x171.Init), v172, v174, v176] :: H) w' ∧ f' 1 = Value.pointer (some ⟨b1363, 0, none⟩) ∧ f' 48 = v172 ∧ f' 49 = Value.int .i64 ((x171.Costs.length : Int)) ∧ f' 50 = Value.int .i64 ((i1391 : Int)) ∧ f' 59 = Value.bool (((decide (x1482 < 0)) || decide (1048576 < x1482)))) ?_ ?_
          · refine W_region ?_
            refine WL_step rfl rfl (Exec.move (v := Value.int .i64 (x1482)) rfl rfl ?_)
            refine WL_step rfl rfl (Exec.lss rfl rfl rfl ?_)
            refine WL_step rfl rfl (Exec.move (v := Value.bool (decide (x1482 < 0))) rfl rfl ?_)
            by_cases hc1491 : (decide (x1482 < 0)) = true
            · refine WL_pass rfl (yield_of rfl (congrArg Value.bool hc1491)) rfl rfl ?_
              refine WL_pass rfl (yield_of rfl (congrArg Value.bool hc1491)) rfl rfl ?_
              refine WL_step rfl rfl (Exec.pick_t (v := Value.bool (true)) rfl (congrArg Value.bool hc1491) rfl ?_)
              refine WL_nil (at_normal ?_)
              exact ⟨s1468, (PHeap.le_refl _), hS1470, p1471, p1472, p1473, x1474, (congrArg Value.bool (or_t hc1491)).symm⟩
            · replace hc1491 := not_true hc1491
              refine WL_run rfl (yield_of rfl (congrArg Value.bool hc1491)) rfl (Exec.move (v := Value.int .i64 (x1482)) rfl rfl ?_)
              refine WL_run rfl (yield_of rfl (congrArg Value.bool hc1491)) rfl (Exec.gtr rfl rfl rfl ?_)
              refine WL_step rfl rfl (Exec.pick_f (v := Value.bool (decide (1048576 < x1482))) rfl (congrArg Value.bool hc1491) rfl ?_)
              refine WL_nil (at_normal ?_)
              exact ⟨s1468, (PHeap.le_refl _), hS1470, p1471, p1472, p1473, x1474, (congrArg Value.bool (or_f hc1491)).symm⟩
          · intro f1492 w1493 hM1494
            obtain ⟨s1495, l1496, hS1497, p1498, p1499, p1500, p1501, p1502⟩ := hM1494
            refine (at_normal ?_)
            rcases ite_some hm1464 with ⟨hc1503, hm1464⟩ | ⟨hc1503, hm1464⟩
            · refine W_cond_t p1502 hc1503 ?_
              refine W_seq ?_
              refine W_region ?_
              refine WL_step rfl rfl (Exec.assign (v := Value.bool (false)) rfl rfl ?_)
              refine WL_nil (at_normal ?_)
              refine W_ret (ib_ret (at_ret (at_ret (ib_ret (at_ret (at_ret ?_))))))
              have e1504 := Option.some.inj hm1464
              subst c1460
              have hq1505 := hr1454 _ (hres1465 (by intro _ h; cases h))
              have e1506 := Option.some.inj hq1505
              subst r
              refine ⟨_, ret1 rfl, ?_⟩
              have hS1507 := (hS1497).drop
              exact ⟨s1495, (PHeap.le.trans (PHeap.le.trans l1383 l1469) l1496), hS1507, rfl⟩
            · refine W_cond_f p1502 hc1503 ?_
              replace hc1503 := not_true hc1503
              refine W_skip (ib_normal (at_normal ?_))
              refine W_region ?_
              refine WL_step rfl rfl (Exec.add rfl p1501 rfl ?_)
              refine WL_step rfl rfl (Exec.move (v := Value.int .i64 (IntKind.i64.wrap ((i1391 : Int) + 1))) rfl rfl ?_)
              refine WL_nil (at_normal ?_)
              have e1508 := Option.some.inj hm1464
              subst c1460
              refine ⟨_, rfl, ?_⟩; exact ⟨s1495, (PHeap.le.trans l1469 l1496), hS1497, p1498, p1499, p1500, (Eq.trans rfl (wrap_up hi1467 (SliceRep.le (a173.mono l1383))))⟩
        · intro t1509 f1510 w1511 hI1512 hres1513
          obtain ⟨s1514, l1515, hS1516, p1517, p1518, p1519, x1520⟩ := hI1512
          refine W_seq ?_
          refine W_region ?_
          refine WL_step rfl rfl (Exec.lss rfl x1520 p1519 ?_)
          refine WL_nil (at_normal ?_)
          refine W_seq ?_
          refine W_false (congrArg Value.bool (decide_eq_false (by omega))) ?_
          refine W_exit (at_exit (at_exit (ib_here (at_normal ?_))))
          refine ⟨_, .inl hres1513, ?_⟩; exact ⟨s1514, l1515, hS1516, p1517, p1518, p1519⟩
      · rintro f1521 w1522 ⟨t1523, hc1524, hM1525⟩
        have hm := hc1524.elim (hn1455 _) (hb1456 _)
        clear hc1524
        obtain ⟨s1526, l1527, hS1528, p1529, p1530, p1531⟩ := hM1525
        refine (at_normal ?_)
        refine W_seq ?_
        refine W_seq ?_
        refine W_region ?_
        refine WL_step rfl rfl (Exec.field F26_3 rfl p1529 rfl ?_)
        refine WL_step rfl rfl (Exec.load_box (hS1528) A23 rfl rfl rfl ?_)
        refine WL_step rfl rfl (Exec.len_rep S23 rfl rfl (a175.mono (PHeap.le.trans l1383 l1527)) ?_)
        refine WL_step rfl rfl (Exec.move (v := Value.int .i64 (0)) rfl rfl ?_)
        refine WL_nil (at_normal ?_)
        obtain ⟨c1829, hB1830, hr1831, hn1832, hb1833⟩ := ctl_some hm
        refine W_mid (M := fun f' w' => ∃ s', (c1829 = .next s' ∨ c1829 = .brk s') ∧ (fun (_ : Unit) => ∃ (s1835 : PHeap) , PHeap.le s1526 s1835 ∧ St w0 s1835 (Res.box b1363 26 [Value.int .i64 (x171.States), Value.int .i64 (x171.Init), v172, v174, v176] :: H) w' ∧ f' 1 = Value.pointer (some ⟨b1363, 0, none⟩) ∧ f' 62 = v174 ∧ f' 63 = Value.int .i64 ((x171.Edges.length : Int))) s') ?_ ?_
        · refine W_block (W_forC (fun k' s' f' w' => (fun (_ : Unit) => ∃ (s1834 : PHeap) , PHeap.le s1526 s1834 ∧ St w0 s1834 (Res.box b1363 26 [Value.int .i64 (x171.States), Value.int .i64 (x171.Init), v172, v174, v176] :: H) w' ∧ f' 1 = Value.pointer (some ⟨b1363, 0, none⟩) ∧ f' 62 = v174 ∧ f' 63 = Value.int .i64 ((x171.Edges.length : Int)) ∧ f' 64 = Value.int .i64 (k' : Int)) s') hB1830 ?_ ?_ ?_)
          · exact ⟨s1526, (PHeap.le_refl _), hS1528, p1529, rfl, rfl, rfl⟩
          · intro i1532 t1843 c1837 f1838 w1839 hi1844 hI1840 hm1841 hres1842
            obtain ⟨s1845, l1846, hS1847, p1848, p1849, p1850, x1851⟩ := hI1840
            refine W_seq ?_
            refine W_region ?_
            refine WL_step rfl rfl (Exec.lss rfl x1851 p1850 ?_)
            refine WL_nil (at_normal ?_)
            refine W_seq ?_
            refine W_true (congrArg Value.bool (decide_eq_true (by omega))) ?_
            refine W_skip (at_normal ?_)
            refine W_seq ?_
            refine W_block ?_
            refine W_seq ?_
            refine W_region ?_
            refine WL_step rfl rfl (Exec.move (v := Value.int .i64 ((i1532 : Int))) rfl x1851 ?_)
            obtain ⟨x1864, q1865, hm1841⟩ := bind_some hm1841
            refine WL_step rfl rfl (Exec.index_rep S23 rfl p1849 x1851 (a175.mono (PHeap.le.trans (PHeap.le.trans l1383 l1527) l1846)) q1865 ?_)
            intro b1866 o1867 a1868
            refine WL_step rfl rfl (Exec.load_at (E := encEdge) hS1847 A66 rfl rfl rfl a1868 ?_)
            intro v1869 q1870
            obtain rfl := encEdge_val.1 q1870
            refine WL_step rfl rfl (Exec.alloc (cs := [Value.int .i64 (0), Value.int .i64 (0), Value.int .i64 (0)]) hS1847 Z66 rfl rfl ?_)
            intro b1871 w1872 hS1873
            refine WL_step rfl rfl (Exec.assign (v := Value.int .i64 ((i1532 : Int))) rfl rfl ?_)
            refine WL_step rfl rfl (Exec.store_box (ds := [Value.int .i64 (x1864.From), Value.int .i64 (x1864.Label), Value.int .i64 (x1864.To)]) (es := [Value.int .i64 (x1864.From), Value.int .i64 (x1864.Label), Value.int .i64 (x1864.To)]) hS1873 A66 rfl rfl rfl rfl (one_cons rfl (one_cons rfl (one_cons rfl one_nil))) (Nat.le_of_ble_eq_true rfl) rfl ?_)
            intro w1874 hS1875
            refine WL_nil (at_normal ?_)
            refine W_seq ?_
            obtain ⟨z1922, ht1923, hm1841⟩ := bind_some hm1841
            refine W_mid (M := fun f' w' => (fun (z1922 : Bool) => ∃ (s1924 : PHeap) , PHeap.le s1845 s1924 ∧ St w0 s1924 (Res.box b1363 26 [Value.int .i64 (x171.States), Value.int .i64 (x171.Init), v172, v174, v176] :: H) w' ∧ f' 1 = Value.pointer (some ⟨b1363, 0, none⟩) ∧ f' 62 = v174 ∧ f' 63 = Value.int .i64 ((x171.Edges.length : Int)) ∧ f' 64 = Value.int .i64 ((i1532 : Int)) ∧ f' 118 = Value.bool (z1922)) z1922) ?_ ?_
            · refine W_dl (n0 := 50) (.q 0 (.q 1 (.q 2 (.q 3 (.q 4 (.q 5 (.q 6 (.q 7 (.q 8 (.q 9 (.q 10 (.q 11 (.q 12 (.q 13 (.q 14 (.q 15 (.q 16 (.q 17 (.q 18 (.q 19 (.q 20 (.q 21 (.q 22 (.q 23 (.q 24 (.q 25 (.q 26 (.q 27 (.q 28 (.q 29 (.q 30 (.q 31 (.q 32 (.q 33 (.q 34 (.q 35 (.q 36 (.q 37 (.q 38 (.q 39 (.q 40 (.q 41 (.q 42 (.q 43 (.q 44 (.q 45 (.e 46 [] (.q 47 (.q 48 (.q 49 .done)))))))))))))))))))))))))))))))))))))))))))))))))) hmix (by kernel_rfl) (by kernel_rfl) ?_
              have hS1948 := hS1875.drew
              refine DL_q rfl rfl (Exec.field F66_0 rfl rfl rfl ⟨rfl, ?_⟩)
              refine DL_q rfl rfl (Exec.load_box (hS1948) A3 rfl rfl rfl ⟨rfl, ?_⟩)
              refine DL_q rfl rfl (Exec.lss rfl rfl rfl ⟨rfl, ?_⟩)
              refine DL_q rfl rfl (Exec.move (v := Value.bool (decide (x1864.From < 0))) rfl rfl ⟨rfl, ?_⟩)
              rcases ite_some ht1923 with ⟨hc1949, ht1923⟩ | ⟨hc1949, ht1923⟩
              · refine DL_qp rfl rfl (yield_of rfl (congrArg Value.bool hc1949)) rfl ?_
                refine DL_qp rfl rfl (yield_of rfl (congrArg Value.bool hc1949)) rfl ?_
                refine DL_qp rfl rfl (yield_of rfl (congrArg Value.bool hc1949)) rfl ?_
                refine DL_qp rfl rfl (yield_of rfl (congrArg Value.bool hc1949)) rfl ?_
                refine DL_qp rfl rfl (yield_of rfl (congrArg Value.bool hc1949)) rfl ?_
                refine DL_q rfl rfl (Exec.pick_t (v := Value.bool (true)) rfl (congrArg Value.bool hc1949) rfl ⟨rfl, ?_⟩)
                refine DL_q rfl rfl (Exec.move (v := Value.bool (true)) rfl rfl ⟨rfl, ?_⟩)
                refine DL_qp rfl rfl (yield_of rfl rfl) rfl ?_
                refine DL_qp rfl rfl (yield_of rfl rfl) rfl ?_
                refine DL_qp rfl rfl (yield_of rfl rfl) rfl ?_
                refine DL_q rfl rfl (Exec.pick_t (v := Value.bool (true)) rfl rfl rfl ⟨rfl, ?_⟩)
                refine DL_q rfl rfl (Exec.move (v := Value.bool (true)) rfl rfl ⟨rfl, ?_⟩)
                refine DL_qp rfl rfl (yield_of rfl rfl) rfl ?_
                refine DL_qp rfl rfl (yield_of rfl rfl) rfl ?_
                refine DL_qp rfl rfl (yield_of rfl rfl) rfl ?_
                refine DL_qp rfl rfl (yield_of rfl rfl) rfl ?_
                refine DL_qp rfl rfl (yield_of rfl rfl) rfl ?_
                refine DL_q rfl rfl (Exec.pick_t (v := Value.bool (true)) rfl rfl rfl ⟨rfl, ?_⟩)
                refine DL_q rfl rfl (Exec.move (v := Value.bool (true)) rfl rfl ⟨rfl, ?_⟩)
                refine DL_qp rfl rfl (yield_of rfl rfl) rfl ?_
                refine DL_qp rfl rfl (yield_of rfl rfl) rfl ?_
                refine DL_qp rfl rfl (yield_of rfl rfl) rfl ?_
                refine DL_q rfl rfl (Exec.pick_t (v := Value.bool (true)) rfl rfl rfl ⟨rfl, ?_⟩)
                refine DL_q rfl rfl (Exec.move (v := Value.bool (true)) rfl rfl ⟨rfl, ?_⟩)
                refine DL_qp rfl rfl (yield_of rfl rfl) rfl ?_
                refine DL_qp rfl rfl (yield_of rfl rfl) rfl ?_
                refine DL_qp rfl rfl (yield_of rfl rfl) rfl ?_
                refine DL_qp rfl rfl (yield_of rfl rfl) rfl ?_
                refine DL_qp rfl rfl (yield_of rfl rfl) rfl ?_
                refine DL_qp rfl rfl (yield_of rfl rfl) rfl ?_
                refine DL_q rfl rfl (Exec.pick_t (v := Value.bool (true)) rfl rfl rfl ⟨rfl, ?_⟩)
                refine DL_q rfl rfl (Exec.move (v := Value.bool (true)) rfl rfl ⟨rfl, ?_⟩)
                refine DL_qp rfl rfl (yield_of rfl rfl) rfl ?_
                refine DL_qp rfl rfl (yield_of rfl rfl) rfl ?_
                refine DL_qp rfl rfl (yield_of rfl rfl) rfl ?_
                refine DL_qn rfl rfl (yield_undef rfl rfl) ?_
                refine DL_qn rfl rfl (yield_undef rfl rfl) ?_
                refine DL_qn rfl rfl (yield_undef rfl rfl) ?_
                refine DL_qn rfl rfl (yield_undef rfl rfl) ?_
                refine DL_qn rfl rfl (yield_undef rfl rfl) ?_
                refine DL_qn rfl rfl (yield_undef rfl rfl) ?_
                refine DL_qn rfl rfl (yield_undef rfl rfl) ?_
                refine DL_en rfl rfl (yield_undef rfl rfl) ?_
                refine DL_qn rfl rfl (yield_undef rfl rfl) ?_
                refine DL_qp rfl rfl (yield_of rfl rfl) rfl ?_
                refine DL_q rfl rfl (Exec.pick_t (v := Value.bool (true)) rfl rfl rfl ⟨rfl, ?_⟩)
                refine DL_done ?_
                refine WL_nil (at_normal ?_)
                have e1950 := Option.some.inj ht1923
                subst z1922
                have hS1951 := (hS1948).drop
                exact ⟨s1845, (PHeap.le_refl _), hS1951, p1848, p1849, p1850, x1851, rfl⟩
              · replace hc1949 := not_true hc1949
                refine DL_qg rfl rfl (yield_of rfl (congrArg Value.bool hc1949)) (Exec.field F66_0 rfl rfl rfl ⟨rfl, ?_⟩)
                refine DL_qg rfl rfl (yield_of rfl (congrArg Value.bool hc1949)) (Exec.load_box (hS1948) A3 rfl rfl rfl ⟨rfl, ?_⟩)
                refine DL_qg rfl rfl (yield_of rfl (congrArg Value.bool hc1949)) (Exec.field F26_0 rfl p1848 rfl ⟨rfl, ?_⟩)
                refine DL_qg rfl rfl (yield_of rfl (congrArg Value.bool hc1949)) (Exec.load_box ((hS1948).f1) A3 rfl rfl rfl ⟨rfl, ?_⟩)
                refine DL_qg rfl rfl (yield_of rfl (congrArg Value.bool hc1949)) (Exec.geq rfl rfl rfl ⟨rfl, ?_⟩)
                refine DL_q rfl rfl (Exec.pick_f (v := Value.bool (decide (x171.States ≤ x1864.From))) rfl (congrArg Value.bool hc1949) rfl ⟨rfl, ?_⟩)
                refine DL_q rfl rfl (Exec.move (v := Value.bool (decide (x171.States ≤ x1864.From))) rfl rfl ⟨rfl, ?_⟩)
                rcases ite_some ht1923 with ⟨hc1952, ht1923⟩ | ⟨hc1952, ht1923⟩
                · refine DL_qp rfl rfl (yield_of rfl (congrArg Value.bool hc1952)) rfl ?_
                  refine DL_qp rfl rfl (yield_of rfl (congrArg Value.bool hc1952)) rfl ?_
                  refine DL_qp rfl rfl (yield_of rfl (congrArg Value.bool hc1952)) rfl ?_
                  refine DL_q rfl rfl (Exec.pick_t (v := Value.bool (true)) rfl (congrArg Value.bool hc1952) rfl ⟨rfl, ?_⟩)
                  refine DL_q rfl rfl (Exec.move (v := Value.bool (true)) rfl rfl ⟨rfl, ?_⟩)
                  refine DL_qp rfl rfl (yield_of rfl rfl) rfl ?_
                  refine DL_qp rfl rfl (yield_of rfl rfl) rfl ?_
                  refine DL_qp rfl rfl (yield_of rfl rfl) rfl ?_
                  refine DL_qp rfl rfl (yield_of rfl rfl) rfl ?_
                  refine DL_qp rfl rfl (yield_of rfl rfl) rfl ?_
                  refine DL_q rfl rfl (Exec.pick_t (v := Value.bool (true)) rfl rfl rfl ⟨rfl, ?_⟩)
                  refine DL_q rfl rfl (Exec.move (v := Value.bool (true)) rfl rfl ⟨rfl, ?_⟩)
                  refine DL_qp rfl rfl (yield_of rfl rfl) rfl ?_
                  refine DL_qp rfl rfl (yield_of rfl rfl) rfl ?_
                  refine DL_qp rfl rfl (yield_of rfl rfl) rfl ?_
                  refine DL_q rfl rfl (Exec.pick_t (v := Value.bool (true)) rfl rfl rfl ⟨rfl, ?_⟩)
                  refine DL_q rfl rfl (Exec.move (v := Value.bool (true)) rfl rfl ⟨rfl, ?_⟩)
                  refine DL_qp rfl rfl (yield_of rfl rfl) rfl ?_
                  refine DL_qp rfl rfl (yield_of rfl rfl) rfl ?_
                  refine DL_qp rfl rfl (yield_of rfl rfl) rfl ?_
                  refine DL_qp rfl rfl (yield_of rfl rfl) rfl ?_
                  refine DL_qp rfl rfl (yield_of rfl rfl) rfl ?_
                  refine DL_qp rfl rfl (yield_of rfl rfl) rfl ?_
                  refine DL_q rfl rfl (Exec.pick_t (v := Value.bool (true)) rfl rfl rfl ⟨rfl, ?_⟩)
                  refine DL_q rfl rfl (Exec.move (v := Value.bool (true)) rfl rfl ⟨rfl, ?_⟩)
                  refine DL_qp rfl rfl (yield_of rfl rfl) rfl ?_
                  refine DL_qp rfl rfl (yield_of rfl rfl) rfl ?_
                  refine DL_qp rfl rfl (yield_of rfl rfl) rfl ?_
                  refine DL_qn rfl rfl (yield_undef rfl rfl) ?_
                  refine DL_qn rfl rfl (yield_undef rfl rfl) ?_
                  refine DL_qn rfl rfl (yield_undef rfl rfl) ?_
                  refine DL_qn rfl rfl (yield_undef rfl rfl) ?_
                  refine DL_qn rfl rfl (yield_undef rfl rfl) ?_
                  refine DL_qn rfl rfl (yield_undef rfl rfl) ?_
                  refine DL_qn rfl rfl (yield_undef rfl rfl) ?_
                  refine DL_en rfl rfl (yield_undef rfl rfl) ?_
                  refine DL_qn rfl rfl (yield_undef rfl rfl) ?_
                  refine DL_qp rfl rfl (yield_of rfl rfl) rfl ?_
                  refine DL_q rfl rfl (Exec.pick_t (v := Value.bool (true)) rfl rfl rfl ⟨rfl, ?_⟩)
                  refine DL_done ?_
                  refine WL_nil (at_normal ?_)
                  have e1953 := Option.some.inj ht1923
                  subst z1922
                  have hS1954 := (hS1948).drop
                  exact ⟨s1845, (PHeap.le_refl _), hS1954, p1848, p1849, p1850, x1851, rfl⟩
                · replace hc1952 := not_true hc1952
                  refine DL_qg rfl rfl (yield_of rfl (congrArg Value.bool hc1952)) (Exec.field F66_2 rfl rfl rfl ⟨rfl, ?_⟩)
                  refine DL_qg rfl rfl (yield_of rfl (congrArg Value.bool hc1952)) (Exec.load_box (hS1948) A3 rfl rfl rfl ⟨rfl, ?_⟩)
                  refine DL_qg rfl rfl (yield_of rfl (congrArg Value.bool hc1952)) (Exec.lss rfl rfl rfl ⟨rfl, ?_⟩)
                  refine DL_q rfl rfl (Exec.pick_f (v := Value.bool (decide (x1864.To < 0))) rfl (congrArg Value.bool hc1952) rfl ⟨rfl, ?_⟩)
                  refine DL_q rfl rfl (Exec.move (v := Value.bool (decide (x1864.To < 0))) rfl rfl ⟨rfl, ?_⟩)
                  rcases ite_some ht1923 with ⟨hc1955, ht1923⟩ | ⟨hc1955, ht1923⟩
                  · refine DL_qp rfl rfl (yield_of rfl (congrArg Value.bool hc1955)) rfl ?_
                    refine DL_qp rfl rfl (yield_of rfl (congrArg Value.bool hc1955)) rfl ?_
                    refine DL_qp rfl rfl (yield_of rfl (congrArg Value.bool hc1955)) rfl ?_
                    refine DL_qp rfl rfl (yield_of rfl (congrArg Value.bool hc1955)) rfl ?_
                    refine DL_qp rfl rfl (yield_of rfl (congrArg Value.bool hc1955)) rfl ?_
                    refine DL_q rfl rfl (Exec.pick_t (v := Value.bool (true)) rfl (congrArg Value.bool hc1955) rfl ⟨rfl, ?_⟩)
                    refine DL_q rfl rfl (Exec.move (v := Value.bool (true)) rfl rfl ⟨rfl, ?_⟩)
                    refine DL_qp rfl rfl (yield_of rfl rfl) rfl ?_
                    refine DL_qp rfl rfl (yield_of rfl rfl) rfl ?_
                    refine DL_qp rfl rfl (yield_of rfl rfl) rfl ?_
                    refine DL_q rfl rfl (Exec.pick_t (v := Value.bool (true)) rfl rfl rfl ⟨rfl, ?_⟩)
                    refine DL_q rfl rfl (Exec.move (v := Value.bool (true)) rfl rfl ⟨rfl, ?_⟩)
                    refine DL_qp rfl rfl (yield_of rfl rfl) rfl ?_
                    refine DL_qp rfl rfl (yield_of rfl rfl) rfl ?_
                    refine DL_qp rfl rfl (yield_of rfl rfl) rfl ?_
                    refine DL_qp rfl rfl (yield_of rfl rfl) rfl ?_
                    refine DL_qp rfl rfl (yield_of rfl rfl) rfl ?_
                    refine DL_qp rfl rfl (yield_of rfl rfl) rfl ?_
                    refine DL_q rfl rfl (Exec.pick_t (v := Value.bool (true)) rfl rfl rfl ⟨rfl, ?_⟩)
                    refine DL_q rfl rfl (Exec.move (v := Value.bool (true)) rfl rfl ⟨rfl, ?_⟩)
                    refine DL_qp rfl rfl (yield_of rfl rfl) rfl ?_
                    refine DL_qp rfl rfl (yield_of rfl rfl) rfl ?_
                    refine DL_qp rfl rfl (yield_of rfl rfl) rfl ?_
                    refine DL_qn rfl rfl (yield_undef rfl rfl) ?_
                    refine DL_qn rfl rfl (yield_undef rfl rfl) ?_
                    refine DL_qn rfl rfl (yield_undef rfl rfl) ?_
                    refine DL_qn rfl rfl (yield_undef rfl rfl) ?_
                    refine DL_qn rfl rfl (yield_undef rfl rfl) ?_
                    refine DL_qn rfl rfl (yield_undef rfl rfl) ?_
                    refine DL_qn rfl rfl (yield_undef rfl rfl) ?_
                    refine DL_en rfl rfl (yield_undef rfl rfl) ?_
                    refine DL_qn rfl rfl (yield_undef rfl rfl) ?_
                    refine DL_qp rfl rfl (yield_of rfl rfl) rfl ?_
                    refine DL_q rfl rfl (Exec.pick_t (v := Value.bool (true)) rfl rfl rfl ⟨rfl, ?_⟩)
                    refine DL_done ?_
                    refine WL_nil (at_normal ?_)
                    have e1956 := Option.some.inj ht1923
                    subst z1922
                    have hS1957 := (hS1948).drop
                    exact ⟨s1845, (PHeap.le_refl _), hS1957, p1848, p1849, p1850, x1851, rfl⟩
                  · replace hc1955 := not_true hc1955
                    refine DL_qg rfl rfl (yield_of rfl (congrArg Value.bool hc1955)) (Exec.field F66_2 rfl rfl rfl ⟨rfl, ?_⟩)
                    refine DL_qg rfl rfl (yield_of rfl (congrArg Value.bool hc1955)) (Exec.load_box (hS1948) A3 rfl rfl rfl ⟨rfl, ?_⟩)
                    refine DL_qg rfl rfl (yield_of rfl (congrArg Value.bool hc1955)) (Exec.field F26_0 rfl p1848 rfl ⟨rfl, ?_⟩)
                    refine DL_qg rfl rfl (yield_of rfl (congrArg Value.bool hc1955)) (Exec.load_box ((hS1948).f1) A3 rfl rfl rfl ⟨rfl, ?_⟩)
                    refine DL_qg rfl rfl (yield_of rfl (congrArg Value.bool hc1955)) (Exec.geq rfl rfl rfl ⟨rfl, ?_⟩)
                    refine DL_q rfl rfl (Exec.pick_f (v := Value.bool (decide (x171.States ≤ x1864.To))) rfl (congrArg Value.bool hc1955) rfl ⟨rfl, ?_⟩)
                    refine DL_q rfl rfl (Exec.move (v := Value.bool (decide (x171.States ≤ x1864.To))) rfl rfl ⟨rfl, ?_⟩)
                    rcases ite_some ht1923 with ⟨hc1958, ht1923⟩ | ⟨hc1958, ht1923⟩
                    · refine DL_qp rfl rfl (yield_of rfl (congrArg Value.bool hc1958)) rfl ?_
                      refine DL_qp rfl rfl (yield_of rfl (congrArg Value.bool hc1958)) rfl ?_
                      refine DL_qp rfl rfl (yield_of rfl (congrArg Value.bool hc1958)) rfl ?_
                      refine DL_q rfl rfl (Exec.pick_t (v := Value.bool (true)) rfl (congrArg Value.bool hc1958) rfl ⟨rfl, ?_⟩)
                      refine DL_q rfl rfl (Exec.move (v := Value.bool (true)) rfl rfl ⟨rfl, ?_⟩)
                      refine DL_qp rfl rfl (yield_of rfl rfl) rfl ?_
                      refine DL_qp rfl rfl (yield_of rfl rfl) rfl ?_
                      refine DL_qp rfl rfl (yield_of rfl rfl) rfl ?_
                      refine DL_qp rfl rfl (yield_of rfl rfl) rfl ?_
                      refine DL_qp rfl rfl (yield_of rfl rfl) rfl ?_
                      refine DL_qp rfl rfl (yield_of rfl rfl) rfl ?_
                      refine DL_q rfl rfl (Exec.pick_t (v := Value.bool (true)) rfl rfl rfl ⟨rfl, ?_⟩)
                      refine DL_q rfl rfl (Exec.move (v := Value.bool (true)) rfl rfl ⟨rfl, ?_⟩)
                      refine DL_qp rfl rfl (yield_of rfl rfl) rfl ?_
                      refine DL_qp rfl rfl (yield_of rfl rfl) rfl ?_
                      refine DL_qp rfl rfl (yield_of rfl rfl) rfl ?_
                      refine DL_qn rfl rfl (yield_undef rfl rfl) ?_
                      refine DL_qn rfl rfl (yield_undef rfl rfl) ?_
                      refine DL_qn rfl rfl (yield_undef rfl rfl) ?_
                      refine DL_qn rfl rfl (yield_undef rfl rfl) ?_
                      refine DL_qn rfl rfl (yield_undef rfl rfl) ?_
                      refine DL_qn rfl rfl (yield_undef rfl rfl) ?_
                      refine DL_qn rfl rfl (yield_undef rfl rfl) ?_
                      refine DL_en rfl rfl (yield_undef rfl rfl) ?_
                      refine DL_qn rfl rfl (yield_undef rfl rfl) ?_
                      refine DL_qp rfl rfl (yield_of rfl rfl) rfl ?_
                      refine DL_q rfl rfl (Exec.pick_t (v := Value.bool (true)) rfl rfl rfl ⟨rfl, ?_⟩)
                      refine DL_done ?_
                      refine WL_nil (at_normal ?_)
                      have e1959 := Option.some.inj ht1923
                      subst z1922
                      have hS1960 := (hS1948).drop
                      exact ⟨s1845, (PHeap.le_refl _), hS1960, p1848, p1849, p1850, x1851, rfl⟩
                    · replace hc1958 := not_true hc1958
                      refine DL_qg rfl rfl (yield_of rfl (congrArg Value.bool hc1958)) (Exec.field F66_1 rfl rfl rfl ⟨rfl, ?_⟩)
                      refine DL_qg rfl rfl (yield_of rfl (congrArg Value.bool hc1958)) (Exec.load_box (hS1948) A3 rfl rfl rfl ⟨rfl, ?_⟩)
                      refine DL_qg rfl rfl (yield_of rfl (congrArg Value.bool hc1958)) (Exec.lss rfl rfl rfl ⟨rfl, ?_⟩)
                      refine DL_q rfl rfl (Exec.pick_f (v := Value.bool (decide (x1864.Label < 0))) rfl (congrArg Value.bool hc1958) rfl ⟨rfl, ?_⟩)
                      refine DL_q rfl rfl (Exec.move (v := Value.bool (decide (x1864.Label < 0))) rfl rfl ⟨rfl, ?_⟩)
                      rcases ite_some ht1923 with ⟨hc1961, ht1923⟩ | ⟨hc1961, ht1923⟩
                      · refine DL_qp rfl rfl (yield_of rfl (congrArg Value.bool hc1961)) rfl ?_
                        refine DL_qp rfl rfl (yield_of rfl (congrArg Value.bool hc1961)) rfl ?_
                        refine DL_qp rfl rfl (yield_of rfl (congrArg Value.bool hc1961)) rfl ?_
                        refine DL_qp rfl rfl (yield_of rfl (congrArg Value.bool hc1961)) rfl ?_
                        refine DL_qp rfl rfl (yield_of rfl (congrArg Value.bool hc1961)) rfl ?_
                        refine DL_qp rfl rfl (yield_of rfl (congrArg Value.bool hc1961)) rfl ?_
                        refine DL_q rfl rfl (Exec.pick_t (v := Value.bool (true)) rfl (congrArg Value.bool hc1961) rfl ⟨rfl, ?_⟩)
                        refine DL_q rfl rfl (Exec.move (v := Value.bool (true)) rfl rfl ⟨rfl, ?_⟩)
                        refine DL_qp rfl rfl (yield_of rfl rfl) rfl ?_
                        refine DL_qp rfl rfl (yield_of rfl rfl) rfl ?_
                        refine DL_qp rfl rfl (yield_of rfl rfl) rfl ?_
                        refine DL_qn rfl rfl (yield_undef rfl rfl) ?_
                        refine DL_qn rfl rfl (yield_undef rfl rfl) ?_
                        refine DL_qn rfl rfl (yield_undef rfl rfl) ?_
                        refine DL_qn rfl rfl (yield_undef rfl rfl) ?_
                        refine DL_qn rfl rfl (yield_undef rfl rfl) ?_
                        refine DL_qn rfl rfl (yield_undef rfl rfl) ?_
                        refine DL_qn rfl rfl (yield_undef rfl rfl) ?_
                        refine DL_en rfl rfl (yield_undef rfl rfl) ?_
                        refine DL_qn rfl rfl (yield_undef rfl rfl) ?_
                        refine DL_qp rfl rfl (yield_of rfl rfl) rfl ?_
                        refine DL_q rfl rfl (Exec.pick_t (v := Value.bool (true)) rfl rfl rfl ⟨rfl, ?_⟩)
                        refine DL_done ?_
                        refine WL_nil (at_normal ?_)
                        have e1962 := Option.some.inj ht1923
                        subst z1922
                        have hS1963 := (hS1948).drop
                        exact ⟨s1845, (PHeap.le_refl _), hS1963, p1848, p1849, p1850, x1851, rfl⟩
                      · replace hc1961 := not_true hc1961
                        refine DL_qg rfl rfl (yield_of rfl (congrArg Value.bool hc1961)) (Exec.field F66_1 rfl rfl rfl ⟨rfl, ?_⟩)
                        refine DL_qg rfl rfl (yield_of rfl (congrArg Value.bool hc1961)) (Exec.load_box (hS1948) A3 rfl rfl rfl ⟨rfl, ?_⟩)
                        refine DL_qg rfl rfl (yield_of rfl (congrArg Value.bool hc1961)) (Exec.field F26_2 rfl p1848 rfl ⟨rfl, ?_⟩)
                        refine DL_qg rfl rfl (yield_of rfl (congrArg Value.bool hc1961)) (Exec.load_box ((hS1948).f1) A22 rfl rfl rfl ⟨rfl, ?_⟩)
                        refine DL_qg rfl rfl (yield_of rfl (congrArg Value.bool hc1961)) (Exec.len_rep S22 rfl rfl (a173.mono (PHeap.le.trans (PHeap.le.trans l1383 l1527) l1846)) ⟨rfl, ?_⟩)
                        refine DL_qg rfl rfl (yield_of rfl (congrArg Value.bool hc1961)) (Exec.geq rfl rfl rfl ⟨rfl, ?_⟩)
                        refine DL_q rfl rfl (Exec.pick_f (v := Value.bool (decide ((x171.Costs.length : Int) ≤ x1864.Label))) rfl (congrArg Value.bool hc1961) rfl ⟨rfl, ?_⟩)
                        refine DL_q rfl rfl (Exec.move (v := Value.bool (decide ((x171.Costs.length : Int) ≤ x1864.Label))) rfl rfl ⟨rfl, ?_⟩)
                        rcases ite_some ht1923 with ⟨hc1964, ht1923⟩ | ⟨hc1964, ht1923⟩
                        · refine DL_qp rfl rfl (yield_of rfl (congrArg Value.bool hc1964)) rfl ?_
                          refine DL_qp rfl rfl (yield_of rfl (congrArg Value.bool hc1964)) rfl ?_
                          refine DL_qp rfl rfl (yield_of rfl (congrArg Value.bool hc1964)) rfl ?_
                          refine DL_qn rfl rfl (yield_undef rfl rfl) ?_
                          refine DL_qn rfl rfl (yield_undef rfl rfl) ?_
                          refine DL_qn rfl rfl (yield_undef rfl rfl) ?_
                          refine DL_qn rfl rfl (yield_undef rfl rfl) ?_
                          refine DL_qn rfl rfl (yield_undef rfl rfl) ?_
                          refine DL_qn rfl rfl (yield_undef rfl rfl) ?_
                          refine DL_qn rfl rfl (yield_undef rfl rfl) ?_
                          refine DL_en rfl rfl (yield_undef rfl rfl) ?_
                          refine DL_qn rfl rfl (yield_undef rfl rfl) ?_
                          refine DL_qp rfl rfl (yield_of rfl (congrArg Value.bool hc1964)) rfl ?_
                          refine DL_q rfl rfl (Exec.pick_t (v := Value.bool (true)) rfl (congrArg Value.bool hc1964) rfl ⟨rfl, ?_⟩)
                          refine DL_done ?_
                          refine WL_nil (at_normal ?_)
                          have e1965 := Option.some.inj ht1923
                          subst z1922
                          have hS1966 := (hS1948).drop
                          exact ⟨s1845, (PHeap.le_refl _), hS1966, p1848, p1849, p1850, x1851, rfl⟩
                        · replace hc1964 := not_true hc1964
                          refine DL_qg rfl rfl (yield_of rfl (congrArg Value.bool hc1964)) (Exec.move (v := Value.int .i64 ((i1532 : Int))) rfl rfl ⟨rfl, ?_⟩)
                          refine DL_qg rfl rfl (yield_of rfl (congrArg Value.bool hc1964)) (Exec.gtr rfl rfl rfl ⟨rfl, ?_⟩)
                          refine DL_qg rfl rfl (yield_of rfl (congrArg Value.bool hc1964)) (Exec.move (v := Value.bool (decide (0 < (i1532 : Int)))) rfl rfl ⟨rfl, ?_⟩)
                          rcases ite_some ht1923 with ⟨hc1967, ht1923⟩ | ⟨hc1967, ht1923⟩
                          · refine DL_qg rfl rfl (yield_of rfl (congrArg Value.bool hc1967)) (Exec.field F26_3 rfl p1848 rfl ⟨rfl, ?_⟩)
                            refine DL_qg rfl rfl (yield_of rfl (congrArg Value.bool hc1967)) (Exec.load_box ((hS1948).f1) A23 rfl rfl rfl ⟨rfl, ?_⟩)
                            refine DL_qg rfl rfl (yield_of rfl (congrArg Value.bool hc1967)) (Exec.move (v := Value.int .i64 ((i1532 : Int))) rfl rfl ⟨rfl, ?_⟩)
                            refine DL_qg rfl rfl (yield_of rfl (congrArg Value.bool hc1967)) (Exec.sub rfl rfl rfl ⟨rfl, ?_⟩)
                            obtain ⟨x1968, q1969, ht1923⟩ := bind_some ht1923
                            refine DL_qg rfl rfl (yield_of rfl (congrArg Value.bool hc1967)) (Exec.index_repE S23 rfl rfl rfl (a175.mono (PHeap.le.trans (PHeap.le.trans l1383 l1527) l1846)) q1969 ?_)
                            intro b1970 o1971 a1972 e1973
                            refine ⟨rfl, ?_⟩
                            refine DL_qg rfl rfl (yield_of rfl (congrArg Value.bool hc1967)) (Exec.load_at (E := encEdge) hS1948 A66 rfl rfl rfl a1972 ?_)
                            intro v1974 q1975
                            obtain rfl := encEdge_val.1 q1975
                            refine ⟨rfl, ?_⟩
                            refine DL_qg rfl rfl (yield_of rfl (congrArg Value.bool hc1967)) (Exec.load_box_agg (ds := [Value.int .i64 (x1864.From), Value.int .i64 (x1864.Label), Value.int .i64 (x1864.To)]) (hS1948) A66 rfl rfl rfl ⟨rfl, ?_⟩)
                            obtain ⟨y1978, q1977, ht1923⟩ := bind_some ht1923
                            refine DL_eg rfl rfl (yield_of rfl (congrArg Value.bool hc1967)) (Exec.call rfl rfl Try.func39 rfl N39 (args_cons rfl (args_cons rfl args_nil)) ((transys_compare_sim q1977 hS1948 ).mono ?_))
                            rintro _ w1979 ⟨_, rfl, ⟨s1980, l1981, hS1982, rfl⟩⟩
                            refine ⟨_, rfl, ?_⟩
                            refine ⟨ag_nil, ?_⟩
                            refine DL_qg rfl rfl (yield_of rfl (congrArg Value.bool hc1967)) (Exec.geq rfl rfl rfl ⟨rfl, ?_⟩)
                            refine DL_qg rfl rfl (yield_of rfl (congrArg Value.bool hc1964)) (Exec.pick_t (v := Value.bool (decide (0 ≤ y1978))) rfl (congrArg Value.bool hc1967) rfl ⟨rfl, ?_⟩)
                            refine DL_q rfl rfl (Exec.pick_f (v := Value.bool (decide (0 ≤ y1978))) rfl (congrArg Value.bool hc1964) rfl ⟨rfl, ?_⟩)
                            refine DL_done ?_
                            refine WL_nil (at_normal ?_)
                            have e1983 := Option.some.inj ht1923
                            subst z1922
                            have hS1984 := (hS1982).drop
                            exact ⟨s1980, l1981, hS1984, p1848, p1849, p1850, x1851, rfl⟩
                          · replace hc1967 := not_true hc1967
                            refine DL_qp rfl rfl (yield_of rfl (congrArg Value.bool hc1967)) rfl ?_
                            refine DL_qp rfl rfl (yield_of rfl (congrArg Value.bool hc1967)) rfl ?_
                            refine DL_qp rfl rfl (yield_of rfl (congrArg Value.bool hc1967)) rfl ?_
                            refine DL_qp rfl rfl (yield_of rfl (congrArg Value.bool hc1967)) rfl ?_
                            refine DL_qp rfl rfl (yield_of rfl (congrArg Value.bool hc1967)) rfl ?_
                            refine DL_qp rfl rfl (yield_of rfl (congrArg Value.bool hc1967)) rfl ?_
                            refine DL_qp rfl rfl (yield_of rfl (congrArg Value.bool hc1967)) rfl ?_
                            refine DL_ep rfl rfl (yield_of rfl (congrArg Value.bool hc1967)) rfl ?_
                            refine DL_qp rfl rfl (yield_of rfl (congrArg Value.bool hc1967)) rfl ?_
                            refine DL_qg rfl rfl (yield_of rfl (congrArg Value.bool hc1964)) (Exec.pick_f (v := Value.bool (false)) rfl (congrArg Value.bool hc1967) rfl ⟨rfl, ?_⟩)
                            refine DL_q rfl rfl (Exec.pick_f (v := Value.bool (false)) rfl (congrArg Value.bool hc1964) rfl ⟨rfl, ?_⟩)
                            refine DL_done ?_
                            refine WL_nil (at_normal ?_)
                            have e1985 := Option.some.inj ht1923
                            subst z1922
                            have hS1986 := (hS1948).drop
                            exact ⟨s1845, (PHeap.le_refl _), hS1986, p1848, p1849, p1850, x1851, rfl⟩
            · intro f1987 w1988 hM1989
              obtain ⟨s1990, l1991, hS1992, p1993, p1994, p1995, p1996, p1997⟩ := hM1989
              refine (at_normal ?_)
              rcases ite_some hm1841 with ⟨hc1998, hm1841⟩ | ⟨hc1998, hm1841⟩
              · refine W_cond_t p1997 hc1998 ?_
                refine W_seq ?_
                refine W_region ?_
                refine WL_step rfl rfl (Exec.assign (v := Value.bool (false)) rfl rfl ?_)
                refine WL_nil (at_normal ?_)
                refine W_ret (ib_ret (at_ret (at_ret (ib_ret (at_ret (at_ret ?_))))))
                have e1999 := Option.some.inj hm1841
                subst c1837
                have hq2000 := hr1831 _ (hres1842 (by intro _ h; cases h))
                have e2001 := Option.some.inj hq2000
                subst r
                refine ⟨_, ret1 rfl, ?_⟩
                have hS2002 := (hS1992).drop
                exact ⟨s1990, (PHeap.le.trans (PHeap.le.trans (PHeap.le.trans l1383 l1527) l1846) l1991), hS2002, rfl⟩
              · refine W_cond_f p1997 hc1998 ?_
                replace hc1998 := not_true hc1998
                refine W_skip (ib_normal (at_normal ?_))
                refine W_region ?_
                refine WL_step rfl rfl (Exec.add rfl p1996 rfl ?_)
                refine WL_step rfl rfl (Exec.move (v := Value.int .i64 (IntKind.i64.wrap ((i1532 : Int) + 1))) rfl rfl ?_)
                refine WL_nil (at_normal ?_)
                have e2003 := Option.some.inj hm1841
                subst c1837
                refine ⟨_, rfl, ?_⟩; exact ⟨s1990, (PHeap.le.trans l1846 l1991), hS1992, p1993, p1994, p1995, (Eq.trans rfl (wrap_up hi1844 (SliceRep.le (a175.mono (PHeap.le.trans l1383 l1527)))))⟩
          · intro t2004 f2005 w2006 hI2007 hres2008
            obtain ⟨s2009, l2010, hS2011, p2012, p2013, p2014, x2015⟩ := hI2007
            refine W_seq ?_
            refine W_region ?_
            refine WL_step rfl rfl (Exec.lss rfl x2015 p2014 ?_)
            refine WL_nil (at_normal ?_)
            refine W_seq ?_
            refine W_false (congrArg Value.bool (decide_eq_false (by omega))) ?_
            refine W_exit (at_exit (at_exit (ib_here (at_normal ?_))))
            refine ⟨_, .inl hres2008, ?_⟩; exact ⟨s2009, l2010, hS2011, p2012, p2013, p2014⟩
        · rintro f2016 w2017 ⟨t2018, hc2019, hM2020⟩
          have hm := hc2019.elim (hn1832 _) (hb1833 _)
          clear hc2019
          obtain ⟨s2021, l2022, hS2023, p2024, p2025, p2026⟩ := hM2020
          refine (at_normal ?_)
          refine W_seq ?_
          refine W_region ?_
          refine WL_step rfl rfl (Exec.assign (v := Value.bool (true)) rfl rfl ?_)
          refine WL_nil (at_normal ?_)
          refine W_ret ?_
          have e2028 := Option.some.inj hm
          subst r
          refine ⟨_, ret1 rfl, ?_⟩
          have hS2029 := (hS2023).drop
          exact ⟨s2021, (PHeap.le.trans (PHeap.le.trans l1383 l1527) l2022), hS2029, rfl⟩

theorem N35 : (Try.f35.name == "runtime.NumGoroutine") = false := by kernel_rfl

theorem slices_Equal___int_int__sim {w0 w : World} {s : PHeap} {H : List Res} {s12046 : (List Int)} {s22049 : (List Int)} {v2047 : Value} {v2050 : Value} {r : Bool} (hm : slices_Equal___int_int__p s12046 s22049 = some r) (hS : St w0 s (H) w) (a2048 : SliceRep (encInt .i64) s v2047 s12046) (a2051 : SliceRep (encInt .i64) s v2050 s22049) :
    Calls Try.prog 35 #[v2047, v2050] w fun e w' => ∃ v, e = .returned v ∧ ((fun (y2311 : Bool) => ∃ (s2312 : PHeap) , PHeap.le s s2312 ∧ St w0 s2312 (H) w' ∧ v = Value.bool (y2311)) r) := by
  unfold slices_Equal___int_int__p at hm
  refine calls_of_W Try.func35 rfl rfl ?_
  refine W_seq ?_
  refine W_region ?_
  refine WL_step rfl rfl (Exec.assign (v := Value.bool (false)) rfl rfl ?_)
  refine WL_nil (at_normal ?_)
  refine W_seq ?_
  refine W_seq ?_
  refine W_region ?_
  refine WL_step rfl rfl (Exec.move (v := v2047) rfl rfl ?_)
  refine WL_step rfl rfl (Exec.len_rep S22 rfl rfl a2048 ?_)
  refine WL_step rfl rfl (Exec.move (v := v2050) rfl rfl ?_)
  refine WL_step rfl rfl (Exec.len_rep S22 rfl rfl a2051 ?_)
  refine WL_step rfl rfl (Exec.neq rfl rfl rfl ?_)
  refine WL_nil (at_normal ?_)
  rcases ite_some hm with ⟨hc2313, hm⟩ | ⟨hc2313, hm⟩
  · refine W_cond_t rfl hc2313 ?_
    refine W_seq ?_
    refine W_region ?_
    refine WL_step rfl rfl (Exec.assign (v := Value.bool (false)) rfl rfl ?_)
    refine WL_nil (at_normal ?_)
    refine W_ret (at_ret ?_)
    have e2315 := Option.some.inj hm
    subst r
    refine ⟨_, ret1 rfl, ?_⟩
    exact ⟨s, (PHeap.le_refl _), hS, rfl⟩
  · refine W_cond_f rfl hc2313 ?_
    replace hc2313 := not_true hc2313
    refine W_skip (at_normal ?_)
    refine W_seq ?_
    refine W_seq ?_
    refine W_region ?_
    refine WL_step rfl rfl (Exec.move (v := v2047) rfl rfl ?_)
    refine WL_step rfl rfl (Exec.len_rep S22 rfl rfl a2048 ?_)
    refine WL_step rfl rfl (Exec.move (v := Value.int .i64 (0)) rfl rfl ?_)
    refine WL_nil (at_normal ?_)
    obtain ⟨c2457, hB2458, hr2459, hn2460, hb2461⟩ := ctl_some hm
    refine W_mid (M := fun f' w' => ∃ s', (c2457 = .next s' ∨ c2457 = .brk s') ∧ (fun (_ : Unit) => ∃ (s2463 : PHeap) , PHeap.le s s2463 ∧ St w0 s2463 (H) w' ∧ f' 0 = v2047 ∧ f' 1 = v2050 ∧ f' 12 = Value.int .i64 ((s12046.length : Int))) s') ?_ ?_
    · refine W_block (W_forC (fun k' s' f' w' => (fun (_ : Unit) => ∃ (s2462 : PHeap) , PHeap.le s s2462 ∧ St w0 s2462 (H) w' ∧ f' 0 = v2047 ∧ f' 1 = v2050 ∧ f' 12 = Value.int .i64 ((s12046.length : Int)) ∧ f' 13 = Value.int .i64 (k' : Int)) s') hB2458 ?_ ?_ ?_)
      · exact ⟨s, (PHeap.le_refl _), hS, rfl, rfl, rfl, rfl⟩
      · intro i2316 t2471 c2465 f2466 w2467 hi2472 hI2468 hm2469 hres2470
        obtain ⟨s2473, l2474, hS2475, p2476, p2477, p2478, x2479⟩ := hI2468
        refine W_seq ?_
        refine W_region ?_
        refine WL_step rfl rfl (Exec.lss rfl x2479 p2478 ?_)
        refine WL_nil (at_normal ?_)
        refine W_seq ?_
        refine W_true (congrArg Value.bool (decide_eq_true (by omega))) ?_
        refine W_skip (at_normal ?_)
        refine W_seq ?_
        refine W_block ?_
        refine W_seq ?_
        refine W_region ?_
        refine WL_step rfl rfl (Exec.move (v := Value.int .i64 ((i2316 : Int))) rfl x2479 ?_)
        refine WL_step rfl rfl (Exec.assign (v := Value.int .i64 ((i2316 : Int))) rfl rfl ?_)
        refine WL_nil (at_normal ?_)
        refine W_seq ?_
        refine W_dl (n0 := 9) (.q 0 (.q 1 (.q 2 (.q 3 (.q 4 (.q 5 (.q 6 (.q 7 (.q 8 .done))))))))) hmix (by kernel_rfl) (by kernel_rfl) ?_
        have hS2531 := hS2475.drew
        refine DL_q rfl rfl (Exec.move (v := v2047) rfl p2476 ⟨rfl, ?_⟩)
        refine DL_q rfl rfl (Exec.move (v := Value.int .i64 ((i2316 : Int))) rfl rfl ⟨rfl, ?_⟩)
        obtain ⟨x2532, q2533, hm2469⟩ := bind_some hm2469
        refine DL_q rfl rfl (Exec.index_repE S22 rfl rfl rfl (a2048.mono l2474) q2533 ?_)
        intro b2534 o2535 a2536 e2537
        refine ⟨rfl, ?_⟩
        refine DL_q rfl rfl (Exec.load_at (E := (encInt .i64)) hS2531 A3 rfl rfl rfl a2536 ?_)
        intro v2538 q2539
        obtain rfl := encInt_val.1 q2539
        refine ⟨rfl, ?_⟩
        refine DL_q rfl rfl (Exec.move (v := v2050) rfl p2477 ⟨rfl, ?_⟩)
        refine DL_q rfl rfl (Exec.move (v := Value.int .i64 ((i2316 : Int))) rfl rfl ⟨rfl, ?_⟩)
        obtain ⟨x2540, q2541, hm2469⟩ := bind_some hm2469
        refine DL_q rfl rfl (Exec.index_repE S22 rfl rfl rfl (a2051.mono l2474) q2541 ?_)
        intro b2542 o2543 a2544 e2545
        refine ⟨rfl, ?_⟩
        refine DL_q rfl rfl (Exec.load_at (E := (encInt .i64)) hS2531 A3 rfl rfl rfl a2544 ?_)
        intro v2546 q2547
        obtain rfl := encInt_val.1 q2547
        refine ⟨rfl, ?_⟩
        refine DL_q rfl rfl (Exec.neq rfl rfl rfl ⟨rfl, ?_⟩)
        refine DL_done ?_
        refine WL_nil (at_normal ?_)
        rcases ite_some hm2469 with ⟨hc2548, hm2469⟩ | ⟨hc2548, hm2469⟩
        · refine W_cond_t rfl hc2548 ?_
          refine W_seq ?_
          refine W_region ?_
          refine WL_step rfl rfl (Exec.assign (v := Value.bool (false)) rfl rfl ?_)
          refine WL_nil (at_normal ?_)
          refine W_ret (ib_ret (at_ret (at_ret (ib_ret (at_ret (at_ret ?_))))))
          have e2549 := Option.some.inj hm2469
          subst c2465
          have hq2550 := hr2459 _ (hres2470 (by intro _ h; cases h))
          have e2551 := Option.some.inj hq2550
          subst r
          refine ⟨_, ret1 rfl, ?_⟩
          exact ⟨s2473, l2474, hS2531, rfl⟩
        · refine W_cond_f rfl hc2548 ?_
          replace hc2548 := not_true hc2548
          refine W_skip (ib_normal (at_normal ?_))
          refine W_region ?_
          refine WL_step rfl rfl (Exec.add rfl x2479 rfl ?_)
          refine WL_step rfl rfl (Exec.move (v := Value.int .i64 (IntKind.i64.wrap ((i2316 : Int) + 1))) rfl rfl ?_)
          refine WL_nil (at_normal ?_)
          have e2552 := Option.some.inj hm2469
          subst c2465
          refine ⟨_, rfl, ?_⟩; exact ⟨s2473, l2474, hS2531, p2476, p2477, p2478, (Eq.trans rfl (wrap_up hi2472 (SliceRep.le a2048)))⟩
      · intro t2553 f2554 w2555 hI2556 hres2557
        obtain ⟨s2558, l2559, hS2560, p2561, p2562, p2563, x2564⟩ := hI2556
        refine W_seq ?_
        refine W_region ?_
        refine WL_step rfl rfl (Exec.lss rfl x2564 p2563 ?_)
        refine WL_nil (at_normal ?_)
        refine W_seq ?_
        refine W_false (congrArg Value.bool (decide_eq_false (by omega))) ?_
        refine W_exit (at_exit (at_exit (ib_here (at_normal ?_))))
        refine ⟨_, .inl hres2557, ?_⟩; exact ⟨s2558, l2559, hS2560, p2561, p2562, p2563⟩
    · rintro f2565 w2566 ⟨t2567, hc2568, hM2569⟩
      have hm := hc2568.elim (hn2460 _) (hb2461 _)
      clear hc2568
      obtain ⟨s2570, l2571, hS2572, p2573, p2574, p2575⟩ := hM2569
      refine (at_normal ?_)
      refine W_seq ?_
      refine W_region ?_
      refine WL_step rfl rfl (Exec.assign (v := Value.bool (true)) rfl rfl ?_)
      refine WL_nil (at_normal ?_)
      refine W_ret ?_
      have e2577 := Option.some.inj hm
      subst r
      refine ⟨_, ret1 rfl, ?_⟩
      exact ⟨s2570, l2571, hS2572, rfl⟩

theorem C39 : Try.prog.concrete 39 = true := by kernel_rfl

theorem Z3 : tyZero Try.prog 3 = some (Value.int .i64 (0)) := by kernel_rfl

theorem N36 : (Try.f36.name == "runtime.NumGoroutine") = false := by kernel_rfl

theorem slices_Clone___int_int__sim {w0 w : World} {s : PHeap} {H : List Res} {s_2645 : (List Int)} {v2646 : Value} {r : (List Int)} (hm : slices_Clone___int_int__p s_2645 = some r) (hS : St w0 s (H) w) (a2647 : SliceRep (encInt .i64) s v2646 s_2645) :
    Calls Try.prog 36 #[v2646] w fun e w' => ∃ v, e = .returned v ∧ ((fun (y2679 : (List Int)) => ∃ (s2681 : PHeap) (v2680 : Value), PHeap.le s s2681 ∧ St w0 s2681 (Res.arr (encInt .i64) 3 v2680 y2679 :: H) w' ∧ v = v2680) r) := by
  unfold slices_Clone___int_int__p at hm
  refine calls_of_W Try.func36 rfl rfl ?_
  refine W_seq ?_
  refine W_region ?_
  refine WL_step rfl rfl (Exec.assign (v := Value.slice none 0 0) rfl rfl ?_)
  refine WL_nil (at_normal ?_)
  refine W_seq ?_
  refine W_seq ?_
  refine W_region ?_
  refine WL_step rfl rfl (Exec.move (v := v2646) rfl rfl ?_)
  obtain ⟨a2687, n2688, c2689, e2690, hn2691⟩ := (a2647).nilShape
  refine WL_step rfl rfl (Exec.slice_eql_nil Try.underlying22 rfl e2690 rfl ?_)
  refine WL_nil (at_normal ?_)
  by_cases hc2692 : a2687.isNone = true
  · have hq2693 := hn2691 hc2692
    replace hm := (show (some []) = ((app 8 [] s_2645).bind fun l2710 => some l2710) from by simp [hq2693, app]).trans hm
    refine W_true ((congrArg Value.bool hc2692)) ?_
    refine W_seq ?_
    refine W_region ?_
    refine WL_step rfl rfl (Exec.assign (v := Value.slice none 0 0) rfl rfl ?_)
    refine WL_nil (at_normal ?_)
    refine W_ret (at_ret ?_)
    have e2695 := Option.some.inj hm
    subst r
    refine ⟨_, ret1 rfl, ?_⟩
    have hS2696 := hS.nilArr (encInt .i64) 3
    exact ⟨s, (Value.slice none 0 0), (PHeap.le_refl _), hS2696, rfl⟩
  · replace hc2692 := not_true hc2692
    refine W_false ((congrArg Value.bool hc2692)) ?_
    refine W_skip (at_normal ?_)
    refine W_seq ?_
    refine W_region ?_
    refine WL_step rfl rfl (Exec.buildSlice (Te := 3) (cs := []) hS rfl parts_nil (fun _ => by kernel_rfl) ?_)
    intro b2706 w2707 hS2708
    refine WL_step rfl rfl (Exec.move (v := v2646) rfl rfl ?_)
    have hS2709 := St.boxArr (E := (encInt .i64)) (xs := []) hS2708 rfl (by simp [maxLen])
    obtain ⟨l2710, q2711, hm⟩ := bind_some hm
    refine WL_step rfl rfl (Exec.append_rep (E := (encInt .i64)) (ys := s_2645) hS2709 S22 Z3 rfl (by decide) rfl rfl rfl a2647 q2711 ?_)
    intro v2712 w2713 hS2714
    refine WL_step rfl rfl (Exec.assign (v := v2712) rfl rfl ?_)
    refine WL_nil (at_normal ?_)
    refine W_ret ?_
    have e2716 := Option.some.inj hm
    subst r
    refine ⟨_, ret1 rfl, ?_⟩
    exact ⟨s, v2712, (PHeap.le_refl _), hS2714, rfl⟩

theorem A4 : tyAgg Try.prog 4 = some (false, 1) := by kernel_rfl

theorem Z4 : tyZero Try.prog 4 = some (Value.bool false) := by kernel_rfl

theorem S63 : tySlice Try.prog 63 = some (23, 1, 24) := by kernel_rfl

theorem Z23 : tyZero Try.prog 23 = some (Value.slice none 0 0) := by kernel_rfl

theorem N37 : (Try.f37.name == "runtime.NumGoroutine") = false := by kernel_rfl

theorem transys_labelled_sim {w0 w : World} {s : PHeap} {H : List Res} {x4808 : System} {v4809 : Value} {v4811 : Value} {v4813 : Value} {r : (List (List Edge))} (hm : transys_labelled_p x4808 = some r) (hS : St w0 s (H) w) (a4810 : SliceRep (encInt .i64) s v4809 x4808.Costs) (a4812 : SliceRep encEdge s v4811 x4808.Edges) (a4814 : SliceRep encBool s v4813 x4808.Goals) :
    Calls Try.prog 37 #[Value.agg #[Value.int .i64 (x4808.States), Value.int .i64 (x4808.Init), v4809, v4811, v4813]] w fun e w' => ∃ v, e = .returned v ∧ ((fun (y5248 : (List (List Edge))) => ∃ (s5254 : PHeap) (v5253 : Value), PHeap.le s s5254 ∧ St w0 s5254 (H) w' ∧ v = v5253 ∧ SliceRep (encSlice encEdge) s5254 v5253 y5248) r) := by
  unfold transys_labelled_p at hm
  refine calls_of_W Try.func37 rfl rfl ?_
  refine W_seq ?_
  refine W_region ?_
  refine WL_step rfl rfl (Exec.box (cs := [Value.int .i64 (x4808.States), Value.int .i64 (x4808.Init), v4809, v4811, v4813]) hS rfl rfl rfl ?_)
  intro b5258 w5259 hS5260
  refine WL_step rfl rfl (Exec.assign (v := Value.slice none 0 0) rfl rfl ?_)
  refine WL_nil (at_normal ?_)
  refine W_seq ?_
  refine W_region ?_
  refine WL_step rfl rfl (Exec.field F26_2 rfl rfl rfl ?_)
  refine WL_step rfl rfl (Exec.load_box (hS5260) A22 rfl rfl rfl ?_)
  refine WL_step rfl rfl (Exec.len_rep S22 rfl rfl a4810 ?_)
  obtain ⟨l5267, q5268, hm⟩ := bind_some hm
  refine WL_step rfl rfl (Exec.make_grid (F := encEdge) (T2 := 66) hS5260 S63 Z23 rfl rfl rfl q5268 ?_)
  intro v5269 hs5270 w5271 hS5272
  refine WL_step rfl rfl (Exec.assign (v := v5269) rfl rfl ?_)
  refine WL_nil (at_normal ?_)
  refine W_seq ?_
  refine W_seq ?_
  refine W_region ?_
  refine WL_step rfl rfl (Exec.field F26_3 rfl rfl rfl ?_)
  refine WL_step rfl rfl (Exec.load_box ((hS5272).f2) A23 rfl rfl rfl ?_)
  refine WL_step rfl rfl (Exec.len_rep S23 rfl rfl a4812 ?_)
  refine WL_step rfl rfl (Exec.move (v := Value.int .i64 (0)) rfl rfl ?_)
  refine WL_nil (at_normal ?_)
  obtain ⟨l5401, hB5532, hm⟩ := bind_some hm
  refine W_block (W_forS (fun k' s' f' w' => (fun (l5401 : (List (List Edge))) => ∃ (s5533 : PHeap) (hs5402 : List Value), PHeap.le s s5533 ∧ St w0 s5533 (Res.arr encRaw 23 v5269 hs5402 :: Res.rows encEdge 66 hs5402 l5401 :: H) w' ∧ f' 3 = v5269 ∧ f' 11 = v4811 ∧ f' 12 = Value.int .i64 ((x4808.Edges.length : Int)) ∧ f' 13 = Value.int .i64 (k' : Int)) s') hB5532 ?_ ?_ ?_)
  · have hS5534 := ((hS5272).f2).drop
    exact ⟨s, hs5270, (PHeap.le_refl _), hS5534, rfl, rfl, rfl, rfl⟩
  · intro i5273 l5401 s5536 f5537 w5538 hi5539 hI5540 hm5541
    obtain ⟨s5542, hs5402, l5543, hS5544, p5545, p5546, p5547, x5548⟩ := hI5540
    refine W_seq ?_
    refine W_region ?_
    refine WL_step rfl rfl (Exec.lss rfl x5548 p5547 ?_)
    refine WL_nil (at_normal ?_)
    refine W_seq ?_
    refine W_true (congrArg Value.bool (decide_eq_true (by omega))) ?_
    refine W_skip (at_normal ?_)
    refine W_seq ?_
    refine W_block ?_
    refine W_seq ?_
    refine W_region ?_
    obtain ⟨x5561, q5562, hm5541⟩ := bind_some hm5541
    refine WL_step rfl rfl (Exec.index_rep S23 rfl p5546 x5548 (a4812.mono l5543) q5562 ?_)
    intro b5563 o5564 a5565
    refine WL_step rfl rfl (Exec.load_at (E := encEdge) hS5544 A66 rfl rfl rfl a5565 ?_)
    intro v5566 q5567
    obtain rfl := encEdge_val.1 q5567
    refine WL_step rfl rfl (Exec.alloc (cs := [Value.int .i64 (0), Value.int .i64 (0), Value.int .i64 (0)]) hS5544 Z66 rfl rfl ?_)
    intro b5568 w5569 hS5570
    refine WL_step rfl rfl (Exec.store_box (ds := [Value.int .i64 (x5561.From), Value.int .i64 (x5561.Label), Value.int .i64 (x5561.To)]) (es := [Value.int .i64 (x5561.From), Value.int .i64 (x5561.Label), Value.int .i64 (x5561.To)]) hS5570 A66 rfl rfl rfl rfl (one_cons rfl (one_cons rfl (one_cons rfl one_nil))) (Nat.le_of_ble_eq_true rfl) rfl ?_)
    intro w5571 hS5572
    refine WL_nil (at_normal ?_)
    refine W_dl (n0 := 11) (.q 0 (.q 1 (.q 2 (.q 3 (.q 4 (.q 5 (.q 6 (.q 7 (.q 8 (.e 9 [0, 1, 2, 3, 4, 5, 6, 7] (.e 10 [0, 1, 2] .done))))))))))) hmix (by kernel_rfl) (by kernel_rfl) ?_
    have hS5646 := hS5572.drew
    refine DL_q rfl rfl (Exec.move (v := v5269) rfl p5545 ⟨rfl, ?_⟩)
    refine DL_q rfl rfl (Exec.field F66_1 rfl rfl rfl ⟨rfl, ?_⟩)
    refine DL_q rfl rfl (Exec.load_box (hS5646) A3 rfl rfl rfl ⟨rfl, ?_⟩)
    refine DL_q rfl rfl (Exec.move (v := v5269) rfl p5545 ⟨rfl, ?_⟩)
    refine DL_q rfl rfl (Exec.field F66_1 rfl rfl rfl ⟨rfl, ?_⟩)
    refine DL_q rfl rfl (Exec.load_box (hS5646) A3 rfl rfl rfl ⟨rfl, ?_⟩)
    obtain ⟨row5647, q5648, hm5541⟩ := bind_some hm5541
    obtain ⟨h5649, e5650, e5651, _⟩ := ((((hS5646).f2).f2).f1).rows_at q5648
    obtain ⟨g5652, c5653, e5654⟩ := (((hS5646).f2).f2).arr_at e5650
    refine DL_q rfl rfl (Exec.index_slice S63 rfl e5654 rfl (idx_some e5650).1 (idx_some e5650).2.1 ⟨rfl, ?_⟩)
    refine DL_q rfl rfl (Exec.load_arr (F := encRaw) (((hS5646).f2).f2) e5654 A23 rfl rfl rfl e5650 (Sub.refl _) ?_)
    intro v5655 q5656
    replace q5656 := (encRaw_val.1 q5656).1
    subst v5655
    refine ⟨rfl, ?_⟩
    refine DL_q rfl rfl (Exec.load_box_agg (ds := [Value.int .i64 (x5561.From), Value.int .i64 (x5561.Label), Value.int .i64 (x5561.To)]) (hS5646) A66 rfl rfl rfl ⟨rfl, ?_⟩)
    refine DL_e rfl rfl (Exec.buildSlice (Te := 66) (cs := [Value.int .i64 (x5561.From), Value.int .i64 (x5561.Label), Value.int .i64 (x5561.To)]) hS5646 rfl (parts_cons (c := [Value.int .i64 (x5561.From), Value.int .i64 (x5561.Label), Value.int .i64 (x5561.To)]) (cells_of rfl rfl) parts_nil) (fun _ => by kernel_rfl) ?_)
    intro b5657 w5658 hS5659
    refine ⟨(ag_cons (ag_r rfl rfl (Exec.move (v := v5269) rfl p5545 ⟨rfl, rfl⟩)) (ag_cons (ag_r rfl rfl (Exec.field F66_1 rfl rfl rfl ⟨rfl, rfl⟩)) (ag_cons (ag_r rfl rfl (Exec.load_box ((hS5659).f1) A3 rfl rfl rfl ⟨rfl, rfl⟩)) (ag_cons (ag_r rfl rfl (Exec.move (v := v5269) rfl p5545 ⟨rfl, rfl⟩)) (ag_cons (ag_r rfl rfl (Exec.field F66_1 rfl rfl rfl ⟨rfl, rfl⟩)) (ag_cons (ag_r rfl rfl (Exec.load_box ((hS5659).f1) A3 rfl rfl rfl ⟨rfl, rfl⟩)) (ag_cons (ag_r rfl rfl (Exec.index_slice S63 rfl e5654 rfl (idx_some e5650).1 (idx_some e5650).2.1 ⟨rfl, rfl⟩)) (ag_cons (ag_r rfl rfl (Exec.load_arr (F := encRaw) (((hS5659).f3).f3) e5654 A23 rfl rfl rfl e5650 (Sub.refl _) (fun _ q => ⟨rfl, (encRaw_val.1 q).1⟩))) ag_nil)))))))), ?_⟩
    have hS5660 := ((((hS5659).f3).f3).f1).rows_split e5651 (idx_some q5648).2.2
    obtain ⟨l5661, q5662, hm5541⟩ := bind_some hm5541
    have hS5663 := (hS5660).f3
    have hS5664 := (hS5663).f1
    refine DL_e rfl rfl (Exec.append_box (E := encEdge) (ys := [x5561]) hS5664 S23 Z66 rfl (by decide) rfl rfl rfl rfl ⟨[Value.int .i64 (x5561.From), Value.int .i64 (x5561.Label), Value.int .i64 (x5561.To)], [], rfl, ⟨[Value.int .i64 (x5561.From)], [Value.int .i64 (x5561.Label), Value.int .i64 (x5561.To)], rfl, rfl, ⟨[Value.int .i64 (x5561.Label)], [Value.int .i64 (x5561.To)], rfl, rfl, rfl⟩⟩, rfl⟩ rfl q5662 ?_)
    intro v5665 w5666 hS5667
    refine ⟨(ag_cons (ag_r rfl rfl (Exec.move (v := v5269) rfl p5545 ⟨rfl, rfl⟩)) (ag_cons (ag_r rfl rfl (Exec.field F66_1 rfl rfl rfl ⟨rfl, rfl⟩)) (ag_cons (ag_r rfl rfl (Exec.load_box ((hS5667).f3) A3 rfl rfl rfl ⟨rfl, rfl⟩)) ag_nil))), ?_⟩
    refine DL_done ?_
    refine WL_step rfl rfl (Exec.index_slice S63 rfl e5654 rfl (idx_some e5650).1 (idx_some e5650).2.1 ?_)
    obtain ⟨l5668, q5669, hm5541⟩ := bind_some hm5541
    have hS5670 := ((hS5667).f2).f2
    have hS5671 := (hS5670).f2
    refine WL_step rfl rfl (Exec.store_row hS5671 e5651 e5654 A23 rfl rfl rfl rfl q5669 ?_)
    intro hs5672 w5673 hS5674
    refine WL_nil (ib_normal (at_normal ?_))
    refine W_region ?_
    refine WL_step rfl rfl (Exec.add rfl x5548 rfl ?_)
    refine WL_step rfl rfl (Exec.move (v := Value.int .i64 (IntKind.i64.wrap ((i5273 : Int) + 1))) rfl rfl ?_)
    refine WL_nil (at_normal ?_)
    have e5675 := Option.some.inj hm5541
    subst s5536
    have hS5676 := ((hS5674).f2).drop
    exact ⟨s5542, hs5672, l5543, hS5676, p5545, p5546, p5547, (Eq.trans rfl (wrap_up hi5539 (SliceRep.le a4812)))⟩
  · intro f5677 w5678 hI5679
    obtain ⟨s5680, hs5402, l5681, hS5682, p5683, p5684, p5685, x5686⟩ := hI5679
    refine W_seq ?_
    refine W_region ?_
    refine WL_step rfl rfl (Exec.lss rfl x5686 p5685 ?_)
    refine WL_nil (at_normal ?_)
    refine W_seq ?_
    refine W_false (congrArg Value.bool (decide_eq_false (by omega))) ?_
    refine W_exit (at_exit (at_exit (ib_here (at_normal ?_))))
    refine W_seq ?_
    refine W_region ?_
    refine WL_step rfl rfl (Exec.move (v := v5269) rfl p5683 ?_)
    refine WL_step rfl rfl (Exec.assign (v := v5269) rfl rfl ?_)
    refine WL_nil (at_normal ?_)
    refine W_ret ?_
    have e5688 := Option.some.inj hm
    subst r
    refine ⟨_, ret1 rfl, ?_⟩
    obtain ⟨s5689, l5690, hS5691, r5692⟩ := hS5682.freezeGrid
    exact ⟨s5689, v5269, (PHeap.le.trans l5681 l5690), hS5691, rfl, r5692⟩

theorem N38 : (Try.f38.name == "runtime.NumGoroutine") = false := by kernel_rfl

end Go.Pw
