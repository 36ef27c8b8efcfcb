/-
  The walks (printed by my generator).
-/
import Derived.Test.YtdhfofhginfdnaaLiP
import Derived.Test.YtdhfofhginfdnaaL8
import Derived.Test.YtdhfofhginfdnaaL9
import Derived.Test.YtdhfofhginfdnaaL12
import Derived.KernelRfl
import Derived.Test.YtdhfofhginfdnaaProg
import Derived.KernelRfl
set_option maxRecDepth 100000
set_option maxHeartbeats 4000000
set_option linter.unusedVariables false
namespace Go.Pw
open Go.Proofs
theorem Z26 : tyZero Try.prog 26 = some (Value.agg #[Value.int .i64 (0), Value.int .i64 (0), Value.slice none 0 0, Value.slice none 0 0, Value.slice none 0 0]) := by kernel_rfl

theorem A26 : tyAgg Try.prog 26 = some (true, 5) := by kernel_rfl

theorem N26 : (Try.f26.name == "runtime.NumGoroutine") = false := by kernel_rfl

theorem law44_example_sim {w0 w : World} {s : PHeap} {H : List Res}   {r : System} (hm : law44_example_p  = some r) (hS : St w0 s (H) w)  :
    Calls Try.prog 26 #[] w fun e w' => ∃ v, e = .returned v ∧ ((fun (y34 : System) => ∃ (s56 : PHeap) (v53 : Value) (v54 : Value) (v55 : Value), PHeap.le s s56 ∧ St w0 s56 (H) w' ∧ v = Value.agg #[Value.int .i64 (y34.States), Value.int .i64 (y34.Init), v53, v54, v55] ∧ SliceRep (encInt .i64) s56 v53 y34.Costs ∧ SliceRep encEdge s56 v54 y34.Edges ∧ SliceRep encBool s56 v55 y34.Goals) r) := by
  unfold law44_example_p at hm
  refine calls_of_W Try.func26 rfl rfl ?_
  refine W_seq ?_
  refine W_region ?_
  refine WL_step rfl rfl (Exec.alloc (cs := [Value.int .i64 (0), Value.int .i64 (0), Value.slice none 0 0, Value.slice none 0 0, Value.slice none 0 0]) hS Z26 rfl rfl ?_)
  intro b60 w61 hS62
  refine WL_nil (at_normal ?_)
  refine W_seq ?_
  refine W_region ?_
  refine WL_step rfl rfl (Exec.buildSlice (Te := 3) (cs := [Value.int .i64 (2), Value.int .i64 (0)]) hS62 rfl (parts_cons (c := [Value.int .i64 (2)]) (cells_of rfl rfl) (parts_cons (c := [Value.int .i64 (0)]) (cells_of rfl rfl) parts_nil)) (fun _ => by kernel_rfl) ?_)
  intro b75 w76 hS77
  refine WL_step rfl rfl (Exec.build rfl (parts_cons (c := [Value.int .i64 (0)]) (cells_of rfl rfl) (parts_cons (c := [Value.int .i64 (0)]) (cells_of rfl rfl) (parts_cons (c := [Value.int .i64 (1)]) (cells_of rfl rfl) parts_nil))) (v := Value.agg #[Value.int .i64 (0), Value.int .i64 (0), Value.int .i64 (1)]) (fun _ => by kernel_rfl) ?_)
  refine WL_step rfl rfl (Exec.build rfl (parts_cons (c := [Value.int .i64 (1)]) (cells_of rfl rfl) (parts_cons (c := [Value.int .i64 (1)]) (cells_of rfl rfl) (parts_cons (c := [Value.int .i64 (1)]) (cells_of rfl rfl) parts_nil))) (v := Value.agg #[Value.int .i64 (1), Value.int .i64 (1), Value.int .i64 (1)]) (fun _ => by kernel_rfl) ?_)
  refine WL_step rfl rfl (Exec.buildSlice (Te := 66) (cs := [Value.int .i64 (0), Value.int .i64 (0), Value.int .i64 (1), Value.int .i64 (1), Value.int .i64 (1), Value.int .i64 (1)]) hS77 rfl (parts_cons (c := [Value.int .i64 (0), Value.int .i64 (0), Value.int .i64 (1)]) (cells_of rfl rfl) (parts_cons (c := [Value.int .i64 (1), Value.int .i64 (1), Value.int .i64 (1)]) (cells_of rfl rfl) parts_nil)) (fun _ => by kernel_rfl) ?_)
  intro b78 w79 hS80
  refine WL_step rfl rfl (Exec.buildSlice (Te := 4) (cs := [Value.bool (false), Value.bool (true)]) hS80 rfl (parts_cons (c := [Value.bool (false)]) (cells_of rfl rfl) (parts_cons (c := [Value.bool (true)]) (cells_of rfl rfl) parts_nil)) (fun _ => by kernel_rfl) ?_)
  intro b81 w82 hS83
  refine WL_step rfl rfl (Exec.build rfl (parts_cons (c := [Value.int .i64 (2)]) (cells_of rfl rfl) (parts_cons (c := [Value.slice (some ⟨b75, 0, none⟩) 2 2]) (cells_of rfl rfl) (parts_cons (c := [Value.slice (some ⟨b78, 0, none⟩) 2 2]) (cells_of rfl rfl) (parts_cons (c := [Value.slice (some ⟨b81, 0, none⟩) 2 2]) (cells_of rfl rfl) parts_nil)))) (v := Value.agg #[Value.int .i64 (2), Value.int .i64 (0), Value.slice (some ⟨b75, 0, none⟩) 2 2, Value.slice (some ⟨b78, 0, none⟩) 2 2, Value.slice (some ⟨b81, 0, none⟩) 2 2]) (fun _ => by kernel_rfl) ?_)
  have hS84 := (hS83).f3
  refine WL_step rfl rfl (Exec.store_box (ds := [Value.int .i64 (2), Value.int .i64 (0), Value.slice (some ⟨b75, 0, none⟩) 2 2, Value.slice (some ⟨b78, 0, none⟩) 2 2, Value.slice (some ⟨b81, 0, none⟩) 2 2]) (es := [Value.int .i64 (2), Value.int .i64 (0), Value.slice (some ⟨b75, 0, none⟩) 2 2, Value.slice (some ⟨b78, 0, none⟩) 2 2, Value.slice (some ⟨b81, 0, none⟩) 2 2]) hS84 A26 rfl rfl rfl rfl (one_cons rfl (one_cons rfl (one_cons rfl (one_cons rfl (one_cons rfl one_nil))))) (Nat.le_of_ble_eq_true rfl) rfl ?_)
  intro w85 hS86
  refine WL_nil (at_normal ?_)
  refine W_ret ?_
  have e88 := Option.some.inj hm
  subst r
  refine ⟨_, retG1 rfl ⟨_, _, rfl, cellRes (hS86) A26⟩, ?_⟩
  have hS89 := (hS86).f3
  have hS90 := St.boxArr (E := (encInt .i64)) (xs := [2, 0]) hS89 ⟨[Value.int .i64 (2)], [Value.int .i64 (0)], rfl, rfl, ⟨[Value.int .i64 (0)], [], rfl, rfl, rfl⟩⟩ (by simp [maxLen])
  obtain ⟨s91, l92, hS93, r94⟩ := hS90.freezeArr
  have hS95 := (hS93).f2
  have hS96 := St.boxArr (E := encEdge) (xs := [(⟨0, 0, 1⟩ : Edge), (⟨1, 1, 1⟩ : Edge)]) hS95 ⟨[Value.int .i64 (0), Value.int .i64 (0), Value.int .i64 (1)], [Value.int .i64 (1), Value.int .i64 (1), Value.int .i64 (1)], rfl, ⟨[Value.int .i64 (0)], [Value.int .i64 (0), Value.int .i64 (1)], rfl, rfl, ⟨[Value.int .i64 (0)], [Value.int .i64 (1)], rfl, rfl, rfl⟩⟩, ⟨[Value.int .i64 (1), Value.int .i64 (1), Value.int .i64 (1)], [], rfl, ⟨[Value.int .i64 (1)], [Value.int .i64 (1), Value.int .i64 (1)], rfl, rfl, ⟨[Value.int .i64 (1)], [Value.int .i64 (1)], rfl, rfl, rfl⟩⟩, rfl⟩⟩ (by simp [maxLen])
  obtain ⟨s97, l98, hS99, r100⟩ := hS96.freezeArr
  have hS101 := (hS99).f1
  have hS102 := St.boxArr (E := encBool) (xs := [false, true]) hS101 ⟨[Value.bool (false)], [Value.bool (true)], rfl, rfl, ⟨[Value.bool (true)], [], rfl, rfl, rfl⟩⟩ (by simp [maxLen])
  obtain ⟨s103, l104, hS105, r106⟩ := hS102.freezeArr
  have hS107 := (hS105).drop
  exact ⟨s103, (Value.slice (some ⟨b75, 0, none⟩) 2 2), (Value.slice (some ⟨b78, 0, none⟩) 2 2), (Value.slice (some ⟨b81, 0, none⟩) 2 2), (PHeap.le.trans (PHeap.le.trans l92 l98) l104), hS107, rfl, (r94.mono (PHeap.le.trans l98 l104)), (r100.mono l104), r106⟩

theorem F26_0 : tyField Try.prog 26 0 = some 0 := by kernel_rfl

theorem A3 : tyAgg Try.prog 3 = some (false, 1) := by kernel_rfl

theorem F26_1 : tyField Try.prog 26 1 = some 1 := by kernel_rfl

theorem F26_4 : tyField Try.prog 26 4 = some 4 := by kernel_rfl

theorem A24 : tyAgg Try.prog 24 = some (false, 1) := by kernel_rfl

theorem S24 : tySlice Try.prog 24 = some (4, 1, 1) := by kernel_rfl

theorem F26_2 : tyField Try.prog 26 2 = some 2 := by kernel_rfl

theorem A22 : tyAgg Try.prog 22 = some (false, 1) := by kernel_rfl

theorem S22 : tySlice Try.prog 22 = some (3, 1, 8) := by kernel_rfl

theorem F26_3 : tyField Try.prog 26 3 = some 3 := by kernel_rfl

theorem A23 : tyAgg Try.prog 23 = some (false, 1) := by kernel_rfl

theorem S23 : tySlice Try.prog 23 = some (66, 3, 24) := by kernel_rfl

theorem A66 : tyAgg Try.prog 66 = some (true, 3) := by kernel_rfl

theorem Z66 : tyZero Try.prog 66 = some (Value.agg #[Value.int .i64 (0), Value.int .i64 (0), Value.int .i64 (0)]) := by kernel_rfl

theorem hmix : Try.prog.follows .mixedOrders = true := by kernel_rfl

theorem F66_0 : tyField Try.prog 66 0 = some 0 := by kernel_rfl

theorem F66_2 : tyField Try.prog 66 2 = some 2 := by kernel_rfl

theorem F66_1 : tyField Try.prog 66 1 = some 1 := by kernel_rfl

theorem N75 : (Try.f75.name == "runtime.NumGoroutine") = false := by kernel_rfl

theorem cmp_isNaN_int__sim {w0 w : World} {s : PHeap} {H : List Res} {x391 : Int}  {r : Bool} (hm : cmp_isNaN_int__p x391 = some r) (hS : St w0 s (H) w)  :
    Calls Try.prog 75 #[Value.int .i64 (x391)] w fun e w' => ∃ v, e = .returned v ∧ ((fun (y393 : Bool) => ∃ (s394 : PHeap) , PHeap.le s s394 ∧ St w0 s394 (H) w' ∧ v = Value.bool (y393)) r) := by
  unfold cmp_isNaN_int__p at hm
  refine calls_of_W Try.func75 rfl rfl ?_
  refine W_seq ?_
  refine W_region ?_
  refine WL_step rfl rfl (Exec.assign (v := Value.bool (false)) rfl rfl ?_)
  refine WL_nil (at_normal ?_)
  refine W_seq ?_
  refine W_region ?_
  refine WL_step rfl rfl (Exec.move (v := Value.int .i64 (x391)) rfl rfl ?_)
  refine WL_step rfl rfl (Exec.move (v := Value.int .i64 (x391)) rfl rfl ?_)
  refine WL_step rfl rfl (Exec.neq rfl rfl rfl ?_)
  refine WL_step rfl rfl (Exec.assign (v := Value.bool (!decide (x391 = x391))) rfl rfl ?_)
  refine WL_nil (at_normal ?_)
  refine W_ret ?_
  have e396 := Option.some.inj hm
  subst r
  refine ⟨_, ret1 rfl, ?_⟩
  exact ⟨s, (PHeap.le_refl _), hS, rfl⟩

theorem N56 : (Try.f56.name == "runtime.NumGoroutine") = false := by kernel_rfl

theorem cmp_Compare_int__sim {w0 w : World} {s : PHeap} {H : List Res} {x389 : Int} {y390 : Int}  {r : Int} (hm : cmp_Compare_int__p x389 y390 = some r) (hS : St w0 s (H) w)  :
    Calls Try.prog 56 #[Value.int .i64 (x389), Value.int .i64 (y390)] w fun e w' => ∃ v, e = .returned v ∧ ((fun (y419 : Int) => ∃ (s420 : PHeap) , PHeap.le s s420 ∧ St w0 s420 (H) w' ∧ v = Value.int .i64 (y419)) r) := by
  unfold cmp_Compare_int__p at hm
  refine calls_of_W Try.func56 rfl rfl ?_
  refine W_seq ?_
  refine W_region ?_
  refine WL_step rfl rfl (Exec.assign (v := Value.int .i64 (0)) rfl rfl ?_)
  refine WL_nil (at_normal ?_)
  refine W_seq ?_
  refine W_region ?_
  refine WL_step rfl rfl (Exec.move (v := Value.int .i64 (x389)) rfl rfl ?_)
  refine WL_step rfl rfl (Exec.call rfl rfl Try.func75 rfl N75 (args_cons rfl args_nil) ((cmp_isNaN_int__sim (cmp_isNaN_int__tot x389) hS ).mono ?_))
  rintro _ w425 ⟨_, rfl, ⟨s426, l427, hS428, rfl⟩⟩
  refine ⟨_, rfl, ?_⟩
  refine WL_step rfl rfl (Exec.assign (v := Value.bool ((cmp_isNaN_int__t x389))) rfl rfl ?_)
  refine WL_nil (at_normal ?_)
  refine W_seq ?_
  refine W_region ?_
  refine WL_step rfl rfl (Exec.move (v := Value.int .i64 (y390)) rfl rfl ?_)
  refine WL_step rfl rfl (Exec.call rfl rfl Try.func75 rfl N75 (args_cons rfl args_nil) ((cmp_isNaN_int__sim (cmp_isNaN_int__tot y390) hS428 ).mono ?_))
  rintro _ w433 ⟨_, rfl, ⟨s434, l435, hS436, rfl⟩⟩
  refine ⟨_, rfl, ?_⟩
  refine WL_step rfl rfl (Exec.assign (v := Value.bool ((cmp_isNaN_int__t y390))) rfl rfl ?_)
  refine WL_nil (at_normal ?_)
  refine W_seq ?_
  refine W_seq ?_
  refine W_region ?_
  refine WL_step rfl rfl (Exec.move (v := Value.bool ((cmp_isNaN_int__t x389))) rfl rfl ?_)
  refine WL_nil (at_normal ?_)
  rcases ite_some hm with ⟨hc437, hm⟩ | ⟨hc437, hm⟩
  · refine W_cond_t rfl hc437 ?_
    refine W_seq ?_
    refine W_seq ?_
    refine W_region ?_
    refine WL_step rfl rfl (Exec.move (v := Value.bool ((cmp_isNaN_int__t y390))) rfl rfl ?_)
    refine WL_nil (at_normal ?_)
    rcases ite_some hm with ⟨hc438, hm⟩ | ⟨hc438, hm⟩
    · refine W_cond_t rfl hc438 ?_
      refine W_seq ?_
      refine W_region ?_
      refine WL_step rfl rfl (Exec.assign (v := Value.int .i64 (0)) rfl rfl ?_)
      refine WL_nil (at_normal ?_)
      refine W_ret (at_ret (at_ret ?_))
      have e440 := Option.some.inj hm
      subst r
      refine ⟨_, ret1 rfl, ?_⟩
      exact ⟨s434, (PHeap.le.trans l427 l435), hS436, rfl⟩
    · refine W_cond_f rfl hc438 ?_
      replace hc438 := not_true hc438
      refine W_skip (at_normal ?_)
      refine W_seq ?_
      refine W_region ?_
      refine WL_step rfl rfl (Exec.assign (v := Value.int .i64 ((-1))) rfl rfl ?_)
      refine WL_nil (at_normal ?_)
      refine W_ret (at_ret ?_)
      have e442 := Option.some.inj hm
      subst r
      refine ⟨_, ret1 rfl, ?_⟩
      exact ⟨s434, (PHeap.le.trans l427 l435), hS436, rfl⟩
  · refine W_cond_f rfl hc437 ?_
    replace hc437 := not_true hc437
    refine W_skip (at_normal ?_)
    refine W_seq ?_
    refine W_seq ?_
    refine W_region ?_
    refine WL_step rfl rfl (Exec.move (v := Value.bool ((cmp_isNaN_int__t y390))) rfl rfl ?_)
    refine WL_nil (at_normal ?_)
    rcases ite_some hm with ⟨hc443, hm⟩ | ⟨hc443, hm⟩
    · refine W_cond_t rfl hc443 ?_
      refine W_seq ?_
      refine W_region ?_
      refine WL_step rfl rfl (Exec.assign (v := Value.int .i64 (1)) rfl rfl ?_)
      refine WL_nil (at_normal ?_)
      refine W_ret (at_ret ?_)
      have e445 := Option.some.inj hm
      subst r
      refine ⟨_, ret1 rfl, ?_⟩
      exact ⟨s434, (PHeap.le.trans l427 l435), hS436, rfl⟩
    · refine W_cond_f rfl hc443 ?_
      replace hc443 := not_true hc443
      refine W_skip (at_normal ?_)
      refine W_seq ?_
      refine W_seq ?_
      refine W_region ?_
      refine WL_step rfl rfl (Exec.move (v := Value.int .i64 (x389)) rfl rfl ?_)
      refine WL_step rfl rfl (Exec.move (v := Value.int .i64 (y390)) rfl rfl ?_)
      refine WL_step rfl rfl (Exec.lss rfl rfl rfl ?_)
      refine WL_nil (at_normal ?_)
      rcases ite_some hm with ⟨hc446, hm⟩ | ⟨hc446, hm⟩
      · refine W_cond_t rfl hc446 ?_
        refine W_seq ?_
        refine W_region ?_
        refine WL_step rfl rfl (Exec.assign (v := Value.int .i64 ((-1))) rfl rfl ?_)
        refine WL_nil (at_normal ?_)
        refine W_ret (at_ret ?_)
        have e448 := Option.some.inj hm
        subst r
        refine ⟨_, ret1 rfl, ?_⟩
        exact ⟨s434, (PHeap.le.trans l427 l435), hS436, rfl⟩
      · refine W_cond_f rfl hc446 ?_
        replace hc446 := not_true hc446
        refine W_skip (at_normal ?_)
        refine W_seq ?_
        refine W_seq ?_
        refine W_region ?_
        refine WL_step rfl rfl (Exec.move (v := Value.int .i64 (x389)) rfl rfl ?_)
        refine WL_step rfl rfl (Exec.move (v := Value.int .i64 (y390)) rfl rfl ?_)
        refine WL_step rfl rfl (Exec.gtr rfl rfl rfl ?_)
        refine WL_nil (at_normal ?_)
        rcases ite_some hm with ⟨hc449, hm⟩ | ⟨hc449, hm⟩
        · refine W_cond_t rfl hc449 ?_
          refine W_seq ?_
          refine W_region ?_
          refine WL_step rfl rfl (Exec.assign (v := Value.int .i64 (1)) rfl rfl ?_)
          refine WL_nil (at_normal ?_)
          refine W_ret (at_ret ?_)
          have e451 := Option.some.inj hm
          subst r
          refine ⟨_, ret1 rfl, ?_⟩
          exact ⟨s434, (PHeap.le.trans l427 l435), hS436, rfl⟩
        · refine W_cond_f rfl hc449 ?_
          replace hc449 := not_true hc449
          refine W_skip (at_normal ?_)
          refine W_seq ?_
          refine W_region ?_
          refine WL_step rfl rfl (Exec.assign (v := Value.int .i64 (0)) rfl rfl ?_)
          refine WL_nil (at_normal ?_)
          refine W_ret ?_
          have e453 := Option.some.inj hm
          subst r
          refine ⟨_, ret1 rfl, ?_⟩
          exact ⟨s434, (PHeap.le.trans l427 l435), hS436, rfl⟩

theorem N55 : (Try.f55.name == "runtime.NumGoroutine") = false := by kernel_rfl

theorem cmp_Or_int__sim {w0 w : World} {s : PHeap} {H : List Res} {vals474 : (List Int)} {v475 : Value} {r : Int} (hm : cmp_Or_int__p vals474 = some r) (hS : St w0 s (H) w) (a476 : SliceRep (encInt .i64) s v475 vals474) :
    Calls Try.prog 55 #[v475] w fun e w' => ∃ v, e = .returned v ∧ ((fun (y573 : Int) => ∃ (s574 : PHeap) , PHeap.le s s574 ∧ St w0 s574 (H) w' ∧ v = Value.int .i64 (y573)) r) := by
  unfold cmp_Or_int__p at hm
  refine calls_of_W Try.func55 rfl rfl ?_
  refine W_seq ?_
  refine W_region ?_
  refine WL_step rfl rfl (Exec.assign (v := Value.int .i64 (0)) rfl rfl ?_)
  refine WL_nil (at_normal ?_)
  refine W_seq ?_
  refine W_region ?_
  refine WL_step rfl rfl (Exec.assign (v := Value.int .i64 (0)) rfl rfl ?_)
  refine WL_nil (at_normal ?_)
  refine W_seq ?_
  refine W_seq ?_
  refine W_region ?_
  refine WL_step rfl rfl (Exec.move (v := v475) rfl rfl ?_)
  refine WL_step rfl rfl (Exec.len_rep S22 rfl rfl a476 ?_)
  refine WL_step rfl rfl (Exec.move (v := Value.int .i64 (0)) rfl rfl ?_)
  refine WL_nil (at_normal ?_)
  obtain ⟨c608, hB609, hr610, hn611, hb612⟩ := ctl_some hm
  refine W_mid (M := fun f' w' => ∃ s', (c608 = .next s' ∨ c608 = .brk s') ∧ (fun (_ : Unit) => ∃ (s614 : PHeap) , PHeap.le s s614 ∧ St w0 s614 (H) w' ∧ f' 3 = Value.int .i64 (0) ∧ f' 6 = v475 ∧ f' 7 = Value.int .i64 ((vals474.length : Int))) s') ?_ ?_
  · refine W_block (W_forC (fun k' s' f' w' => (fun (_ : Unit) => ∃ (s613 : PHeap) , PHeap.le s s613 ∧ St w0 s613 (H) w' ∧ f' 3 = Value.int .i64 (0) ∧ f' 6 = v475 ∧ f' 7 = Value.int .i64 ((vals474.length : Int)) ∧ f' 8 = Value.int .i64 (k' : Int)) s') hB609 ?_ ?_ ?_)
    · exact ⟨s, (PHeap.le_refl _), hS, rfl, rfl, rfl, rfl⟩
    · intro i575 t622 c616 f617 w618 hi623 hI619 hm620 hres621
      obtain ⟨s624, l625, hS626, p627, p628, p629, x630⟩ := hI619
      refine W_seq ?_
      refine W_region ?_
      refine WL_step rfl rfl (Exec.lss rfl x630 p629 ?_)
      refine WL_nil (at_normal ?_)
      refine W_seq ?_
      refine W_true (congrArg Value.bool (decide_eq_true (by omega))) ?_
      refine W_skip (at_normal ?_)
      refine W_seq ?_
      refine W_block ?_
      refine W_seq ?_
      refine W_region ?_
      obtain ⟨x638, q639, hm620⟩ := bind_some hm620
      refine WL_step rfl rfl (Exec.index_rep S22 rfl p628 x630 (a476.mono l625) q639 ?_)
      intro b640 o641 a642
      refine WL_step rfl rfl (Exec.load_at (E := (encInt .i64)) hS626 A3 rfl rfl rfl a642 ?_)
      intro v643 q644
      obtain rfl := encInt_val.1 q644
      refine WL_step rfl rfl (Exec.assign (v := Value.int .i64 (x638)) rfl rfl ?_)
      refine WL_nil (at_normal ?_)
      refine W_seq ?_
      refine W_region ?_
      refine WL_step rfl rfl (Exec.move (v := Value.int .i64 (x638)) rfl rfl ?_)
      refine WL_step rfl rfl (Exec.move (v := Value.int .i64 (0)) rfl p627 ?_)
      refine WL_step rfl rfl (Exec.neq rfl rfl rfl ?_)
      refine WL_nil (at_normal ?_)
      rcases ite_some hm620 with ⟨hc645, hm620⟩ | ⟨hc645, hm620⟩
      · refine W_cond_t rfl hc645 ?_
        refine W_seq ?_
        refine W_region ?_
        refine WL_step rfl rfl (Exec.move (v := Value.int .i64 (x638)) rfl rfl ?_)
        refine WL_step rfl rfl (Exec.assign (v := Value.int .i64 (x638)) rfl rfl ?_)
        refine WL_nil (at_normal ?_)
        refine W_ret (ib_ret (at_ret (at_ret (ib_ret (at_ret (at_ret ?_))))))
        have e646 := Option.some.inj hm620
        subst c616
        have hq647 := hr610 _ (hres621 (by intro _ h; cases h))
        have e648 := Option.some.inj hq647
        subst r
        refine ⟨_, ret1 rfl, ?_⟩
        exact ⟨s624, l625, hS626, rfl⟩
      · refine W_cond_f rfl hc645 ?_
        replace hc645 := not_true hc645
        refine W_skip (ib_normal (at_normal ?_))
        refine W_region ?_
        refine WL_step rfl rfl (Exec.add rfl x630 rfl ?_)
        refine WL_step rfl rfl (Exec.move (v := Value.int .i64 (IntKind.i64.wrap ((i575 : Int) + 1))) rfl rfl ?_)
        refine WL_nil (at_normal ?_)
        have e649 := Option.some.inj hm620
        subst c616
        refine ⟨_, rfl, ?_⟩; exact ⟨s624, l625, hS626, p627, p628, p629, (Eq.trans rfl (wrap_up hi623 (SliceRep.le a476)))⟩
    · intro t650 f651 w652 hI653 hres654
      obtain ⟨s655, l656, hS657, p658, p659, p660, x661⟩ := hI653
      refine W_seq ?_
      refine W_region ?_
      refine WL_step rfl rfl (Exec.lss rfl x661 p660 ?_)
      refine WL_nil (at_normal ?_)
      refine W_seq ?_
      refine W_false (congrArg Value.bool (decide_eq_false (by omega))) ?_
      refine W_exit (at_exit (at_exit (ib_here (at_normal ?_))))
      refine ⟨_, .inl hres654, ?_⟩; exact ⟨s655, l656, hS657, p658, p659, p660⟩
  · rintro f662 w663 ⟨t664, hc665, hM666⟩
    have hm := hc665.elim (hn611 _) (hb612 _)
    clear hc665
    obtain ⟨s667, l668, hS669, p670, p671, p672⟩ := hM666
    refine (at_normal ?_)
    refine W_seq ?_
    refine W_region ?_
    refine WL_step rfl rfl (Exec.move (v := Value.int .i64 (0)) rfl p670 ?_)
    refine WL_step rfl rfl (Exec.assign (v := Value.int .i64 (0)) rfl rfl ?_)
    refine WL_nil (at_normal ?_)
    refine W_ret ?_
    have e674 := Option.some.inj hm
    subst r
    refine ⟨_, ret1 rfl, ?_⟩
    exact ⟨s667, l668, hS669, rfl⟩

theorem N39 : (Try.f39.name == "runtime.NumGoroutine") = false := by kernel_rfl

theorem transys_compare_sim {w0 w : World} {s : PHeap} {H : List Res} {a374 : Edge} {b375 : Edge}  {r : Int} (hm : transys_compare_p a374 b375 = some r) (hS : St w0 s (H) w)  :
    Calls Try.prog 39 #[Value.agg #[Value.int .i64 (a374.From), Value.int .i64 (a374.Label), Value.int .i64 (a374.To)], Value.agg #[Value.int .i64 (b375.From), Value.int .i64 (b375.Label), Value.int .i64 (b375.To)]] w fun e w' => ∃ v, e = .returned v ∧ ((fun (y767 : Int) => ∃ (s768 : PHeap) , PHeap.le s s768 ∧ St w0 s768 (H) w' ∧ v = Value.int .i64 (y767)) r) := by
  unfold transys_compare_p at hm
  refine calls_of_W Try.func39 rfl rfl ?_
  refine W_seq ?_
  refine W_region ?_
  refine WL_step rfl rfl (Exec.box (cs := [Value.int .i64 (a374.From), Value.int .i64 (a374.Label), Value.int .i64 (a374.To)]) hS rfl rfl rfl ?_)
  intro b775 w776 hS777
  refine WL_step rfl rfl (Exec.box (cs := [Value.int .i64 (b375.From), Value.int .i64 (b375.Label), Value.int .i64 (b375.To)]) hS777 rfl rfl rfl ?_)
  intro b778 w779 hS780
  refine WL_step rfl rfl (Exec.assign (v := Value.int .i64 (0)) rfl rfl ?_)
  refine WL_nil (at_normal ?_)
  refine W_seq ?_
  refine W_dl (n0 := 17) (.q 0 (.q 1 (.q 2 (.q 3 (.q 5 (.q 6 (.q 7 (.q 8 (.q 10 (.q 11 (.q 12 (.q 13 (.e 4 [5, 6, 7, 8, 10, 11, 12, 13] (.e 9 [10, 11, 12, 13] (.e 14 [] (.e 15 [] (.e 16 [] .done))))))))))))))))) hmix (by kernel_rfl) (by kernel_rfl) ?_
  have hS865 := hS780.drew
  refine DL_q rfl rfl (Exec.field F66_0 rfl rfl rfl ⟨rfl, ?_⟩)
  refine DL_q rfl rfl (Exec.load_box ((hS865).f1) A3 rfl rfl rfl ⟨rfl, ?_⟩)
  refine DL_q rfl rfl (Exec.field F66_0 rfl rfl rfl ⟨rfl, ?_⟩)
  refine DL_q rfl rfl (Exec.load_box (hS865) A3 rfl rfl rfl ⟨rfl, ?_⟩)
  refine DL_q rfl rfl (Exec.field F66_1 rfl rfl rfl ⟨rfl, ?_⟩)
  refine DL_q rfl rfl (Exec.load_box ((hS865).f1) A3 rfl rfl rfl ⟨rfl, ?_⟩)
  refine DL_q rfl rfl (Exec.field F66_1 rfl rfl rfl ⟨rfl, ?_⟩)
  refine DL_q rfl rfl (Exec.load_box (hS865) A3 rfl rfl rfl ⟨rfl, ?_⟩)
  refine DL_q rfl rfl (Exec.field F66_2 rfl rfl rfl ⟨rfl, ?_⟩)
  refine DL_q rfl rfl (Exec.load_box ((hS865).f1) A3 rfl rfl rfl ⟨rfl, ?_⟩)
  refine DL_q rfl rfl (Exec.field F66_2 rfl rfl rfl ⟨rfl, ?_⟩)
  refine DL_q rfl rfl (Exec.load_box (hS865) A3 rfl rfl rfl ⟨rfl, ?_⟩)
  refine DL_e rfl rfl (Exec.call rfl rfl Try.func56 rfl N56 (args_cons rfl (args_cons rfl args_nil)) ((cmp_Compare_int__sim (cmp_Compare_int__tot a374.From b375.From) hS865 ).mono ?_))
  rintro _ w866 ⟨_, rfl, ⟨s867, l868, hS869, rfl⟩⟩
  refine ⟨_, rfl, ?_⟩
  refine ⟨(ag_cons (ag_r rfl rfl (Exec.field F66_1 rfl rfl rfl ⟨rfl, rfl⟩)) (ag_cons (ag_r rfl rfl (Exec.load_box ((hS869).f1) A3 rfl rfl rfl ⟨rfl, rfl⟩)) (ag_cons (ag_r rfl rfl (Exec.field F66_1 rfl rfl rfl ⟨rfl, rfl⟩)) (ag_cons (ag_r rfl rfl (Exec.load_box (hS869) A3 rfl rfl rfl ⟨rfl, rfl⟩)) (ag_cons (ag_r rfl rfl (Exec.field F66_2 rfl rfl rfl ⟨rfl, rfl⟩)) (ag_cons (ag_r rfl rfl (Exec.load_box ((hS869).f1) A3 rfl rfl rfl ⟨rfl, rfl⟩)) (ag_cons (ag_r rfl rfl (Exec.field F66_2 rfl rfl rfl ⟨rfl, rfl⟩)) (ag_cons (ag_r rfl rfl (Exec.load_box (hS869) A3 rfl rfl rfl ⟨rfl, rfl⟩)) ag_nil)))))))), ?_⟩
  refine DL_e rfl rfl (Exec.call rfl rfl Try.func56 rfl N56 (args_cons rfl (args_cons rfl args_nil)) ((cmp_Compare_int__sim (cmp_Compare_int__tot a374.Label b375.Label) hS869 ).mono ?_))
  rintro _ w870 ⟨_, rfl, ⟨s871, l872, hS873, rfl⟩⟩
  refine ⟨_, rfl, ?_⟩
  refine ⟨(ag_cons (ag_r rfl rfl (Exec.field F66_2 rfl rfl rfl ⟨rfl, rfl⟩)) (ag_cons (ag_r rfl rfl (Exec.load_box ((hS873).f1) A3 rfl rfl rfl ⟨rfl, rfl⟩)) (ag_cons (ag_r rfl rfl (Exec.field F66_2 rfl rfl rfl ⟨rfl, rfl⟩)) (ag_cons (ag_r rfl rfl (Exec.load_box (hS873) A3 rfl rfl rfl ⟨rfl, rfl⟩)) ag_nil)))), ?_⟩
  refine DL_e rfl rfl (Exec.call rfl rfl Try.func56 rfl N56 (args_cons rfl (args_cons rfl args_nil)) ((cmp_Compare_int__sim (cmp_Compare_int__tot a374.To b375.To) hS873 ).mono ?_))
  rintro _ w874 ⟨_, rfl, ⟨s875, l876, hS877, rfl⟩⟩
  refine ⟨_, rfl, ?_⟩
  refine ⟨ag_nil, ?_⟩
  refine DL_e rfl rfl (Exec.buildSlice (Te := 3) (cs := [Value.int .i64 ((cmp_Compare_int__t a374.From b375.From)), Value.int .i64 ((cmp_Compare_int__t a374.Label b375.Label)), Value.int .i64 ((cmp_Compare_int__t a374.To b375.To))]) hS877 rfl (parts_cons (c := [Value.int .i64 ((cmp_Compare_int__t a374.From b375.From))]) (cells_of rfl rfl) (parts_cons (c := [Value.int .i64 ((cmp_Compare_int__t a374.Label b375.Label))]) (cells_of rfl rfl) (parts_cons (c := [Value.int .i64 ((cmp_Compare_int__t a374.To b375.To))]) (cells_of rfl rfl) parts_nil))) (fun _ => by kernel_rfl) ?_)
  intro b878 w879 hS880
  refine ⟨ag_nil, ?_⟩
  have hS881 := St.boxArr (E := (encInt .i64)) (xs := [(cmp_Compare_int__t a374.From b375.From), (cmp_Compare_int__t a374.Label b375.Label), (cmp_Compare_int__t a374.To b375.To)]) hS880 ⟨[Value.int .i64 ((cmp_Compare_int__t a374.From b375.From))], [Value.int .i64 ((cmp_Compare_int__t a374.Label b375.Label)), Value.int .i64 ((cmp_Compare_int__t a374.To b375.To))], rfl, rfl, ⟨[Value.int .i64 ((cmp_Compare_int__t a374.Label b375.Label))], [Value.int .i64 ((cmp_Compare_int__t a374.To b375.To))], rfl, rfl, ⟨[Value.int .i64 ((cmp_Compare_int__t a374.To b375.To))], [], rfl, rfl, rfl⟩⟩⟩ (by simp [maxLen])
  obtain ⟨s882, l883, hS884, r885⟩ := hS881.freezeArr
  obtain ⟨y888, q887, hm⟩ := bind_some hm
  refine DL_e rfl rfl (Exec.call rfl rfl Try.func55 rfl N55 (args_cons rfl args_nil) ((cmp_Or_int__sim q887 hS884 r885).mono ?_))
  rintro _ w889 ⟨_, rfl, ⟨s890, l891, hS892, rfl⟩⟩
  refine ⟨_, rfl, ?_⟩
  refine ⟨ag_nil, ?_⟩
  refine DL_done ?_
  refine WL_step rfl rfl (Exec.assign (v := Value.int .i64 (y888)) rfl rfl ?_)
  refine WL_nil (at_normal ?_)
  refine W_ret ?_
  have e894 := Option.some.inj hm
  subst r
  refine ⟨_, ret1 rfl, ?_⟩
  have hS895 := (hS892).drop
  have hS896 := (hS895).drop
  exact ⟨s890, (PHeap.le.trans (PHeap.le.trans (PHeap.le.trans (PHeap.le.trans l868 l872) l876) l883) l891), hS896, rfl⟩

theorem N25 : (Try.f25.name == "runtime.NumGoroutine") = false := by kernel_rfl

theorem transys_Valid_sim {w0 w : World} {s : PHeap} {H : List Res} {x160 : System} {v161 : Value} {v163 : Value} {v165 : Value} {r : Bool} (hm : transys_Valid_p x160 = some r) (hS : St w0 s (H) w) (a162 : SliceRep (encInt .i64) s v161 x160.Costs) (a164 : SliceRep encEdge s v163 x160.Edges) (a166 : SliceRep encBool s v165 x160.Goals) :
    Calls Try.prog 25 #[Value.agg #[Value.int .i64 (x160.States), Value.int .i64 (x160.Init), v161, v163, v165]] w fun e w' => ∃ v, e = .returned v ∧ ((fun (y1347 : Bool) => ∃ (s1348 : PHeap) , PHeap.le s s1348 ∧ St w0 s1348 (H) w' ∧ v = Value.bool (y1347)) r) := by
  unfold transys_Valid_p at hm
  refine calls_of_W Try.func25 rfl rfl ?_
  refine W_seq ?_
  refine W_region ?_
  refine WL_step rfl rfl (Exec.box (cs := [Value.int .i64 (x160.States), Value.int .i64 (x160.Init), v161, v163, v165]) hS rfl rfl rfl ?_)
  intro b1352 w1353 hS1354
  refine WL_step rfl rfl (Exec.assign (v := Value.bool (false)) rfl rfl ?_)
  refine WL_nil (at_normal ?_)
  refine W_seq ?_
  refine W_seq ?_
  refine W_mid (M := fun f' w' => ∃ (s1361 : PHeap) , PHeap.le s s1361 ∧ St w0 s1361 (Res.box b1352 26 [Value.int .i64 (x160.States), Value.int .i64 (x160.Init), v161, v163, v165] :: H) w' ∧ f' 1 = Value.pointer (some ⟨b1352, 0, none⟩) ∧ f' 46 = Value.bool (((decide (x160.States < 1)) || ((decide (4096 < x160.States)) || ((decide (x160.Init < 0)) || ((decide (x160.States ≤ x160.Init)) || ((!decide ((x160.Goals.length : Int) = x160.States)) || ((decide (4096 < (x160.Costs.length : Int))) || decide (65536 < (x160.Edges.length : Int)))))))))) ?_ ?_
  · refine W_region ?_
    refine WL_step rfl rfl (Exec.field F26_0 rfl rfl rfl ?_)
    refine WL_step rfl rfl (Exec.load_box (hS1354) A3 rfl rfl rfl ?_)
    refine WL_step rfl rfl (Exec.lss rfl rfl rfl ?_)
    refine WL_step rfl rfl (Exec.move (v := Value.bool (decide (x160.States < 1))) rfl rfl ?_)
    by_cases hc1362 : (decide (x160.States < 1)) = true
    · refine WL_pass rfl (yield_of rfl (congrArg Value.bool hc1362)) rfl rfl ?_
      refine WL_pass rfl (yield_of rfl (congrArg Value.bool hc1362)) rfl rfl ?_
      refine WL_pass rfl (yield_of rfl (congrArg Value.bool hc1362)) rfl rfl ?_
      refine WL_step rfl rfl (Exec.pick_t (v := Value.bool (true)) rfl (congrArg Value.bool hc1362) rfl ?_)
      refine WL_step rfl rfl (Exec.move (v := Value.bool (true)) rfl rfl ?_)
      refine WL_pass rfl (yield_of rfl rfl) rfl rfl ?_
      refine WL_pass rfl (yield_of rfl rfl) rfl rfl ?_
      refine WL_pass rfl (yield_of rfl rfl) rfl rfl ?_
      refine WL_step rfl rfl (Exec.pick_t (v := Value.bool (true)) rfl rfl rfl ?_)
      refine WL_step rfl rfl (Exec.move (v := Value.bool (true)) rfl rfl ?_)
      refine WL_pass rfl (yield_of rfl rfl) rfl rfl ?_
      refine WL_pass rfl (yield_of rfl rfl) rfl rfl ?_
      refine WL_pass rfl (yield_of rfl rfl) rfl rfl ?_
      refine WL_pass rfl (yield_of rfl rfl) rfl rfl ?_
      refine WL_pass rfl (yield_of rfl rfl) rfl rfl ?_
      refine WL_step rfl rfl (Exec.pick_t (v := Value.bool (true)) rfl rfl rfl ?_)
      refine WL_step rfl rfl (Exec.move (v := Value.bool (true)) rfl rfl ?_)
      refine WL_pass rfl (yield_of rfl rfl) rfl rfl ?_
      refine WL_pass rfl (yield_of rfl rfl) rfl rfl ?_
      refine WL_pass rfl (yield_of rfl rfl) rfl rfl ?_
      refine WL_pass rfl (yield_of rfl rfl) rfl rfl ?_
      refine WL_pass rfl (yield_of rfl rfl) rfl rfl ?_
      refine WL_pass rfl (yield_of rfl rfl) rfl rfl ?_
      refine WL_step rfl rfl (Exec.pick_t (v := Value.bool (true)) rfl rfl rfl ?_)
      refine WL_step rfl rfl (Exec.move (v := Value.bool (true)) rfl rfl ?_)
      refine WL_pass rfl (yield_of rfl rfl) rfl rfl ?_
      refine WL_pass rfl (yield_of rfl rfl) rfl rfl ?_
      refine WL_pass rfl (yield_of rfl rfl) rfl rfl ?_
      refine WL_pass rfl (yield_of rfl rfl) rfl rfl ?_
      refine WL_step rfl rfl (Exec.pick_t (v := Value.bool (true)) rfl rfl rfl ?_)
      refine WL_step rfl rfl (Exec.move (v := Value.bool (true)) rfl rfl ?_)
      refine WL_pass rfl (yield_of rfl rfl) rfl rfl ?_
      refine WL_pass rfl (yield_of rfl rfl) rfl rfl ?_
      refine WL_pass rfl (yield_of rfl rfl) rfl rfl ?_
      refine WL_pass rfl (yield_of rfl rfl) rfl rfl ?_
      refine WL_step rfl rfl (Exec.pick_t (v := Value.bool (true)) rfl rfl rfl ?_)
      refine WL_nil (at_normal ?_)
      exact ⟨s, (PHeap.le_refl _), hS1354, rfl, (congrArg Value.bool (or_t hc1362)).symm⟩
    · replace hc1362 := not_true hc1362
      refine WL_run rfl (yield_of rfl (congrArg Value.bool hc1362)) rfl (Exec.field F26_0 rfl rfl rfl ?_)
      refine WL_run rfl (yield_of rfl (congrArg Value.bool hc1362)) rfl (Exec.load_box (hS1354) A3 rfl rfl rfl ?_)
      refine WL_run rfl (yield_of rfl (congrArg Value.bool hc1362)) rfl (Exec.gtr rfl rfl rfl ?_)
      refine WL_step rfl rfl (Exec.pick_f (v := Value.bool (decide (4096 < x160.States))) rfl (congrArg Value.bool hc1362) rfl ?_)
      refine WL_step rfl rfl (Exec.move (v := Value.bool (decide (4096 < x160.States))) rfl rfl ?_)
      by_cases hc1363 : (decide (4096 < x160.States)) = true
      · refine WL_pass rfl (yield_of rfl (congrArg Value.bool hc1363)) rfl rfl ?_
        refine WL_pass rfl (yield_of rfl (congrArg Value.bool hc1363)) rfl rfl ?_
        refine WL_pass rfl (yield_of rfl (congrArg Value.bool hc1363)) rfl rfl ?_
        refine WL_step rfl rfl (Exec.pick_t (v := Value.bool (true)) rfl (congrArg Value.bool hc1363) rfl ?_)
        refine WL_step rfl rfl (Exec.move (v := Value.bool (true)) rfl rfl ?_)
        refine WL_pass rfl (yield_of rfl rfl) rfl rfl ?_
        refine WL_pass rfl (yield_of rfl rfl) rfl rfl ?_
        refine WL_pass rfl (yield_of rfl rfl) rfl rfl ?_
        refine WL_pass rfl (yield_of rfl rfl) rfl rfl ?_
        refine WL_pass rfl (yield_of rfl rfl) rfl rfl ?_
        refine WL_step rfl rfl (Exec.pick_t (v := Value.bool (true)) rfl rfl rfl ?_)
        refine WL_step rfl rfl (Exec.move (v := Value.bool (true)) rfl rfl ?_)
        refine WL_pass rfl (yield_of rfl rfl) rfl rfl ?_
        refine WL_pass rfl (yield_of rfl rfl) rfl rfl ?_
        refine WL_pass rfl (yield_of rfl rfl) rfl rfl ?_
        refine WL_pass rfl (yield_of rfl rfl) rfl rfl ?_
        refine WL_pass rfl (yield_of rfl rfl) rfl rfl ?_
        refine WL_pass rfl (yield_of rfl rfl) rfl rfl ?_
        refine WL_step rfl rfl (Exec.pick_t (v := Value.bool (true)) rfl rfl rfl ?_)
        refine WL_step rfl rfl (Exec.move (v := Value.bool (true)) rfl rfl ?_)
        refine WL_pass rfl (yield_of rfl rfl) rfl rfl ?_
        refine WL_pass rfl (yield_of rfl rfl) rfl rfl ?_
        refine WL_pass rfl (yield_of rfl rfl) rfl rfl ?_
        refine WL_pass rfl (yield_of rfl rfl) rfl rfl ?_
        refine WL_step rfl rfl (Exec.pick_t (v := Value.bool (true)) rfl rfl rfl ?_)
        refine WL_step rfl rfl (Exec.move (v := Value.bool (true)) rfl rfl ?_)
        refine WL_pass rfl (yield_of rfl rfl) rfl rfl ?_
        refine WL_pass rfl (yield_of rfl rfl) rfl rfl ?_
        refine WL_pass rfl (yield_of rfl rfl) rfl rfl ?_
        refine WL_pass rfl (yield_of rfl rfl) rfl rfl ?_
        refine WL_step rfl rfl (Exec.pick_t (v := Value.bool (true)) rfl rfl rfl ?_)
        refine WL_nil (at_normal ?_)
        exact ⟨s, (PHeap.le_refl _), hS1354, rfl, (congrArg Value.bool (Eq.trans (or_f hc1362) (or_t hc1363))).symm⟩
      · replace hc1363 := not_true hc1363
        refine WL_run rfl (yield_of rfl (congrArg Value.bool hc1363)) rfl (Exec.field F26_1 rfl rfl rfl ?_)
        refine WL_run rfl (yield_of rfl (congrArg Value.bool hc1363)) rfl (Exec.load_box (hS1354) A3 rfl rfl rfl ?_)
        refine WL_run rfl (yield_of rfl (congrArg Value.bool hc1363)) rfl (Exec.lss rfl rfl rfl ?_)
        refine WL_step rfl rfl (Exec.pick_f (v := Value.bool (decide (x160.Init < 0))) rfl (congrArg Value.bool hc1363) rfl ?_)
        refine WL_step rfl rfl (Exec.move (v := Value.bool (decide (x160.Init < 0))) rfl rfl ?_)
        by_cases hc1364 : (decide (x160.Init < 0)) = true
        · refine WL_pass rfl (yield_of rfl (congrArg Value.bool hc1364)) rfl rfl ?_
          refine WL_pass rfl (yield_of rfl (congrArg Value.bool hc1364)) rfl rfl ?_
          refine WL_pass rfl (yield_of rfl (congrArg Value.bool hc1364)) rfl rfl ?_
          refine WL_pass rfl (yield_of rfl (congrArg Value.bool hc1364)) rfl rfl ?_
          refine WL_pass rfl (yield_of rfl (congrArg Value.bool hc1364)) rfl rfl ?_
          refine WL_step rfl rfl (Exec.pick_t (v := Value.bool (true)) rfl (congrArg Value.bool hc1364) rfl ?_)
          refine WL_step rfl rfl (Exec.move (v := Value.bool (true)) rfl rfl ?_)
          refine WL_pass rfl (yield_of rfl rfl) rfl rfl ?_
          refine WL_pass rfl (yield_of rfl rfl) rfl rfl ?_
          refine WL_pass rfl (yield_of rfl rfl) rfl rfl ?_
          refine WL_pass rfl (yield_of rfl rfl) rfl rfl ?_
          refine WL_pass rfl (yield_of rfl rfl) rfl rfl ?_
          refine WL_pass rfl (yield_of rfl rfl) rfl rfl ?_
          refine WL_step rfl rfl (Exec.pick_t (v := Value.bool (true)) rfl rfl rfl ?_)
          refine WL_step rfl rfl (Exec.move (v := Value.bool (true)) rfl rfl ?_)
          refine WL_pass rfl (yield_of rfl rfl) rfl rfl ?_
          refine WL_pass rfl (yield_of rfl rfl) rfl rfl ?_
          refine WL_pass rfl (yield_of rfl rfl) rfl rfl ?_
          refine WL_pass rfl (yield_of rfl rfl) rfl rfl ?_
          refine WL_step rfl rfl (Exec.pick_t (v := Value.bool (true)) rfl rfl rfl ?_)
          refine WL_step rfl rfl (Exec.move (v := Value.bool (true)) rfl rfl ?_)
          refine WL_pass rfl (yield_of rfl rfl) rfl rfl ?_
          refine WL_pass rfl (yield_of rfl rfl) rfl rfl ?_
          refine WL_pass rfl (yield_of rfl rfl) rfl rfl ?_
          refine WL_pass rfl (yield_of rfl rfl) rfl rfl ?_
          refine WL_step rfl rfl (Exec.pick_t (v := Value.bool (true)) rfl rfl rfl ?_)
          refine WL_nil (at_normal ?_)
          exact ⟨s, (PHeap.le_refl _), hS1354, rfl, (congrArg Value.bool (Eq.trans (or_f hc1362) (Eq.trans (or_f hc1363) (or_t hc1364)))).symm⟩
        · replace hc1364 := not_true hc1364
          refine WL_run rfl (yield_of rfl (congrArg Value.bool hc1364)) rfl (Exec.field F26_1 rfl rfl rfl ?_)
          refine WL_run rfl (yield_of rfl (congrArg Value.bool hc1364)) rfl (Exec.load_box (hS1354) A3 rfl rfl rfl ?_)
          refine WL_run rfl (yield_of rfl (congrArg Value.bool hc1364)) rfl (Exec.field F26_0 rfl rfl rfl ?_)
          refine WL_run rfl (yield_of rfl (congrArg Value.bool hc1364)) rfl (Exec.load_box (hS1354) A3 rfl rfl rfl ?_)
          refine WL_run rfl (yield_of rfl (congrArg Value.bool hc1364)) rfl (Exec.geq rfl rfl rfl ?_)
          refine WL_step rfl rfl (Exec.pick_f (v := Value.bool (decide (x160.States ≤ x160.Init))) rfl (congrArg Value.bool hc1364) rfl ?_)
          refine WL_step rfl rfl (Exec.move (v := Value.bool (decide (x160.States ≤ x160.Init))) rfl rfl ?_)
          by_cases hc1365 : (decide (x160.States ≤ x160.Init)) = true
          · refine WL_pass rfl (yield_of rfl (congrArg Value.bool hc1365)) rfl rfl ?_
            refine WL_pass rfl (yield_of rfl (congrArg Value.bool hc1365)) rfl rfl ?_
            refine WL_pass rfl (yield_of rfl (congrArg Value.bool hc1365)) rfl rfl ?_
            refine WL_pass rfl (yield_of rfl (congrArg Value.bool hc1365)) rfl rfl ?_
            refine WL_pass rfl (yield_of rfl (congrArg Value.bool hc1365)) rfl rfl ?_
            refine WL_pass rfl (yield_of rfl (congrArg Value.bool hc1365)) rfl rfl ?_
            refine WL_step rfl rfl (Exec.pick_t (v := Value.bool (true)) rfl (congrArg Value.bool hc1365) rfl ?_)
            refine WL_step rfl rfl (Exec.move (v := Value.bool (true)) rfl rfl ?_)
            refine WL_pass rfl (yield_of rfl rfl) rfl rfl ?_
            refine WL_pass rfl (yield_of rfl rfl) rfl rfl ?_
            refine WL_pass rfl (yield_of rfl rfl) rfl rfl ?_
            refine WL_pass rfl (yield_of rfl rfl) rfl rfl ?_
            refine WL_step rfl rfl (Exec.pick_t (v := Value.bool (true)) rfl rfl rfl ?_)
            refine WL_step rfl rfl (Exec.move (v := Value.bool (true)) rfl rfl ?_)
            refine WL_pass rfl (yield_of rfl rfl) rfl rfl ?_
            refine WL_pass rfl (yield_of rfl rfl) rfl rfl ?_
            refine WL_pass rfl (yield_of rfl rfl) rfl rfl ?_
            refine WL_pass rfl (yield_of rfl rfl) rfl rfl ?_
            refine WL_step rfl rfl (Exec.pick_t (v := Value.bool (true)) rfl rfl rfl ?_)
            refine WL_nil (at_normal ?_)
            exact ⟨s, (PHeap.le_refl _), hS1354, rfl, (congrArg Value.bool (Eq.trans (or_f hc1362) (Eq.trans (or_f hc1363) (Eq.trans (or_f hc1364) (or_t hc1365))))).symm⟩
          · replace hc1365 := not_true hc1365
            refine WL_run rfl (yield_of rfl (congrArg Value.bool hc1365)) rfl (Exec.field F26_4 rfl rfl rfl ?_)
            refine WL_run rfl (yield_of rfl (congrArg Value.bool hc1365)) rfl (Exec.load_box (hS1354) A24 rfl rfl rfl ?_)
            refine WL_run rfl (yield_of rfl (congrArg Value.bool hc1365)) rfl (Exec.len_rep S24 rfl rfl a166 ?_)
            refine WL_run rfl (yield_of rfl (congrArg Value.bool hc1365)) rfl (Exec.field F26_0 rfl rfl rfl ?_)
            refine WL_run rfl (yield_of rfl (congrArg Value.bool hc1365)) rfl (Exec.load_box (hS1354) A3 rfl rfl rfl ?_)
            refine WL_run rfl (yield_of rfl (congrArg Value.bool hc1365)) rfl (Exec.neq rfl rfl rfl ?_)
            refine WL_step rfl rfl (Exec.pick_f (v := Value.bool (!decide ((x160.Goals.length : Int) = x160.States))) rfl (congrArg Value.bool hc1365) rfl ?_)
            refine WL_step rfl rfl (Exec.move (v := Value.bool (!decide ((x160.Goals.length : Int) = x160.States))) rfl rfl ?_)
            by_cases hc1366 : (!decide ((x160.Goals.length : Int) = x160.States)) = true
            · refine WL_pass rfl (yield_of rfl (congrArg Value.bool hc1366)) rfl rfl ?_
              refine WL_pass rfl (yield_of rfl (congrArg Value.bool hc1366)) rfl rfl ?_
              refine WL_pass rfl (yield_of rfl (congrArg Value.bool hc1366)) rfl rfl ?_
              refine WL_pass rfl (yield_of rfl (congrArg Value.bool hc1366)) rfl rfl ?_
              refine WL_step rfl rfl (Exec.pick_t (v := Value.bool (true)) rfl (congrArg Value.bool hc1366) rfl ?_)
              refine WL_step rfl rfl (Exec.move (v := Value.bool (true)) rfl rfl ?_)
              refine WL_pass rfl (yield_of rfl rfl) rfl rfl ?_
              refine WL_pass rfl (yield_of rfl rfl) rfl rfl ?_
              refine WL_pass rfl (yield_of rfl rfl) rfl rfl ?_
              refine WL_pass rfl (yield_of rfl rfl) rfl rfl ?_
              refine WL_step rfl rfl (Exec.pick_t (v := Value.bool (true)) rfl rfl rfl ?_)
              refine WL_nil (at_normal ?_)
              exact ⟨s, (PHeap.le_refl _), hS1354, rfl, (congrArg Value.bool (Eq.trans (or_f hc1362) (Eq.trans (or_f hc1363) (Eq.trans (or_f hc1364) (Eq.trans (or_f hc1365) (or_t hc1366)))))).symm⟩
            · replace hc1366 := not_true hc1366
              refine WL_run rfl (yield_of rfl (congrArg Value.bool hc1366)) rfl (Exec.field F26_2 rfl rfl rfl ?_)
              refine WL_run rfl (yield_of rfl (congrArg Value.bool hc1366)) rfl (Exec.load_box (hS1354) A22 rfl rfl rfl ?_)
              refine WL_run rfl (yield_of rfl (congrArg Value.bool hc1366)) rfl (Exec.len_rep S22 rfl rfl a162 ?_)
              refine WL_run rfl (yield_of rfl (congrArg Value.bool hc1366)) rfl (Exec.gtr rfl rfl rfl ?_)
              refine WL_step rfl rfl (Exec.pick_f (v := Value.bool (decide (4096 < (x160.Costs.length : Int)))) rfl (congrArg Value.bool hc1366) rfl ?_)
              refine WL_step rfl rfl (Exec.move (v := Value.bool (decide (4096 < (x160.Costs.length : Int)))) rfl rfl ?_)
              by_cases hc1367 : (decide (4096 < (x160.Costs.length : Int))) = true
              · refine WL_pass rfl (yield_of rfl (congrArg Value.bool hc1367)) rfl rfl ?_
                refine WL_pass rfl (yield_of rfl (congrArg Value.bool hc1367)) rfl rfl ?_
                refine WL_pass rfl (yield_of rfl (congrArg Value.bool hc1367)) rfl rfl ?_
                refine WL_pass rfl (yield_of rfl (congrArg Value.bool hc1367)) rfl rfl ?_
                refine WL_step rfl rfl (Exec.pick_t (v := Value.bool (true)) rfl (congrArg Value.bool hc1367) rfl ?_)
                refine WL_nil (at_normal ?_)
                exact ⟨s, (PHeap.le_refl _), hS1354, rfl, (congrArg Value.bool (Eq.trans (or_f hc1362) (Eq.trans (or_f hc1363) (Eq.trans (or_f hc1364) (Eq.trans (or_f hc1365) (Eq.trans (or_f hc1366) (or_t hc1367))))))).symm⟩
              · replace hc1367 := not_true hc1367
                refine WL_run rfl (yield_of rfl (congrArg Value.bool hc1367)) rfl (Exec.field F26_3 rfl rfl rfl ?_)
                refine WL_run rfl (yield_of rfl (congrArg Value.bool hc1367)) rfl (Exec.load_box (hS1354) A23 rfl rfl rfl ?_)
                refine WL_run rfl (yield_of rfl (congrArg Value.bool hc1367)) rfl (Exec.len_rep S23 rfl rfl a164 ?_)
                refine WL_run rfl (yield_of rfl (congrArg Value.bool hc1367)) rfl (Exec.gtr rfl rfl rfl ?_)
                refine WL_step rfl rfl (Exec.pick_f (v := Value.bool (decide (65536 < (x160.Edges.length : Int)))) rfl (congrArg Value.bool hc1367) rfl ?_)
                refine WL_nil (at_normal ?_)
                exact ⟨s, (PHeap.le_refl _), hS1354, rfl, (congrArg Value.bool (Eq.trans (or_f hc1362) (Eq.trans (or_f hc1363) (Eq.trans (or_f hc1364) (Eq.trans (or_f hc1365) (Eq.trans (or_f hc1366) (or_f hc1367))))))).symm⟩
  · intro f1368 w1369 hM1370
    obtain ⟨s1371, l1372, hS1373, p1374, p1375⟩ := hM1370
    refine (at_normal ?_)
    rcases ite_some hm with ⟨hc1376, hm⟩ | ⟨hc1376, hm⟩
    · refine W_cond_t p1375 hc1376 ?_
      refine W_seq ?_
      refine W_region ?_
      refine WL_step rfl rfl (Exec.assign (v := Value.bool (false)) rfl rfl ?_)
      refine WL_nil (at_normal ?_)
      refine W_ret (at_ret ?_)
      have e1378 := Option.some.inj hm
      subst r
      refine ⟨_, ret1 rfl, ?_⟩
      have hS1379 := (hS1373).drop
      exact ⟨s1371, l1372, hS1379, rfl⟩
    · refine W_cond_f p1375 hc1376 ?_
      replace hc1376 := not_true hc1376
      refine W_skip (at_normal ?_)
      refine W_seq ?_
      refine W_seq ?_
      refine W_region ?_
      refine WL_step rfl rfl (Exec.field F26_2 rfl p1374 rfl ?_)
      refine WL_step rfl rfl (Exec.load_box (hS1373) A22 rfl rfl rfl ?_)
      refine WL_step rfl rfl (Exec.len_rep S22 rfl rfl (a162.mono l1372) ?_)
      refine WL_step rfl rfl (Exec.move (v := Value.int .i64 (0)) rfl rfl ?_)
      refine WL_nil (at_normal ?_)
      obtain ⟨c1441, hB1442, hr1443, hn1444, hb1445⟩ := ctl_some hm
      refine W_mid (M := fun f' w' => ∃ s', (c1441 = .next s' ∨ c1441 = .brk s') ∧ (fun (_ : Unit) => ∃ (s1447 : PHeap) , PHeap.le s1371 s1447 ∧ St w0 s1447 (Res.box b1352 26 [Value.int .i64 (x160.States), Value.int .i64 (x160.Init), v161, v163, v165] :: H) w' ∧ f' 1 = Value.pointer (some ⟨b1352, 0, none⟩) ∧ f' 48 = v161 ∧ f' 49 = Value.int .i64 ((x160.Costs.length : Int))) s') ?_ ?_
      · refine W_block (W_forC (fun k' s' f' w' => (fun (_ : Unit) => ∃ (s1446 : PHeap) , PHeap.le s1371 s1446 ∧ St w0 s1446 (Res.box b1352 26 [Value.int .i64 (x160.States), Value.int .i64 (x160.Init), v161, v163, v165] :: H) w' ∧ f' 1 = Value.pointer (some ⟨b1352, 0, none⟩) ∧ f' 48 = v161 ∧ f' 49 = Value.int .i64 ((x160.Costs.length : Int)) ∧ f' 50 = Value.int .i64 (k' : Int)) s') hB1442 ?_ ?_ ?_)
        · exact ⟨s1371, (PHeap.le_refl _), hS1373, p1374, rfl, rfl, rfl⟩
        · intro i1380 t1455 c1449 f1450 w1451 hi1456 hI1452 hm1453 hres1454
          obtain ⟨s1457, l1458, hS1459, p1460, p1461, p1462, x1463⟩ := hI1452
          refine W_seq ?_
          refine W_region ?_
          refine WL_step rfl rfl (Exec.lss rfl x1463 p1462 ?_)
          refine WL_nil (at_normal ?_)
          refine W_seq ?_
          refine W_true (congrArg Value.bool (decide_eq_true (by omega))) ?_
          refine W_skip (at_normal ?_)
          refine W_seq ?_
          refine W_block ?_
          refine W_seq ?_
          refine W_region ?_
          obtain ⟨x1471, q1472, hm1453⟩ := bind_some hm1453
          refine WL_step rfl rfl (Exec.index_rep S22 rfl p1461 x1463 (a162.mono (PHeap.le.trans l1372 l1458)) q1472 ?_)
          intro b1473 o1474 a1475
          refine WL_step rfl rfl (Exec.load_at (E := (encInt .i64)) hS1459 A3 rfl rfl rfl a1475 ?_)
          intro v1476 q1477
          obtain rfl := encInt_val.1 q1477
          refine WL_step rfl rfl (Exec.assign (v := Value.int .i64 (x1471)) rfl rfl ?_)
          refine WL_nil (at_normal ?_)
          refine W_seq ?_
          refine W_mid (M := fun f' w' => ∃ (s1479 : PHeap) , PHeap.le s1457 s1479 ∧ St w0 s1479 (Res.box b1352 26 [Value.int .i64 (x160.States), Value.int .i64 (x160.Init), v161, v163, v165] :: H) w' ∧ f' 1 = Value.pointer (some ⟨b1352, 0, none⟩) ∧ f' 48 = v161 ∧ f' 49 = Value.int .i64 ((x160.Costs.length : Int)) ∧ f' 50 = Value.int .i64 ((i1380 : Int)) ∧ f' 59 = Value.bool (((decide (x1471 < 0)) || decide (1048576 < x1471)))) ?_ ?_
          · refine W_region ?_
            refine WL_step rfl rfl (Exec.move (v := Value.int .i64 (x1471)) rfl rfl ?_)
            refine WL_step rfl rfl (Exec.lss rfl rfl rfl ?_)
            refine WL_step rfl rfl (Exec.move (v := Value.bool (decide (x1471 < 0))) rfl rfl ?_)
            by_cases hc1480 : (decide (x1471 < 0)) = true
            · refine WL_pass rfl (yield_of rfl (congrArg Value.bool hc1480)) rfl rfl ?_
              refine WL_pass rfl (yield_of rfl (congrArg Value.bool hc1480)) rfl rfl ?_
              refine WL_step rfl rfl (Exec.pick_t (v := Value.bool (true)) rfl (congrArg Value.bool hc1480) rfl ?_)
              refine WL_nil (at_normal ?_)
              exact ⟨s1457, (PHeap.le_refl _), hS1459, p1460, p1461, p1462, x1463, (congrArg Value.bool (or_t hc1480)).symm⟩
            · replace hc1480 := not_true hc1480
              refine WL_run rfl (yield_of rfl (congrArg Value.bool hc1480)) rfl (Exec.move (v := Value.int .i64 (x1471)) rfl rfl ?_)
              refine WL_run rfl (yield_of rfl (congrArg Value.bool hc1480)) rfl (Exec.gtr rfl rfl rfl ?_)
              refine WL_step rfl rfl (Exec.pick_f (v := Value.bool (decide (1048576 < x1471))) rfl (congrArg Value.bool hc1480) rfl ?_)
              refine WL_nil (at_normal ?_)
              exact ⟨s1457, (PHeap.le_refl _), hS1459, p1460, p1461, p1462, x1463, (congrArg Value.bool (or_f hc1480)).symm⟩
          · intro f1481 w1482 hM1483
            obtain ⟨s1484, l1485, hS1486, p1487, p1488, p1489, p1490, p1491⟩ := hM1483
            refine (at_normal ?_)
            rcases ite_some hm1453 with ⟨hc1492, hm1453⟩ | ⟨hc1492, hm1453⟩
            · refine W_cond_t p1491 hc1492 ?_
              refine W_seq ?_
              refine W_region ?_
              refine WL_step rfl rfl (Exec.assign (v := Value.bool (false)) rfl rfl ?_)
              refine WL_nil (at_normal ?_)
              refine W_ret (ib_ret (at_ret (at_ret (ib_ret (at_ret (at_ret ?_))))))
              have e1493 := Option.some.inj hm1453
              subst c1449
              have hq1494 := hr1443 _ (hres1454 (by intro _ h; cases h))
              have e1495 := Option.some.inj hq1494
              subst r
              refine ⟨_, ret1 rfl, ?_⟩
              have hS1496 := (hS1486).drop
              exact ⟨s1484, (PHeap.le.trans (PHeap.le.trans l1372 l1458) l1485), hS1496, rfl⟩
            · refine W_cond_f p1491 hc1492 ?_
              replace hc1492 := not_true hc1492
              refine W_skip (ib_normal (at_normal ?_))
              refine W_region ?_
              refine WL_step rfl rfl (Exec.add rfl p1490 rfl ?_)
              refine WL_step rfl rfl (Exec.move (v := Value.int .i64 (IntKind.i64.wrap ((i1380 : Int) + 1))) rfl rfl ?_)
              refine WL_nil (at_normal ?_)
              have e1497 := Option.some.inj hm1453
              subst c1449
              refine ⟨_, rfl, ?_⟩; exact ⟨s1484, (PHeap.le.trans l1458 l1485), hS1486, p1487, p1488, p1489, (Eq.trans rfl (wrap_up hi1456 (SliceRep.le (a162.mono l1372))))⟩
        · intro t1498 f1499 w1500 hI1501 hres1502
          obtain ⟨s1503, l1504, hS1505, p1506, p1507, p1508, x1509⟩ := hI1501
          refine W_seq ?_
          refine W_region ?_
          refine WL_step rfl rfl (Exec.lss rfl x1509 p1508 ?_)
          refine WL_nil (at_normal ?_)
          refine W_seq ?_
          refine W_false (congrArg Value.bool (decide_eq_false (by omega))) ?_
          refine W_exit (at_exit (at_exit (ib_here (at_normal ?_))))
          refine ⟨_, .inl hres1502, ?_⟩; exact ⟨s1503, l1504, hS1505, p1506, p1507, p1508⟩
      · rintro f1510 w1511 ⟨t1512, hc1513, hM1514⟩
        have hm := hc1513.elim (hn1444 _) (hb1445 _)
        clear hc1513
        obtain ⟨s1515, l1516, hS1517, p1518, p1519, p1520⟩ := hM1514
        refine (at_normal ?_)
        refine W_seq ?_
        refine W_seq ?_
        refine W_region ?_
        refine WL_step rfl rfl (Exec.field F26_3 rfl p1518 rfl ?_)
        refine WL_step rfl rfl (Exec.load_box (hS1517) A23 rfl rfl rfl ?_)
        refine WL_step rfl rfl (Exec.len_rep S23 rfl rfl (a164.mono (PHeap.le.trans l1372 l1516)) ?_)
        refine WL_step rfl rfl (Exec.move (v := Value.int .i64 (0)) rfl rfl ?_)
        refine WL_nil (at_normal ?_)
        obtain ⟨c1818, hB1819, hr1820, hn1821, hb1822⟩ := ctl_some hm
        refine W_mid (M := fun f' w' => ∃ s', (c1818 = .next s' ∨ c1818 = .brk s') ∧ (fun (_ : Unit) => ∃ (s1824 : PHeap) , PHeap.le s1515 s1824 ∧ St w0 s1824 (Res.box b1352 26 [Value.int .i64 (x160.States), Value.int .i64 (x160.Init), v161, v163, v165] :: H) w' ∧ f' 1 = Value.pointer (some ⟨b1352, 0, none⟩) ∧ f' 62 = v163 ∧ f' 63 = Value.int .i64 ((x160.Edges.length : Int))) s') ?_ ?_
        · refine W_block (W_forC (fun k' s' f' w' => (fun (_ : Unit) => ∃ (s1823 : PHeap) , PHeap.le s1515 s1823 ∧ St w0 s1823 (Res.box b1352 26 [Value.int .i64 (x160.States), Value.int .i64 (x160.Init), v161, v163, v165] :: H) w' ∧ f' 1 = Value.pointer (some ⟨b1352, 0, none⟩) ∧ f' 62 = v163 ∧ f' 63 = Value.int .i64 ((x160.Edges.length : Int)) ∧ f' 64 = Value.int .i64 (k' : Int)) s') hB1819 ?_ ?_ ?_)
          · exact ⟨s1515, (PHeap.le_refl _), hS1517, p1518, rfl, rfl, rfl⟩
          · intro i1521 t1832 c1826 f1827 w1828 hi1833 hI1829 hm1830 hres1831
            obtain ⟨s1834, l1835, hS1836, p1837, p1838, p1839, x1840⟩ := hI1829
            refine W_seq ?_
            refine W_region ?_
            refine WL_step rfl rfl (Exec.lss rfl x1840 p1839 ?_)
            refine WL_nil (at_normal ?_)
            refine W_seq ?_
            refine W_true (congrArg Value.bool (decide_eq_true (by omega))) ?_
            refine W_skip (at_normal ?_)
            refine W_seq ?_
            refine W_block ?_
            refine W_seq ?_
            refine W_region ?_
            refine WL_step rfl rfl (Exec.move (v := Value.int .i64 ((i1521 : Int))) rfl x1840 ?_)
            obtain ⟨x1853, q1854, hm1830⟩ := bind_some hm1830
            refine WL_step rfl rfl (Exec.index_rep S23 rfl p1838 x1840 (a164.mono (PHeap.le.trans (PHeap.le.trans l1372 l1516) l1835)) q1854 ?_)
            intro b1855 o1856 a1857
            refine WL_step rfl rfl (Exec.load_at (E := encEdge) hS1836 A66 rfl rfl rfl a1857 ?_)
            intro v1858 q1859
            obtain rfl := encEdge_val.1 q1859
            refine WL_step rfl rfl (Exec.alloc (cs := [Value.int .i64 (0), Value.int .i64 (0), Value.int .i64 (0)]) hS1836 Z66 rfl rfl ?_)
            intro b1860 w1861 hS1862
            refine WL_step rfl rfl (Exec.assign (v := Value.int .i64 ((i1521 : Int))) rfl rfl ?_)
            refine WL_step rfl rfl (Exec.store_box (ds := [Value.int .i64 (x1853.From), Value.int .i64 (x1853.Label), Value.int .i64 (x1853.To)]) (es := [Value.int .i64 (x1853.From), Value.int .i64 (x1853.Label), Value.int .i64 (x1853.To)]) hS1862 A66 rfl rfl rfl rfl (one_cons rfl (one_cons rfl (one_cons rfl one_nil))) (Nat.le_of_ble_eq_true rfl) rfl ?_)
            intro w1863 hS1864
            refine WL_nil (at_normal ?_)
            refine W_seq ?_
            obtain ⟨z1911, ht1912, hm1830⟩ := bind_some hm1830
            refine W_mid (M := fun f' w' => (fun (z1911 : Bool) => ∃ (s1913 : PHeap) , PHeap.le s1834 s1913 ∧ St w0 s1913 (Res.box b1352 26 [Value.int .i64 (x160.States), Value.int .i64 (x160.Init), v161, v163, v165] :: H) w' ∧ f' 1 = Value.pointer (some ⟨b1352, 0, none⟩) ∧ f' 62 = v163 ∧ f' 63 = Value.int .i64 ((x160.Edges.length : Int)) ∧ f' 64 = Value.int .i64 ((i1521 : Int)) ∧ f' 118 = Value.bool (z1911)) z1911) ?_ ?_
            · refine W_dl (n0 := 50) (.q 0 (.q 1 (.q 2 (.q 3 (.q 4 (.q 5 (.q 6 (.q 7 (.q 8 (.q 9 (.q 10 (.q 11 (.q 12 (.q 13 (.q 14 (.q 15 (.q 16 (.q 17 (.q 18 (.q 19 (.q 20 (.q 21 (.q 22 (.q 23 (.q 24 (.q 25 (.q 26 (.q 27 (.q 28 (.q 29 (.q 30 (.q 31 (.q 32 (.q 33 (.q 34 (.q 35 (.q 36 (.q 37 (.q 38 (.q 39 (.q 40 (.q 41 (.q 42 (.q 43 (.q 44 (.q 45 (.e 46 [] (.q 47 (.q 48 (.q 49 .done)))))))))))))))))))))))))))))))))))))))))))))))))) hmix (by kernel_rfl) (by kernel_rfl) ?_
              have hS1937 := hS1864.drew
              refine DL_q rfl rfl (Exec.field F66_0 rfl rfl rfl ⟨rfl, ?_⟩)
              refine DL_q rfl rfl (Exec.load_box (hS1937) A3 rfl rfl rfl ⟨rfl, ?_⟩)
              refine DL_q rfl rfl (Exec.lss rfl rfl rfl ⟨rfl, ?_⟩)
              refine DL_q rfl rfl (Exec.move (v := Value.bool (decide (x1853.From < 0))) rfl rfl ⟨rfl, ?_⟩)
              rcases ite_some ht1912 with ⟨hc1938, ht1912⟩ | ⟨hc1938, ht1912⟩
              · refine DL_qp rfl rfl (yield_of rfl (congrArg Value.bool hc1938)) rfl ?_
                refine DL_qp rfl rfl (yield_of rfl (congrArg Value.bool hc1938)) rfl ?_
                refine DL_qp rfl rfl (yield_of rfl (congrArg Value.bool hc1938)) rfl ?_
                refine DL_qp rfl rfl (yield_of rfl (congrArg Value.bool hc1938)) rfl ?_
                refine DL_qp rfl rfl (yield_of rfl (congrArg Value.bool hc1938)) rfl ?_
                refine DL_q rfl rfl (Exec.pick_t (v := Value.bool (true)) rfl (congrArg Value.bool hc1938) rfl ⟨rfl, ?_⟩)
                refine DL_q rfl rfl (Exec.move (v := Value.bool (true)) rfl rfl ⟨rfl, ?_⟩)
                refine DL_qp rfl rfl (yield_of rfl rfl) rfl ?_
                refine DL_qp rfl rfl (yield_of rfl rfl) rfl ?_
                refine DL_qp rfl rfl (yield_of rfl rfl) rfl ?_
                refine DL_q rfl rfl (Exec.pick_t (v := Value.bool (true)) rfl rfl rfl ⟨rfl, ?_⟩)
                refine DL_q rfl rfl (Exec.move (v := Value.bool (true)) rfl rfl ⟨rfl, ?_⟩)
                refine DL_qp rfl rfl (yield_of rfl rfl) rfl ?_
                refine DL_qp rfl rfl (yield_of rfl rfl) rfl ?_
                refine DL_qp rfl rfl (yield_of rfl rfl) rfl ?_
                refine DL_qp rfl rfl (yield_of rfl rfl) rfl ?_
                refine DL_qp rfl rfl (yield_of rfl rfl) rfl ?_
                refine DL_q rfl rfl (Exec.pick_t (v := Value.bool (true)) rfl rfl rfl ⟨rfl, ?_⟩)
                refine DL_q rfl rfl (Exec.move (v := Value.bool (true)) rfl rfl ⟨rfl, ?_⟩)
                refine DL_qp rfl rfl (yield_of rfl rfl) rfl ?_
                refine DL_qp rfl rfl (yield_of rfl rfl) rfl ?_
                refine DL_qp rfl rfl (yield_of rfl rfl) rfl ?_
                refine DL_q rfl rfl (Exec.pick_t (v := Value.bool (true)) rfl rfl rfl ⟨rfl, ?_⟩)
                refine DL_q rfl rfl (Exec.move (v := Value.bool (true)) rfl rfl ⟨rfl, ?_⟩)
                refine DL_qp rfl rfl (yield_of rfl rfl) rfl ?_
                refine DL_qp rfl rfl (yield_of rfl rfl) rfl ?_
                refine DL_qp rfl rfl (yield_of rfl rfl) rfl ?_
                refine DL_qp rfl rfl (yield_of rfl rfl) rfl ?_
                refine DL_qp rfl rfl (yield_of rfl rfl) rfl ?_
                refine DL_qp rfl rfl (yield_of rfl rfl) rfl ?_
                refine DL_q rfl rfl (Exec.pick_t (v := Value.bool (true)) rfl rfl rfl ⟨rfl, ?_⟩)
                refine DL_q rfl rfl (Exec.move (v := Value.bool (true)) rfl rfl ⟨rfl, ?_⟩)
                refine DL_qp rfl rfl (yield_of rfl rfl) rfl ?_
                refine DL_qp rfl rfl (yield_of rfl rfl) rfl ?_
                refine DL_qp rfl rfl (yield_of rfl rfl) rfl ?_
                refine DL_qn rfl rfl (yield_undef rfl rfl) ?_
                refine DL_qn rfl rfl (yield_undef rfl rfl) ?_
                refine DL_qn rfl rfl (yield_undef rfl rfl) ?_
                refine DL_qn rfl rfl (yield_undef rfl rfl) ?_
                refine DL_qn rfl rfl (yield_undef rfl rfl) ?_
                refine DL_qn rfl rfl (yield_undef rfl rfl) ?_
                refine DL_qn rfl rfl (yield_undef rfl rfl) ?_
                refine DL_en rfl rfl (yield_undef rfl rfl) ?_
                refine DL_qn rfl rfl (yield_undef rfl rfl) ?_
                refine DL_qp rfl rfl (yield_of rfl rfl) rfl ?_
                refine DL_q rfl rfl (Exec.pick_t (v := Value.bool (true)) rfl rfl rfl ⟨rfl, ?_⟩)
                refine DL_done ?_
                refine WL_nil (at_normal ?_)
                have e1939 := Option.some.inj ht1912
                subst z1911
                have hS1940 := (hS1937).drop
                exact ⟨s1834, (PHeap.le_refl _), hS1940, p1837, p1838, p1839, x1840, rfl⟩
              · replace hc1938 := not_true hc1938
                refine DL_qg rfl rfl (yield_of rfl (congrArg Value.bool hc1938)) (Exec.field F66_0 rfl rfl rfl ⟨rfl, ?_⟩)
                refine DL_qg rfl rfl (yield_of rfl (congrArg Value.bool hc1938)) (Exec.load_box (hS1937) A3 rfl rfl rfl ⟨rfl, ?_⟩)
                refine DL_qg rfl rfl (yield_of rfl (congrArg Value.bool hc1938)) (Exec.field F26_0 rfl p1837 rfl ⟨rfl, ?_⟩)
                refine DL_qg rfl rfl (yield_of rfl (congrArg Value.bool hc1938)) (Exec.load_box ((hS1937).f1) A3 rfl rfl rfl ⟨rfl, ?_⟩)
                refine DL_qg rfl rfl (yield_of rfl (congrArg Value.bool hc1938)) (Exec.geq rfl rfl rfl ⟨rfl, ?_⟩)
                refine DL_q rfl rfl (Exec.pick_f (v := Value.bool (decide (x160.States ≤ x1853.From))) rfl (congrArg Value.bool hc1938) rfl ⟨rfl, ?_⟩)
                refine DL_q rfl rfl (Exec.move (v := Value.bool (decide (x160.States ≤ x1853.From))) rfl rfl ⟨rfl, ?_⟩)
                rcases ite_some ht1912 with ⟨hc1941, ht1912⟩ | ⟨hc1941, ht1912⟩
                · refine DL_qp rfl rfl (yield_of rfl (congrArg Value.bool hc1941)) rfl ?_
                  refine DL_qp rfl rfl (yield_of rfl (congrArg Value.bool hc1941)) rfl ?_
                  refine DL_qp rfl rfl (yield_of rfl (congrArg Value.bool hc1941)) rfl ?_
                  refine DL_q rfl rfl (Exec.pick_t (v := Value.bool (true)) rfl (congrArg Value.bool hc1941) rfl ⟨rfl, ?_⟩)
                  refine DL_q rfl rfl (Exec.move (v := Value.bool (true)) rfl rfl ⟨rfl, ?_⟩)
                  refine DL_qp rfl rfl (yield_of rfl rfl) rfl ?_
                  refine DL_qp rfl rfl (yield_of rfl rfl) rfl ?_
                  refine DL_qp rfl rfl (yield_of rfl rfl) rfl ?_
                  refine DL_qp rfl rfl (yield_of rfl rfl) rfl ?_
                  refine DL_qp rfl rfl (yield_of rfl rfl) rfl ?_
                  refine DL_q rfl rfl (Exec.pick_t (v := Value.bool (true)) rfl rfl rfl ⟨rfl, ?_⟩)
                  refine DL_q rfl rfl (Exec.move (v := Value.bool (true)) rfl rfl ⟨rfl, ?_⟩)
                  refine DL_qp rfl rfl (yield_of rfl rfl) rfl ?_
                  refine DL_qp rfl rfl (yield_of rfl rfl) rfl ?_
                  refine DL_qp rfl rfl (yield_of rfl rfl) rfl ?_
                  refine DL_q rfl rfl (Exec.pick_t (v := Value.bool (true)) rfl rfl rfl ⟨rfl, ?_⟩)
                  refine DL_q rfl rfl (Exec.move (v := Value.bool (true)) rfl rfl ⟨rfl, ?_⟩)
                  refine DL_qp rfl rfl (yield_of rfl rfl) rfl ?_
                  refine DL_qp rfl rfl (yield_of rfl rfl) rfl ?_
                  refine DL_qp rfl rfl (yield_of rfl rfl) rfl ?_
                  refine DL_qp rfl rfl (yield_of rfl rfl) rfl ?_
                  refine DL_qp rfl rfl (yield_of rfl rfl) rfl ?_
                  refine DL_qp rfl rfl (yield_of rfl rfl) rfl ?_
                  refine DL_q rfl rfl (Exec.pick_t (v := Value.bool (true)) rfl rfl rfl ⟨rfl, ?_⟩)
                  refine DL_q rfl rfl (Exec.move (v := Value.bool (true)) rfl rfl ⟨rfl, ?_⟩)
                  refine DL_qp rfl rfl (yield_of rfl rfl) rfl ?_
                  refine DL_qp rfl rfl (yield_of rfl rfl) rfl ?_
                  refine DL_qp rfl rfl (yield_of rfl rfl) rfl ?_
                  refine DL_qn rfl rfl (yield_undef rfl rfl) ?_
                  refine DL_qn rfl rfl (yield_undef rfl rfl) ?_
                  refine DL_qn rfl rfl (yield_undef rfl rfl) ?_
                  refine DL_qn rfl rfl (yield_undef rfl rfl) ?_
                  refine DL_qn rfl rfl (yield_undef rfl rfl) ?_
                  refine DL_qn rfl rfl (yield_undef rfl rfl) ?_
                  refine DL_qn rfl rfl (yield_undef rfl rfl) ?_
                  refine DL_en rfl rfl (yield_undef rfl rfl) ?_
                  refine DL_qn rfl rfl (yield_undef rfl rfl) ?_
                  refine DL_qp rfl rfl (yield_of rfl rfl) rfl ?_
                  refine DL_q rfl rfl (Exec.pick_t (v := Value.bool (true)) rfl rfl rfl ⟨rfl, ?_⟩)
                  refine DL_done ?_
                  refine WL_nil (at_normal ?_)
                  have e1942 := Option.some.inj ht1912
                  subst z1911
                  have hS1943 := (hS1937).drop
                  exact ⟨s1834, (PHeap.le_refl _), hS1943, p1837, p1838, p1839, x1840, rfl⟩
                · replace hc1941 := not_true hc1941
                  refine DL_qg rfl rfl (yield_of rfl (congrArg Value.bool hc1941)) (Exec.field F66_2 rfl rfl rfl ⟨rfl, ?_⟩)
                  refine DL_qg rfl rfl (yield_of rfl (congrArg Value.bool hc1941)) (Exec.load_box (hS1937) A3 rfl rfl rfl ⟨rfl, ?_⟩)
                  refine DL_qg rfl rfl (yield_of rfl (congrArg Value.bool hc1941)) (Exec.lss rfl rfl rfl ⟨rfl, ?_⟩)
                  refine DL_q rfl rfl (Exec.pick_f (v := Value.bool (decide (x1853.To < 0))) rfl (congrArg Value.bool hc1941) rfl ⟨rfl, ?_⟩)
                  refine DL_q rfl rfl (Exec.move (v := Value.bool (decide (x1853.To < 0))) rfl rfl ⟨rfl, ?_⟩)
                  rcases ite_some ht1912 with ⟨hc1944, ht1912⟩ | ⟨hc1944, ht1912⟩
                  · refine DL_qp rfl rfl (yield_of rfl (congrArg Value.bool hc1944)) rfl ?_
                    refine DL_qp rfl rfl (yield_of rfl (congrArg Value.bool hc1944)) rfl ?_
                    refine DL_qp rfl rfl (yield_of rfl (congrArg Value.bool hc1944)) rfl ?_
                    refine DL_qp rfl rfl (yield_of rfl (congrArg Value.bool hc1944)) rfl ?_
                    refine DL_qp rfl rfl (yield_of rfl (congrArg Value.bool hc1944)) rfl ?_
                    refine DL_q rfl rfl (Exec.pick_t (v := Value.bool (true)) rfl (congrArg Value.bool hc1944) rfl ⟨rfl, ?_⟩)
                    refine DL_q rfl rfl (Exec.move (v := Value.bool (true)) rfl rfl ⟨rfl, ?_⟩)
                    refine DL_qp rfl rfl (yield_of rfl rfl) rfl ?_
                    refine DL_qp rfl rfl (yield_of rfl rfl) rfl ?_
                    refine DL_qp rfl rfl (yield_of rfl rfl) rfl ?_
                    refine DL_q rfl rfl (Exec.pick_t (v := Value.bool (true)) rfl rfl rfl ⟨rfl, ?_⟩)
                    refine DL_q rfl rfl (Exec.move (v := Value.bool (true)) rfl rfl ⟨rfl, ?_⟩)
                    refine DL_qp rfl rfl (yield_of rfl rfl) rfl ?_
                    refine DL_qp rfl rfl (yield_of rfl rfl) rfl ?_
                    refine DL_qp rfl rfl (yield_of rfl rfl) rfl ?_
                    refine DL_qp rfl rfl (yield_of rfl rfl) rfl ?_
                    refine DL_qp rfl rfl (yield_of rfl rfl) rfl ?_
                    refine DL_qp rfl rfl (yield_of rfl rfl) rfl ?_
                    refine DL_q rfl rfl (Exec.pick_t (v := Value.bool (true)) rfl rfl rfl ⟨rfl, ?_⟩)
                    refine DL_q rfl rfl (Exec.move (v := Value.bool (true)) rfl rfl ⟨rfl, ?_⟩)
                    refine DL_qp rfl rfl (yield_of rfl rfl) rfl ?_
                    refine DL_qp rfl rfl (yield_of rfl rfl) rfl ?_
                    refine DL_qp rfl rfl (yield_of rfl rfl) rfl ?_
                    refine DL_qn rfl rfl (yield_undef rfl rfl) ?_
                    refine DL_qn rfl rfl (yield_undef rfl rfl) ?_
                    refine DL_qn rfl rfl (yield_undef rfl rfl) ?_
                    refine DL_qn rfl rfl (yield_undef rfl rfl) ?_
                    refine DL_qn rfl rfl (yield_undef rfl rfl) ?_
                    refine DL_qn rfl rfl (yield_undef rfl rfl) ?_
                    refine DL_qn rfl rfl (yield_undef rfl rfl) ?_
                    refine DL_en rfl rfl (yield_undef rfl rfl) ?_
                    refine DL_qn rfl rfl (yield_undef rfl rfl) ?_
                    refine DL_qp rfl rfl (yield_of rfl rfl) rfl ?_
                    refine DL_q rfl rfl (Exec.pick_t (v := Value.bool (true)) rfl rfl rfl ⟨rfl, ?_⟩)
                    refine DL_done ?_
                    refine WL_nil (at_normal ?_)
                    have e1945 := Option.some.inj ht1912
                    subst z1911
                    have hS1946 := (hS1937).drop
                    exact ⟨s1834, (PHeap.le_refl _), hS1946, p1837, p1838, p1839, x1840, rfl⟩
                  · replace hc1944 := not_true hc1944
                    refine DL_qg rfl rfl (yield_of rfl (congrArg Value.bool hc1944)) (Exec.field F66_2 rfl rfl rfl ⟨rfl, ?_⟩)
                    refine DL_qg rfl rfl (yield_of rfl (congrArg Value.bool hc1944)) (Exec.load_box (hS1937) A3 rfl rfl rfl ⟨rfl, ?_⟩)
                    refine DL_qg rfl rfl (yield_of rfl (congrArg Value.bool hc1944)) (Exec.field F26_0 rfl p1837 rfl ⟨rfl, ?_⟩)
                    refine DL_qg rfl rfl (yield_of rfl (congrArg Value.bool hc1944)) (Exec.load_box ((hS1937).f1) A3 rfl rfl rfl ⟨rfl, ?_⟩)
                    refine DL_qg rfl rfl (yield_of rfl (congrArg Value.bool hc1944)) (Exec.geq rfl rfl rfl ⟨rfl, ?_⟩)
                    refine DL_q rfl rfl (Exec.pick_f (v := Value.bool (decide (x160.States ≤ x1853.To))) rfl (congrArg Value.bool hc1944) rfl ⟨rfl, ?_⟩)
                    refine DL_q rfl rfl (Exec.move (v := Value.bool (decide (x160.States ≤ x1853.To))) rfl rfl ⟨rfl, ?_⟩)
                    rcases ite_some ht1912 with ⟨hc1947, ht1912⟩ | ⟨hc1947, ht1912⟩
                    · refine DL_qp rfl rfl (yield_of rfl (congrArg Value.bool hc1947)) rfl ?_
                      refine DL_qp rfl rfl (yield_of rfl (congrArg Value.bool hc1947)) rfl ?_
                      refine DL_qp rfl rfl (yield_of rfl (congrArg Value.bool hc1947)) rfl ?_
                      refine DL_q rfl rfl (Exec.pick_t (v := Value.bool (true)) rfl (congrArg Value.bool hc1947) rfl ⟨rfl, ?_⟩)
                      refine DL_q rfl rfl (Exec.move (v := Value.bool (true)) rfl rfl ⟨rfl, ?_⟩)
                      refine DL_qp rfl rfl (yield_of rfl rfl) rfl ?_
                      refine DL_qp rfl rfl (yield_of rfl rfl) rfl ?_
                      refine DL_qp rfl rfl (yield_of rfl rfl) rfl ?_
                      refine DL_qp rfl rfl (yield_of rfl rfl) rfl ?_
                      refine DL_qp rfl rfl (yield_of rfl rfl) rfl ?_
                      refine DL_qp rfl rfl (yield_of rfl rfl) rfl ?_
                      refine DL_q rfl rfl (Exec.pick_t (v := Value.bool (true)) rfl rfl rfl ⟨rfl, ?_⟩)
                      refine DL_q rfl rfl (Exec.move (v := Value.bool (true)) rfl rfl ⟨rfl, ?_⟩)
                      refine DL_qp rfl rfl (yield_of rfl rfl) rfl ?_
                      refine DL_qp rfl rfl (yield_of rfl rfl) rfl ?_
                      refine DL_qp rfl rfl (yield_of rfl rfl) rfl ?_
                      refine DL_qn rfl rfl (yield_undef rfl rfl) ?_
                      refine DL_qn rfl rfl (yield_undef rfl rfl) ?_
                      refine DL_qn rfl rfl (yield_undef rfl rfl) ?_
                      refine DL_qn rfl rfl (yield_undef rfl rfl) ?_
                      refine DL_qn rfl rfl (yield_undef rfl rfl) ?_
                      refine DL_qn rfl rfl (yield_undef rfl rfl) ?_
                      refine DL_qn rfl rfl (yield_undef rfl rfl) ?_
                      refine DL_en rfl rfl (yield_undef rfl rfl) ?_
                      refine DL_qn rfl rfl (yield_undef rfl rfl) ?_
                      refine DL_qp rfl rfl (yield_of rfl rfl) rfl ?_
                      refine DL_q rfl rfl (Exec.pick_t (v := Value.bool (true)) rfl rfl rfl ⟨rfl, ?_⟩)
                      refine DL_done ?_
                      refine WL_nil (at_normal ?_)
                      have e1948 := Option.some.inj ht1912
                      subst z1911
                      have hS1949 := (hS1937).drop
                      exact ⟨s1834, (PHeap.le_refl _), hS1949, p1837, p1838, p1839, x1840, rfl⟩
                    · replace hc1947 := not_true hc1947
                      refine DL_qg rfl rfl (yield_of rfl (congrArg Value.bool hc1947)) (Exec.field F66_1 rfl rfl rfl ⟨rfl, ?_⟩)
                      refine DL_qg rfl rfl (yield_of rfl (congrArg Value.bool hc1947)) (Exec.load_box (hS1937) A3 rfl rfl rfl ⟨rfl, ?_⟩)
                      refine DL_qg rfl rfl (yield_of rfl (congrArg Value.bool hc1947)) (Exec.lss rfl rfl rfl ⟨rfl, ?_⟩)
                      refine DL_q rfl rfl (Exec.pick_f (v := Value.bool (decide (x1853.Label < 0))) rfl (congrArg Value.bool hc1947) rfl ⟨rfl, ?_⟩)
                      refine DL_q rfl rfl (Exec.move (v := Value.bool (decide (x1853.Label < 0))) rfl rfl ⟨rfl, ?_⟩)
                      rcases ite_some ht1912 with ⟨hc1950, ht1912⟩ | ⟨hc1950, ht1912⟩
                      · refine DL_qp rfl rfl (yield_of rfl (congrArg Value.bool hc1950)) rfl ?_
                        refine DL_qp rfl rfl (yield_of rfl (congrArg Value.bool hc1950)) rfl ?_
                        refine DL_qp rfl rfl (yield_of rfl (congrArg Value.bool hc1950)) rfl ?_
                        refine DL_qp rfl rfl (yield_of rfl (congrArg Value.bool hc1950)) rfl ?_
                        refine DL_qp rfl rfl (yield_of rfl (congrArg Value.bool hc1950)) rfl ?_
                        refine DL_qp rfl rfl (yield_of rfl (congrArg Value.bool hc1950)) rfl ?_
                        refine DL_q rfl rfl (Exec.pick_t (v := Value.bool (true)) rfl (congrArg Value.bool hc1950) rfl ⟨rfl, ?_⟩)
                        refine DL_q rfl rfl (Exec.move (v := Value.bool (true)) rfl rfl ⟨rfl, ?_⟩)
                        refine DL_qp rfl rfl (yield_of rfl rfl) rfl ?_
                        refine DL_qp rfl rfl (yield_of rfl rfl) rfl ?_
                        refine DL_qp rfl rfl (yield_of rfl rfl) rfl ?_
                        refine DL_qn rfl rfl (yield_undef rfl rfl) ?_
                        refine DL_qn rfl rfl (yield_undef rfl rfl) ?_
                        refine DL_qn rfl rfl (yield_undef rfl rfl) ?_
                        refine DL_qn rfl rfl (yield_undef rfl rfl) ?_
                        refine DL_qn rfl rfl (yield_undef rfl rfl) ?_
                        refine DL_qn rfl rfl (yield_undef rfl rfl) ?_
                        refine DL_qn rfl rfl (yield_undef rfl rfl) ?_
                        refine DL_en rfl rfl (yield_undef rfl rfl) ?_
                        refine DL_qn rfl rfl (yield_undef rfl rfl) ?_
                        refine DL_qp rfl rfl (yield_of rfl rfl) rfl ?_
                        refine DL_q rfl rfl (Exec.pick_t (v := Value.bool (true)) rfl rfl rfl ⟨rfl, ?_⟩)
                        refine DL_done ?_
                        refine WL_nil (at_normal ?_)
                        have e1951 := Option.some.inj ht1912
                        subst z1911
                        have hS1952 := (hS1937).drop
                        exact ⟨s1834, (PHeap.le_refl _), hS1952, p1837, p1838, p1839, x1840, rfl⟩
                      · replace hc1950 := not_true hc1950
                        refine DL_qg rfl rfl (yield_of rfl (congrArg Value.bool hc1950)) (Exec.field F66_1 rfl rfl rfl ⟨rfl, ?_⟩)
                        refine DL_qg rfl rfl (yield_of rfl (congrArg Value.bool hc1950)) (Exec.load_box (hS1937) A3 rfl rfl rfl ⟨rfl, ?_⟩)
                        refine DL_qg rfl rfl (yield_of rfl (congrArg Value.bool hc1950)) (Exec.field F26_2 rfl p1837 rfl ⟨rfl, ?_⟩)
                        refine DL_qg rfl rfl (yield_of rfl (congrArg Value.bool hc1950)) (Exec.load_box ((hS1937).f1) A22 rfl rfl rfl ⟨rfl, ?_⟩)
                        refine DL_qg rfl rfl (yield_of rfl (congrArg Value.bool hc1950)) (Exec.len_rep S22 rfl rfl (a162.mono (PHeap.le.trans (PHeap.le.trans l1372 l1516) l1835)) ⟨rfl, ?_⟩)
                        refine DL_qg rfl rfl (yield_of rfl (congrArg Value.bool hc1950)) (Exec.geq rfl rfl rfl ⟨rfl, ?_⟩)
                        refine DL_q rfl rfl (Exec.pick_f (v := Value.bool (decide ((x160.Costs.length : Int) ≤ x1853.Label))) rfl (congrArg Value.bool hc1950) rfl ⟨rfl, ?_⟩)
                        refine DL_q rfl rfl (Exec.move (v := Value.bool (decide ((x160.Costs.length : Int) ≤ x1853.Label))) rfl rfl ⟨rfl, ?_⟩)
                        rcases ite_some ht1912 with ⟨hc1953, ht1912⟩ | ⟨hc1953, ht1912⟩
                        · refine DL_qp rfl rfl (yield_of rfl (congrArg Value.bool hc1953)) rfl ?_
                          refine DL_qp rfl rfl (yield_of rfl (congrArg Value.bool hc1953)) rfl ?_
                          refine DL_qp rfl rfl (yield_of rfl (congrArg Value.bool hc1953)) rfl ?_
                          refine DL_qn rfl rfl (yield_undef rfl rfl) ?_
                          refine DL_qn rfl rfl (yield_undef rfl rfl) ?_
                          refine DL_qn rfl rfl (yield_undef rfl rfl) ?_
                          refine DL_qn rfl rfl (yield_undef rfl rfl) ?_
                          refine DL_qn rfl rfl (yield_undef rfl rfl) ?_
                          refine DL_qn rfl rfl (yield_undef rfl rfl) ?_
                          refine DL_qn rfl rfl (yield_undef rfl rfl) ?_
                          refine DL_en rfl rfl (yield_undef rfl rfl) ?_
                          refine DL_qn rfl rfl (yield_undef rfl rfl) ?_
                          refine DL_qp rfl rfl (yield_of rfl (congrArg Value.bool hc1953)) rfl ?_
                          refine DL_q rfl rfl (Exec.pick_t (v := Value.bool (true)) rfl (congrArg Value.bool hc1953) rfl ⟨rfl, ?_⟩)
                          refine DL_done ?_
                          refine WL_nil (at_normal ?_)
                          have e1954 := Option.some.inj ht1912
                          subst z1911
                          have hS1955 := (hS1937).drop
                          exact ⟨s1834, (PHeap.le_refl _), hS1955, p1837, p1838, p1839, x1840, rfl⟩
                        · replace hc1953 := not_true hc1953
                          refine DL_qg rfl rfl (yield_of rfl (congrArg Value.bool hc1953)) (Exec.move (v := Value.int .i64 ((i1521 : Int))) rfl rfl ⟨rfl, ?_⟩)
                          refine DL_qg rfl rfl (yield_of rfl (congrArg Value.bool hc1953)) (Exec.gtr rfl rfl rfl ⟨rfl, ?_⟩)
                          refine DL_qg rfl rfl (yield_of rfl (congrArg Value.bool hc1953)) (Exec.move (v := Value.bool (decide (0 < (i1521 : Int)))) rfl rfl ⟨rfl, ?_⟩)
                          rcases ite_some ht1912 with ⟨hc1956, ht1912⟩ | ⟨hc1956, ht1912⟩
                          · refine DL_qg rfl rfl (yield_of rfl (congrArg Value.bool hc1956)) (Exec.field F26_3 rfl p1837 rfl ⟨rfl, ?_⟩)
                            refine DL_qg rfl rfl (yield_of rfl (congrArg Value.bool hc1956)) (Exec.load_box ((hS1937).f1) A23 rfl rfl rfl ⟨rfl, ?_⟩)
                            refine DL_qg rfl rfl (yield_of rfl (congrArg Value.bool hc1956)) (Exec.move (v := Value.int .i64 ((i1521 : Int))) rfl rfl ⟨rfl, ?_⟩)
                            refine DL_qg rfl rfl (yield_of rfl (congrArg Value.bool hc1956)) (Exec.sub rfl rfl rfl ⟨rfl, ?_⟩)
                            obtain ⟨x1957, q1958, ht1912⟩ := bind_some ht1912
                            refine DL_qg rfl rfl (yield_of rfl (congrArg Value.bool hc1956)) (Exec.index_repE S23 rfl rfl rfl (a164.mono (PHeap.le.trans (PHeap.le.trans l1372 l1516) l1835)) q1958 ?_)
                            intro b1959 o1960 a1961 e1962
                            refine ⟨rfl, ?_⟩
                            refine DL_qg rfl rfl (yield_of rfl (congrArg Value.bool hc1956)) (Exec.load_at (E := encEdge) hS1937 A66 rfl rfl rfl a1961 ?_)
                            intro v1963 q1964
                            obtain rfl := encEdge_val.1 q1964
                            refine ⟨rfl, ?_⟩
                            refine DL_qg rfl rfl (yield_of rfl (congrArg Value.bool hc1956)) (Exec.load_box_agg (ds := [Value.int .i64 (x1853.From), Value.int .i64 (x1853.Label), Value.int .i64 (x1853.To)]) (hS1937) A66 rfl rfl rfl ⟨rfl, ?_⟩)
                            obtain ⟨y1967, q1966, ht1912⟩ := bind_some ht1912
                            refine DL_eg rfl rfl (yield_of rfl (congrArg Value.bool hc1956)) (Exec.call rfl rfl Try.func39 rfl N39 (args_cons rfl (args_cons rfl args_nil)) ((transys_compare_sim q1966 hS1937 ).mono ?_))
                            rintro _ w1968 ⟨_, rfl, ⟨s1969, l1970, hS1971, rfl⟩⟩
                            refine ⟨_, rfl, ?_⟩
                            refine ⟨ag_nil, ?_⟩
                            refine DL_qg rfl rfl (yield_of rfl (congrArg Value.bool hc1956)) (Exec.geq rfl rfl rfl ⟨rfl, ?_⟩)
                            refine DL_qg rfl rfl (yield_of rfl (congrArg Value.bool hc1953)) (Exec.pick_t (v := Value.bool (decide (0 ≤ y1967))) rfl (congrArg Value.bool hc1956) rfl ⟨rfl, ?_⟩)
                            refine DL_q rfl rfl (Exec.pick_f (v := Value.bool (decide (0 ≤ y1967))) rfl (congrArg Value.bool hc1953) rfl ⟨rfl, ?_⟩)
                            refine DL_done ?_
                            refine WL_nil (at_normal ?_)
                            have e1972 := Option.some.inj ht1912
                            subst z1911
                            have hS1973 := (hS1971).drop
                            exact ⟨s1969, l1970, hS1973, p1837, p1838, p1839, x1840, rfl⟩
                          · replace hc1956 := not_true hc1956
                            refine DL_qp rfl rfl (yield_of rfl (congrArg Value.bool hc1956)) rfl ?_
                            refine DL_qp rfl rfl (yield_of rfl (congrArg Value.bool hc1956)) rfl ?_
                            refine DL_qp rfl rfl (yield_of rfl (congrArg Value.bool hc1956)) rfl ?_
                            refine DL_qp rfl rfl (yield_of rfl (congrArg Value.bool hc1956)) rfl ?_
                            refine DL_qp rfl rfl (yield_of rfl (congrArg Value.bool hc1956)) rfl ?_
                            refine DL_qp rfl rfl (yield_of rfl (congrArg Value.bool hc1956)) rfl ?_
                            refine DL_qp rfl rfl (yield_of rfl (congrArg Value.bool hc1956)) rfl ?_
                            refine DL_ep rfl rfl (yield_of rfl (congrArg Value.bool hc1956)) rfl ?_
                            refine DL_qp rfl rfl (yield_of rfl (congrArg Value.bool hc1956)) rfl ?_
                            refine DL_qg rfl rfl (yield_of rfl (congrArg Value.bool hc1953)) (Exec.pick_f (v := Value.bool (false)) rfl (congrArg Value.bool hc1956) rfl ⟨rfl, ?_⟩)
                            refine DL_q rfl rfl (Exec.pick_f (v := Value.bool (false)) rfl (congrArg Value.bool hc1953) rfl ⟨rfl, ?_⟩)
                            refine DL_done ?_
                            refine WL_nil (at_normal ?_)
                            have e1974 := Option.some.inj ht1912
                            subst z1911
                            have hS1975 := (hS1937).drop
                            exact ⟨s1834, (PHeap.le_refl _), hS1975, p1837, p1838, p1839, x1840, rfl⟩
            · intro f1976 w1977 hM1978
              obtain ⟨s1979, l1980, hS1981, p1982, p1983, p1984, p1985, p1986⟩ := hM1978
              refine (at_normal ?_)
              rcases ite_some hm1830 with ⟨hc1987, hm1830⟩ | ⟨hc1987, hm1830⟩
              · refine W_cond_t p1986 hc1987 ?_
                refine W_seq ?_
                refine W_region ?_
                refine WL_step rfl rfl (Exec.assign (v := Value.bool (false)) rfl rfl ?_)
                refine WL_nil (at_normal ?_)
                refine W_ret (ib_ret (at_ret (at_ret (ib_ret (at_ret (at_ret ?_))))))
                have e1988 := Option.some.inj hm1830
                subst c1826
                have hq1989 := hr1820 _ (hres1831 (by intro _ h; cases h))
                have e1990 := Option.some.inj hq1989
                subst r
                refine ⟨_, ret1 rfl, ?_⟩
                have hS1991 := (hS1981).drop
                exact ⟨s1979, (PHeap.le.trans (PHeap.le.trans (PHeap.le.trans l1372 l1516) l1835) l1980), hS1991, rfl⟩
              · refine W_cond_f p1986 hc1987 ?_
                replace hc1987 := not_true hc1987
                refine W_skip (ib_normal (at_normal ?_))
                refine W_region ?_
                refine WL_step rfl rfl (Exec.add rfl p1985 rfl ?_)
                refine WL_step rfl rfl (Exec.move (v := Value.int .i64 (IntKind.i64.wrap ((i1521 : Int) + 1))) rfl rfl ?_)
                refine WL_nil (at_normal ?_)
                have e1992 := Option.some.inj hm1830
                subst c1826
                refine ⟨_, rfl, ?_⟩; exact ⟨s1979, (PHeap.le.trans l1835 l1980), hS1981, p1982, p1983, p1984, (Eq.trans rfl (wrap_up hi1833 (SliceRep.le (a164.mono (PHeap.le.trans l1372 l1516)))))⟩
          · intro t1993 f1994 w1995 hI1996 hres1997
            obtain ⟨s1998, l1999, hS2000, p2001, p2002, p2003, x2004⟩ := hI1996
            refine W_seq ?_
            refine W_region ?_
            refine WL_step rfl rfl (Exec.lss rfl x2004 p2003 ?_)
            refine WL_nil (at_normal ?_)
            refine W_seq ?_
            refine W_false (congrArg Value.bool (decide_eq_false (by omega))) ?_
            refine W_exit (at_exit (at_exit (ib_here (at_normal ?_))))
            refine ⟨_, .inl hres1997, ?_⟩; exact ⟨s1998, l1999, hS2000, p2001, p2002, p2003⟩
        · rintro f2005 w2006 ⟨t2007, hc2008, hM2009⟩
          have hm := hc2008.elim (hn1821 _) (hb1822 _)
          clear hc2008
          obtain ⟨s2010, l2011, hS2012, p2013, p2014, p2015⟩ := hM2009
          refine (at_normal ?_)
          refine W_seq ?_
          refine W_region ?_
          refine WL_step rfl rfl (Exec.assign (v := Value.bool (true)) rfl rfl ?_)
          refine WL_nil (at_normal ?_)
          refine W_ret ?_
          have e2017 := Option.some.inj hm
          subst r
          refine ⟨_, ret1 rfl, ?_⟩
          have hS2018 := (hS2012).drop
          exact ⟨s2010, (PHeap.le.trans (PHeap.le.trans l1372 l1516) l2011), hS2018, rfl⟩

theorem N35 : (Try.f35.name == "runtime.NumGoroutine") = false := by kernel_rfl

theorem slices_Equal___int_int__sim {w0 w : World} {s : PHeap} {H : List Res} {s12035 : (List Int)} {s22038 : (List Int)} {v2036 : Value} {v2039 : Value} {r : Bool} (hm : slices_Equal___int_int__p s12035 s22038 = some r) (hS : St w0 s (H) w) (a2037 : SliceRep (encInt .i64) s v2036 s12035) (a2040 : SliceRep (encInt .i64) s v2039 s22038) :
    Calls Try.prog 35 #[v2036, v2039] w fun e w' => ∃ v, e = .returned v ∧ ((fun (y2300 : Bool) => ∃ (s2301 : PHeap) , PHeap.le s s2301 ∧ St w0 s2301 (H) w' ∧ v = Value.bool (y2300)) r) := by
  unfold slices_Equal___int_int__p at hm
  refine calls_of_W Try.func35 rfl rfl ?_
  refine W_seq ?_
  refine W_region ?_
  refine WL_step rfl rfl (Exec.assign (v := Value.bool (false)) rfl rfl ?_)
  refine WL_nil (at_normal ?_)
  refine W_seq ?_
  refine W_seq ?_
  refine W_region ?_
  refine WL_step rfl rfl (Exec.move (v := v2036) rfl rfl ?_)
  refine WL_step rfl rfl (Exec.len_rep S22 rfl rfl a2037 ?_)
  refine WL_step rfl rfl (Exec.move (v := v2039) rfl rfl ?_)
  refine WL_step rfl rfl (Exec.len_rep S22 rfl rfl a2040 ?_)
  refine WL_step rfl rfl (Exec.neq rfl rfl rfl ?_)
  refine WL_nil (at_normal ?_)
  rcases ite_some hm with ⟨hc2302, hm⟩ | ⟨hc2302, hm⟩
  · refine W_cond_t rfl hc2302 ?_
    refine W_seq ?_
    refine W_region ?_
    refine WL_step rfl rfl (Exec.assign (v := Value.bool (false)) rfl rfl ?_)
    refine WL_nil (at_normal ?_)
    refine W_ret (at_ret ?_)
    have e2304 := Option.some.inj hm
    subst r
    refine ⟨_, ret1 rfl, ?_⟩
    exact ⟨s, (PHeap.le_refl _), hS, rfl⟩
  · refine W_cond_f rfl hc2302 ?_
    replace hc2302 := not_true hc2302
    refine W_skip (at_normal ?_)
    refine W_seq ?_
    refine W_seq ?_
    refine W_region ?_
    refine WL_step rfl rfl (Exec.move (v := v2036) rfl rfl ?_)
    refine WL_step rfl rfl (Exec.len_rep S22 rfl rfl a2037 ?_)
    refine WL_step rfl rfl (Exec.move (v := Value.int .i64 (0)) rfl rfl ?_)
    refine WL_nil (at_normal ?_)
    obtain ⟨c2446, hB2447, hr2448, hn2449, hb2450⟩ := ctl_some hm
    refine W_mid (M := fun f' w' => ∃ s', (c2446 = .next s' ∨ c2446 = .brk s') ∧ (fun (_ : Unit) => ∃ (s2452 : PHeap) , PHeap.le s s2452 ∧ St w0 s2452 (H) w' ∧ f' 0 = v2036 ∧ f' 1 = v2039 ∧ f' 12 = Value.int .i64 ((s12035.length : Int))) s') ?_ ?_
    · refine W_block (W_forC (fun k' s' f' w' => (fun (_ : Unit) => ∃ (s2451 : PHeap) , PHeap.le s s2451 ∧ St w0 s2451 (H) w' ∧ f' 0 = v2036 ∧ f' 1 = v2039 ∧ f' 12 = Value.int .i64 ((s12035.length : Int)) ∧ f' 13 = Value.int .i64 (k' : Int)) s') hB2447 ?_ ?_ ?_)
      · exact ⟨s, (PHeap.le_refl _), hS, rfl, rfl, rfl, rfl⟩
      · intro i2305 t2460 c2454 f2455 w2456 hi2461 hI2457 hm2458 hres2459
        obtain ⟨s2462, l2463, hS2464, p2465, p2466, p2467, x2468⟩ := hI2457
        refine W_seq ?_
        refine W_region ?_
        refine WL_step rfl rfl (Exec.lss rfl x2468 p2467 ?_)
        refine WL_nil (at_normal ?_)
        refine W_seq ?_
        refine W_true (congrArg Value.bool (decide_eq_true (by omega))) ?_
        refine W_skip (at_normal ?_)
        refine W_seq ?_
        refine W_block ?_
        refine W_seq ?_
        refine W_region ?_
        refine WL_step rfl rfl (Exec.move (v := Value.int .i64 ((i2305 : Int))) rfl x2468 ?_)
        refine WL_step rfl rfl (Exec.assign (v := Value.int .i64 ((i2305 : Int))) rfl rfl ?_)
        refine WL_nil (at_normal ?_)
        refine W_seq ?_
        refine W_dl (n0 := 9) (.q 0 (.q 1 (.q 2 (.q 3 (.q 4 (.q 5 (.q 6 (.q 7 (.q 8 .done))))))))) hmix (by kernel_rfl) (by kernel_rfl) ?_
        have hS2520 := hS2464.drew
        refine DL_q rfl rfl (Exec.move (v := v2036) rfl p2465 ⟨rfl, ?_⟩)
        refine DL_q rfl rfl (Exec.move (v := Value.int .i64 ((i2305 : Int))) rfl rfl ⟨rfl, ?_⟩)
        obtain ⟨x2521, q2522, hm2458⟩ := bind_some hm2458
        refine DL_q rfl rfl (Exec.index_repE S22 rfl rfl rfl (a2037.mono l2463) q2522 ?_)
        intro b2523 o2524 a2525 e2526
        refine ⟨rfl, ?_⟩
        refine DL_q rfl rfl (Exec.load_at (E := (encInt .i64)) hS2520 A3 rfl rfl rfl a2525 ?_)
        intro v2527 q2528
        obtain rfl := encInt_val.1 q2528
        refine ⟨rfl, ?_⟩
        refine DL_q rfl rfl (Exec.move (v := v2039) rfl p2466 ⟨rfl, ?_⟩)
        refine DL_q rfl rfl (Exec.move (v := Value.int .i64 ((i2305 : Int))) rfl rfl ⟨rfl, ?_⟩)
        obtain ⟨x2529, q2530, hm2458⟩ := bind_some hm2458
        refine DL_q rfl rfl (Exec.index_repE S22 rfl rfl rfl (a2040.mono l2463) q2530 ?_)
        intro b2531 o2532 a2533 e2534
        refine ⟨rfl, ?_⟩
        refine DL_q rfl rfl (Exec.load_at (E := (encInt .i64)) hS2520 A3 rfl rfl rfl a2533 ?_)
        intro v2535 q2536
        obtain rfl := encInt_val.1 q2536
        refine ⟨rfl, ?_⟩
        refine DL_q rfl rfl (Exec.neq rfl rfl rfl ⟨rfl, ?_⟩)
        refine DL_done ?_
        refine WL_nil (at_normal ?_)
        rcases ite_some hm2458 with ⟨hc2537, hm2458⟩ | ⟨hc2537, hm2458⟩
        · refine W_cond_t rfl hc2537 ?_
          refine W_seq ?_
          refine W_region ?_
          refine WL_step rfl rfl (Exec.assign (v := Value.bool (false)) rfl rfl ?_)
          refine WL_nil (at_normal ?_)
          refine W_ret (ib_ret (at_ret (at_ret (ib_ret (at_ret (at_ret ?_))))))
          have e2538 := Option.some.inj hm2458
          subst c2454
          have hq2539 := hr2448 _ (hres2459 (by intro _ h; cases h))
          have e2540 := Option.some.inj hq2539
          subst r
          refine ⟨_, ret1 rfl, ?_⟩
          exact ⟨s2462, l2463, hS2520, rfl⟩
        · refine W_cond_f rfl hc2537 ?_
          replace hc2537 := not_true hc2537
          refine W_skip (ib_normal (at_normal ?_))
          refine W_region ?_
          refine WL_step rfl rfl (Exec.add rfl x2468 rfl ?_)
          refine WL_step rfl rfl (Exec.move (v := Value.int .i64 (IntKind.i64.wrap ((i2305 : Int) + 1))) rfl rfl ?_)
          refine WL_nil (at_normal ?_)
          have e2541 := Option.some.inj hm2458
          subst c2454
          refine ⟨_, rfl, ?_⟩; exact ⟨s2462, l2463, hS2520, p2465, p2466, p2467, (Eq.trans rfl (wrap_up hi2461 (SliceRep.le a2037)))⟩
      · intro t2542 f2543 w2544 hI2545 hres2546
        obtain ⟨s2547, l2548, hS2549, p2550, p2551, p2552, x2553⟩ := hI2545
        refine W_seq ?_
        refine W_region ?_
        refine WL_step rfl rfl (Exec.lss rfl x2553 p2552 ?_)
        refine WL_nil (at_normal ?_)
        refine W_seq ?_
        refine W_false (congrArg Value.bool (decide_eq_false (by omega))) ?_
        refine W_exit (at_exit (at_exit (ib_here (at_normal ?_))))
        refine ⟨_, .inl hres2546, ?_⟩; exact ⟨s2547, l2548, hS2549, p2550, p2551, p2552⟩
    · rintro f2554 w2555 ⟨t2556, hc2557, hM2558⟩
      have hm := hc2557.elim (hn2449 _) (hb2450 _)
      clear hc2557
      obtain ⟨s2559, l2560, hS2561, p2562, p2563, p2564⟩ := hM2558
      refine (at_normal ?_)
      refine W_seq ?_
      refine W_region ?_
      refine WL_step rfl rfl (Exec.assign (v := Value.bool (true)) rfl rfl ?_)
      refine WL_nil (at_normal ?_)
      refine W_ret ?_
      have e2566 := Option.some.inj hm
      subst r
      refine ⟨_, ret1 rfl, ?_⟩
      exact ⟨s2559, l2560, hS2561, rfl⟩

theorem C39 : Try.prog.concrete 39 = true := by kernel_rfl

theorem Z3 : tyZero Try.prog 3 = some (Value.int .i64 (0)) := by kernel_rfl

theorem N36 : (Try.f36.name == "runtime.NumGoroutine") = false := by kernel_rfl

theorem slices_Clone___int_int__sim {w0 w : World} {s : PHeap} {H : List Res} {s_2634 : (List Int)} {v2635 : Value} {r : (List Int)} (hm : slices_Clone___int_int__p s_2634 = some r) (hS : St w0 s (H) w) (a2636 : SliceRep (encInt .i64) s v2635 s_2634) :
    Calls Try.prog 36 #[v2635] w fun e w' => ∃ v, e = .returned v ∧ ((fun (y2668 : (List Int)) => ∃ (s2670 : PHeap) (v2669 : Value), PHeap.le s s2670 ∧ St w0 s2670 (Res.arr (encInt .i64) 3 v2669 y2668 :: H) w' ∧ v = v2669) r) := by
  unfold slices_Clone___int_int__p at hm
  refine calls_of_W Try.func36 rfl rfl ?_
  refine W_seq ?_
  refine W_region ?_
  refine WL_step rfl rfl (Exec.assign (v := Value.slice none 0 0) rfl rfl ?_)
  refine WL_nil (at_normal ?_)
  refine W_seq ?_
  refine W_seq ?_
  refine W_region ?_
  refine WL_step rfl rfl (Exec.move (v := v2635) rfl rfl ?_)
  obtain ⟨a2676, n2677, c2678, e2679, hn2680⟩ := (a2636).nilShape
  refine WL_step rfl rfl (Exec.slice_eql_nil Try.underlying22 rfl e2679 rfl ?_)
  refine WL_nil (at_normal ?_)
  by_cases hc2681 : a2676.isNone = true
  · have hq2682 := hn2680 hc2681
    replace hm := (show (some []) = ((app 8 [] s_2634).bind fun l2699 => some l2699) from by simp [hq2682, app]).trans hm
    refine W_true ((congrArg Value.bool hc2681)) ?_
    refine W_seq ?_
    refine W_region ?_
    refine WL_step rfl rfl (Exec.assign (v := Value.slice none 0 0) rfl rfl ?_)
    refine WL_nil (at_normal ?_)
    refine W_ret (at_ret ?_)
    have e2684 := Option.some.inj hm
    subst r
    refine ⟨_, ret1 rfl, ?_⟩
    have hS2685 := hS.nilArr (encInt .i64) 3
    exact ⟨s, (Value.slice none 0 0), (PHeap.le_refl _), hS2685, rfl⟩
  · replace hc2681 := not_true hc2681
    refine W_false ((congrArg Value.bool hc2681)) ?_
    refine W_skip (at_normal ?_)
    refine W_seq ?_
    refine W_region ?_
    refine WL_step rfl rfl (Exec.buildSlice (Te := 3) (cs := []) hS rfl parts_nil (fun _ => by kernel_rfl) ?_)
    intro b2695 w2696 hS2697
    refine WL_step rfl rfl (Exec.move (v := v2635) rfl rfl ?_)
    have hS2698 := St.boxArr (E := (encInt .i64)) (xs := []) hS2697 rfl (by simp [maxLen])
    obtain ⟨l2699, q2700, hm⟩ := bind_some hm
    refine WL_step rfl rfl (Exec.append_rep (E := (encInt .i64)) (ys := s_2634) hS2698 S22 Z3 rfl (by decide) rfl rfl rfl a2636 q2700 ?_)
    intro v2701 w2702 hS2703
    refine WL_step rfl rfl (Exec.assign (v := v2701) rfl rfl ?_)
    refine WL_nil (at_normal ?_)
    refine W_ret ?_
    have e2705 := Option.some.inj hm
    subst r
    refine ⟨_, ret1 rfl, ?_⟩
    exact ⟨s, v2701, (PHeap.le_refl _), hS2703, rfl⟩

theorem A4 : tyAgg Try.prog 4 = some (false, 1) := by kernel_rfl

theorem Z4 : tyZero Try.prog 4 = some (Value.bool false) := by kernel_rfl

theorem S63 : tySlice Try.prog 63 = some (23, 1, 24) := by kernel_rfl

theorem Z23 : tyZero Try.prog 23 = some (Value.slice none 0 0) := by kernel_rfl

theorem N37 : (Try.f37.name == "runtime.NumGoroutine") = false := by kernel_rfl

theorem transys_labelled_sim {w0 w : World} {s : PHeap} {H : List Res} {x4797 : System} {v4798 : Value} {v4800 : Value} {v4802 : Value} {r : (List (List Edge))} (hm : transys_labelled_p x4797 = some r) (hS : St w0 s (H) w) (a4799 : SliceRep (encInt .i64) s v4798 x4797.Costs) (a4801 : SliceRep encEdge s v4800 x4797.Edges) (a4803 : SliceRep encBool s v4802 x4797.Goals) :
    Calls Try.prog 37 #[Value.agg #[Value.int .i64 (x4797.States), Value.int .i64 (x4797.Init), v4798, v4800, v4802]] w fun e w' => ∃ v, e = .returned v ∧ ((fun (y5237 : (List (List Edge))) => ∃ (s5243 : PHeap) (v5242 : Value), PHeap.le s s5243 ∧ St w0 s5243 (H) w' ∧ v = v5242 ∧ SliceRep (encSlice encEdge) s5243 v5242 y5237) r) := by
  unfold transys_labelled_p at hm
  refine calls_of_W Try.func37 rfl rfl ?_
  refine W_seq ?_
  refine W_region ?_
  refine WL_step rfl rfl (Exec.box (cs := [Value.int .i64 (x4797.States), Value.int .i64 (x4797.Init), v4798, v4800, v4802]) hS rfl rfl rfl ?_)
  intro b5247 w5248 hS5249
  refine WL_step rfl rfl (Exec.assign (v := Value.slice none 0 0) rfl rfl ?_)
  refine WL_nil (at_normal ?_)
  refine W_seq ?_
  refine W_region ?_
  refine WL_step rfl rfl (Exec.field F26_2 rfl rfl rfl ?_)
  refine WL_step rfl rfl (Exec.load_box (hS5249) A22 rfl rfl rfl ?_)
  refine WL_step rfl rfl (Exec.len_rep S22 rfl rfl a4799 ?_)
  obtain ⟨l5256, q5257, hm⟩ := bind_some hm
  refine WL_step rfl rfl (Exec.make_grid (F := encEdge) (T2 := 66) hS5249 S63 Z23 rfl rfl rfl q5257 ?_)
  intro v5258 hs5259 w5260 hS5261
  refine WL_step rfl rfl (Exec.assign (v := v5258) rfl rfl ?_)
  refine WL_nil (at_normal ?_)
  refine W_seq ?_
  refine W_seq ?_
  refine W_region ?_
  refine WL_step rfl rfl (Exec.field F26_3 rfl rfl rfl ?_)
  refine WL_step rfl rfl (Exec.load_box ((hS5261).f2) A23 rfl rfl rfl ?_)
  refine WL_step rfl rfl (Exec.len_rep S23 rfl rfl a4801 ?_)
  refine WL_step rfl rfl (Exec.move (v := Value.int .i64 (0)) rfl rfl ?_)
  refine WL_nil (at_normal ?_)
  obtain ⟨l5390, hB5521, hm⟩ := bind_some hm
  refine W_block (W_forS (fun k' s' f' w' => (fun (l5390 : (List (List Edge))) => ∃ (s5522 : PHeap) (hs5391 : List Value), PHeap.le s s5522 ∧ St w0 s5522 (Res.arr encRaw 23 v5258 hs5391 :: Res.rows encEdge 66 hs5391 l5390 :: H) w' ∧ f' 3 = v5258 ∧ f' 11 = v4800 ∧ f' 12 = Value.int .i64 ((x4797.Edges.length : Int)) ∧ f' 13 = Value.int .i64 (k' : Int)) s') hB5521 ?_ ?_ ?_)
  · have hS5523 := ((hS5261).f2).drop
    exact ⟨s, hs5259, (PHeap.le_refl _), hS5523, rfl, rfl, rfl, rfl⟩
  · intro i5262 l5390 s5525 f5526 w5527 hi5528 hI5529 hm5530
    obtain ⟨s5531, hs5391, l5532, hS5533, p5534, p5535, p5536, x5537⟩ := hI5529
    refine W_seq ?_
    refine W_region ?_
    refine WL_step rfl rfl (Exec.lss rfl x5537 p5536 ?_)
    refine WL_nil (at_normal ?_)
    refine W_seq ?_
    refine W_true (congrArg Value.bool (decide_eq_true (by omega))) ?_
    refine W_skip (at_normal ?_)
    refine W_seq ?_
    refine W_block ?_
    refine W_seq ?_
    refine W_region ?_
    obtain ⟨x5550, q5551, hm5530⟩ := bind_some hm5530
    refine WL_step rfl rfl (Exec.index_rep S23 rfl p5535 x5537 (a4801.mono l5532) q5551 ?_)
    intro b5552 o5553 a5554
    refine WL_step rfl rfl (Exec.load_at (E := encEdge) hS5533 A66 rfl rfl rfl a5554 ?_)
    intro v5555 q5556
    obtain rfl := encEdge_val.1 q5556
    refine WL_step rfl rfl (Exec.alloc (cs := [Value.int .i64 (0), Value.int .i64 (0), Value.int .i64 (0)]) hS5533 Z66 rfl rfl ?_)
    intro b5557 w5558 hS5559
    refine WL_step rfl rfl (Exec.store_box (ds := [Value.int .i64 (x5550.From), Value.int .i64 (x5550.Label), Value.int .i64 (x5550.To)]) (es := [Value.int .i64 (x5550.From), Value.int .i64 (x5550.Label), Value.int .i64 (x5550.To)]) hS5559 A66 rfl rfl rfl rfl (one_cons rfl (one_cons rfl (one_cons rfl one_nil))) (Nat.le_of_ble_eq_true rfl) rfl ?_)
    intro w5560 hS5561
    refine WL_nil (at_normal ?_)
    refine W_dl (n0 := 11) (.q 0 (.q 1 (.q 2 (.q 3 (.q 4 (.q 5 (.q 6 (.q 7 (.q 8 (.e 9 [0, 1, 2, 3, 4, 5, 6, 7] (.e 10 [0, 1, 2] .done))))))))))) hmix (by kernel_rfl) (by kernel_rfl) ?_
    have hS5635 := hS5561.drew
    refine DL_q rfl rfl (Exec.move (v := v5258) rfl p5534 ⟨rfl, ?_⟩)
    refine DL_q rfl rfl (Exec.field F66_1 rfl rfl rfl ⟨rfl, ?_⟩)
    refine DL_q rfl rfl (Exec.load_box (hS5635) A3 rfl rfl rfl ⟨rfl, ?_⟩)
    refine DL_q rfl rfl (Exec.move (v := v5258) rfl p5534 ⟨rfl, ?_⟩)
    refine DL_q rfl rfl (Exec.field F66_1 rfl rfl rfl ⟨rfl, ?_⟩)
    refine DL_q rfl rfl (Exec.load_box (hS5635) A3 rfl rfl rfl ⟨rfl, ?_⟩)
    obtain ⟨row5636, q5637, hm5530⟩ := bind_some hm5530
    obtain ⟨h5638, e5639, e5640, _⟩ := ((((hS5635).f2).f2).f1).rows_at q5637
    obtain ⟨g5641, c5642, e5643⟩ := (((hS5635).f2).f2).arr_at e5639
    refine DL_q rfl rfl (Exec.index_slice S63 rfl e5643 rfl (idx_some e5639).1 (idx_some e5639).2.1 ⟨rfl, ?_⟩)
    refine DL_q rfl rfl (Exec.load_arr (F := encRaw) (((hS5635).f2).f2) e5643 A23 rfl rfl rfl e5639 (Sub.refl _) ?_)
    intro v5644 q5645
    replace q5645 := (encRaw_val.1 q5645).1
    subst v5644
    refine ⟨rfl, ?_⟩
    refine DL_q rfl rfl (Exec.load_box_agg (ds := [Value.int .i64 (x5550.From), Value.int .i64 (x5550.Label), Value.int .i64 (x5550.To)]) (hS5635) A66 rfl rfl rfl ⟨rfl, ?_⟩)
    refine DL_e rfl rfl (Exec.buildSlice (Te := 66) (cs := [Value.int .i64 (x5550.From), Value.int .i64 (x5550.Label), Value.int .i64 (x5550.To)]) hS5635 rfl (parts_cons (c := [Value.int .i64 (x5550.From), Value.int .i64 (x5550.Label), Value.int .i64 (x5550.To)]) (cells_of rfl rfl) parts_nil) (fun _ => by kernel_rfl) ?_)
    intro b5646 w5647 hS5648
    refine ⟨(ag_cons (ag_r rfl rfl (Exec.move (v := v5258) rfl p5534 ⟨rfl, rfl⟩)) (ag_cons (ag_r rfl rfl (Exec.field F66_1 rfl rfl rfl ⟨rfl, rfl⟩)) (ag_cons (ag_r rfl rfl (Exec.load_box ((hS5648).f1) A3 rfl rfl rfl ⟨rfl, rfl⟩)) (ag_cons (ag_r rfl rfl (Exec.move (v := v5258) rfl p5534 ⟨rfl, rfl⟩)) (ag_cons (ag_r rfl rfl (Exec.field F66_1 rfl rfl rfl ⟨rfl, rfl⟩)) (ag_cons (ag_r rfl rfl (Exec.load_box ((hS5648).f1) A3 rfl rfl rfl ⟨rfl, rfl⟩)) (ag_cons (ag_r rfl rfl (Exec.index_slice S63 rfl e5643 rfl (idx_some e5639).1 (idx_some e5639).2.1 ⟨rfl, rfl⟩)) (ag_cons (ag_r rfl rfl (Exec.load_arr (F := encRaw) (((hS5648).f3).f3) e5643 A23 rfl rfl rfl e5639 (Sub.refl _) (fun _ q => ⟨rfl, (encRaw_val.1 q).1⟩))) ag_nil)))))))), ?_⟩
    have hS5649 := ((((hS5648).f3).f3).f1).rows_split e5640 (idx_some q5637).2.2
    obtain ⟨l5650, q5651, hm5530⟩ := bind_some hm5530
    have hS5652 := (hS5649).f3
    have hS5653 := (hS5652).f1
    refine DL_e rfl rfl (Exec.append_box (E := encEdge) (ys := [x5550]) hS5653 S23 Z66 rfl (by decide) rfl rfl rfl rfl ⟨[Value.int .i64 (x5550.From), Value.int .i64 (x5550.Label), Value.int .i64 (x5550.To)], [], rfl, ⟨[Value.int .i64 (x5550.From)], [Value.int .i64 (x5550.Label), Value.int .i64 (x5550.To)], rfl, rfl, ⟨[Value.int .i64 (x5550.Label)], [Value.int .i64 (x5550.To)], rfl, rfl, rfl⟩⟩, rfl⟩ rfl q5651 ?_)
    intro v5654 w5655 hS5656
    refine ⟨(ag_cons (ag_r rfl rfl (Exec.move (v := v5258) rfl p5534 ⟨rfl, rfl⟩)) (ag_cons (ag_r rfl rfl (Exec.field F66_1 rfl rfl rfl ⟨rfl, rfl⟩)) (ag_cons (ag_r rfl rfl (Exec.load_box ((hS5656).f3) A3 rfl rfl rfl ⟨rfl, rfl⟩)) ag_nil))), ?_⟩
    refine DL_done ?_
    refine WL_step rfl rfl (Exec.index_slice S63 rfl e5643 rfl (idx_some e5639).1 (idx_some e5639).2.1 ?_)
    obtain ⟨l5657, q5658, hm5530⟩ := bind_some hm5530
    have hS5659 := ((hS5656).f2).f2
    have hS5660 := (hS5659).f2
    refine WL_step rfl rfl (Exec.store_row hS5660 e5640 e5643 A23 rfl rfl rfl rfl q5658 ?_)
    intro hs5661 w5662 hS5663
    refine WL_nil (ib_normal (at_normal ?_))
    refine W_region ?_
    refine WL_step rfl rfl (Exec.add rfl x5537 rfl ?_)
    refine WL_step rfl rfl (Exec.move (v := Value.int .i64 (IntKind.i64.wrap ((i5262 : Int) + 1))) rfl rfl ?_)
    refine WL_nil (at_normal ?_)
    have e5664 := Option.some.inj hm5530
    subst s5525
    have hS5665 := ((hS5663).f2).drop
    exact ⟨s5531, hs5661, l5532, hS5665, p5534, p5535, p5536, (Eq.trans rfl (wrap_up hi5528 (SliceRep.le a4801)))⟩
  · intro f5666 w5667 hI5668
    obtain ⟨s5669, hs5391, l5670, hS5671, p5672, p5673, p5674, x5675⟩ := hI5668
    refine W_seq ?_
    refine W_region ?_
    refine WL_step rfl rfl (Exec.lss rfl x5675 p5674 ?_)
    refine WL_nil (at_normal ?_)
    refine W_seq ?_
    refine W_false (congrArg Value.bool (decide_eq_false (by omega))) ?_
    refine W_exit (at_exit (at_exit (ib_here (at_normal ?_))))
    refine W_seq ?_
    refine W_region ?_
    refine WL_step rfl rfl (Exec.move (v := v5258) rfl p5672 ?_)
    refine WL_step rfl rfl (Exec.assign (v := v5258) rfl rfl ?_)
    refine WL_nil (at_normal ?_)
    refine W_ret ?_
    have e5677 := Option.some.inj hm
    subst r
    refine ⟨_, ret1 rfl, ?_⟩
    obtain ⟨s5678, l5679, hS5680, r5681⟩ := hS5671.freezeGrid
    exact ⟨s5678, v5258, (PHeap.le.trans l5670 l5679), hS5680, rfl, r5681⟩

theorem N38 : (Try.f38.name == "runtime.NumGoroutine") = false := by kernel_rfl

end Go.Pw
