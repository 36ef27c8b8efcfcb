/-
  The walks (printed by my generator).
-/
import Derived.Test.YtagooehmocpcjaaDoorMgP
import Derived.Test.YtagooehmocpcjaaDoorL8
import Derived.Test.YtagooehmocpcjaaDoorL9
import Derived.Test.YtagooehmocpcjaaDoorL12
import Derived.Test.YtagooehmocpcjaaDoorL14
import Derived.Test.YtagooehmocpcjaaDoorL15
import Derived.Test.YtagooehmocpcjaaDoorL16
import Derived.Test.YtagooehmocpcjaaDoorL17
import Derived.Test.YtagooehmocpcjaaDoorL18
import Derived.Test.YtagooehmocpcjaaDoorL19
import Derived.Test.YtagooehmocpcjaaDoorL20
import Derived.Test.YtagooehmocpcjaaDoorProg
import Derived.KernelRfl
set_option maxRecDepth 100000
set_option maxHeartbeats 4000000
set_option linter.unusedVariables false
namespace Go.Pw
open Go.Proofs
theorem Z26 : tyZero Tryd.prog 26 = some (Value.agg #[Value.int .i64 (0), Value.int .i64 (0), Value.slice none 0 0, Value.slice none 0 0, Value.slice none 0 0]) := by kernel_rfl

theorem A26 : tyAgg Tryd.prog 26 = some (true, 5) := by kernel_rfl

theorem F26_0 : tyField Tryd.prog 26 0 = some 0 := by kernel_rfl

theorem A3 : tyAgg Tryd.prog 3 = some (false, 1) := by kernel_rfl

theorem F26_1 : tyField Tryd.prog 26 1 = some 1 := by kernel_rfl

theorem F26_4 : tyField Tryd.prog 26 4 = some 4 := by kernel_rfl

theorem A24 : tyAgg Tryd.prog 24 = some (false, 1) := by kernel_rfl

theorem S24 : tySlice Tryd.prog 24 = some (4, 1, 1) := by kernel_rfl

theorem F26_2 : tyField Tryd.prog 26 2 = some 2 := by kernel_rfl

theorem A22 : tyAgg Tryd.prog 22 = some (false, 1) := by kernel_rfl

theorem S22 : tySlice Tryd.prog 22 = some (3, 1, 8) := by kernel_rfl

theorem F26_3 : tyField Tryd.prog 26 3 = some 3 := by kernel_rfl

theorem A23 : tyAgg Tryd.prog 23 = some (false, 1) := by kernel_rfl

theorem S23 : tySlice Tryd.prog 23 = some (53, 3, 24) := by kernel_rfl

theorem A53 : tyAgg Tryd.prog 53 = some (true, 3) := by kernel_rfl

theorem Z53 : tyZero Tryd.prog 53 = some (Value.agg #[Value.int .i64 (0), Value.int .i64 (0), Value.int .i64 (0)]) := by kernel_rfl

theorem hmix : Tryd.prog.follows .mixedOrders = true := by kernel_rfl

theorem F53_0 : tyField Tryd.prog 53 0 = some 0 := by kernel_rfl

theorem F53_2 : tyField Tryd.prog 53 2 = some 2 := by kernel_rfl

theorem F53_1 : tyField Tryd.prog 53 1 = some 1 := by kernel_rfl

theorem N69 : (Tryd.f69.name == "runtime.NumGoroutine") = false := by kernel_rfl

theorem cmp_isNaN_int__sim {w0 w : World} {s : PHeap} {H : List Res} {x305 : Int}  {r : Bool} (hm : cmp_isNaN_int__p x305 = some r) (hS : St w0 s (H) w)  :
    Calls Tryd.prog 69 #[Value.int .i64 (x305)] w fun e w' => ∃ v, e = .returned v ∧ ((fun (y307 : Bool) => ∃ (s308 : PHeap) , PHeap.le s s308 ∧ St w0 s308 (H) w' ∧ v = Value.bool (y307)) r) := by
  unfold cmp_isNaN_int__p at hm
  refine calls_of_W Tryd.func69 rfl rfl ?_
  refine W_seq ?_
  refine W_region ?_
  refine WL_step rfl rfl (Exec.assign (v := Value.bool (false)) rfl rfl ?_)
  refine WL_nil (at_normal ?_)
  refine W_seq ?_
  refine W_region ?_
  refine WL_step rfl rfl (Exec.move (v := Value.int .i64 (x305)) rfl rfl ?_)
  refine WL_step rfl rfl (Exec.move (v := Value.int .i64 (x305)) rfl rfl ?_)
  refine WL_step rfl rfl (Exec.neq rfl rfl rfl ?_)
  refine WL_step rfl rfl (Exec.assign (v := Value.bool (!decide (x305 = x305))) rfl rfl ?_)
  refine WL_nil (at_normal ?_)
  refine W_ret ?_
  have e310 := Option.some.inj hm
  subst r
  refine ⟨_, ret1 rfl, ?_⟩
  exact ⟨s, (PHeap.le_refl _), hS, rfl⟩

theorem N59 : (Tryd.f59.name == "runtime.NumGoroutine") = false := by kernel_rfl

theorem cmp_Compare_int__sim {w0 w : World} {s : PHeap} {H : List Res} {x303 : Int} {y304 : Int}  {r : Int} (hm : cmp_Compare_int__p x303 y304 = some r) (hS : St w0 s (H) w)  :
    Calls Tryd.prog 59 #[Value.int .i64 (x303), Value.int .i64 (y304)] w fun e w' => ∃ v, e = .returned v ∧ ((fun (y333 : Int) => ∃ (s334 : PHeap) , PHeap.le s s334 ∧ St w0 s334 (H) w' ∧ v = Value.int .i64 (y333)) r) := by
  unfold cmp_Compare_int__p at hm
  refine calls_of_W Tryd.func59 rfl rfl ?_
  refine W_seq ?_
  refine W_region ?_
  refine WL_step rfl rfl (Exec.assign (v := Value.int .i64 (0)) rfl rfl ?_)
  refine WL_nil (at_normal ?_)
  refine W_seq ?_
  refine W_region ?_
  refine WL_step rfl rfl (Exec.move (v := Value.int .i64 (x303)) rfl rfl ?_)
  refine WL_step rfl rfl (Exec.call rfl rfl Tryd.func69 rfl N69 (args_cons rfl args_nil) ((cmp_isNaN_int__sim (cmp_isNaN_int__tot x303) hS ).mono ?_))
  rintro _ w339 ⟨_, rfl, ⟨s340, l341, hS342, rfl⟩⟩
  refine ⟨_, rfl, ?_⟩
  refine WL_step rfl rfl (Exec.assign (v := Value.bool ((cmp_isNaN_int__t x303))) rfl rfl ?_)
  refine WL_nil (at_normal ?_)
  refine W_seq ?_
  refine W_region ?_
  refine WL_step rfl rfl (Exec.move (v := Value.int .i64 (y304)) rfl rfl ?_)
  refine WL_step rfl rfl (Exec.call rfl rfl Tryd.func69 rfl N69 (args_cons rfl args_nil) ((cmp_isNaN_int__sim (cmp_isNaN_int__tot y304) hS342 ).mono ?_))
  rintro _ w347 ⟨_, rfl, ⟨s348, l349, hS350, rfl⟩⟩
  refine ⟨_, rfl, ?_⟩
  refine WL_step rfl rfl (Exec.assign (v := Value.bool ((cmp_isNaN_int__t y304))) rfl rfl ?_)
  refine WL_nil (at_normal ?_)
  refine W_seq ?_
  refine W_seq ?_
  refine W_region ?_
  refine WL_step rfl rfl (Exec.move (v := Value.bool ((cmp_isNaN_int__t x303))) rfl rfl ?_)
  refine WL_nil (at_normal ?_)
  rcases ite_some hm with ⟨hc351, hm⟩ | ⟨hc351, hm⟩
  · refine W_cond_t rfl hc351 ?_
    refine W_seq ?_
    refine W_seq ?_
    refine W_region ?_
    refine WL_step rfl rfl (Exec.move (v := Value.bool ((cmp_isNaN_int__t y304))) rfl rfl ?_)
    refine WL_nil (at_normal ?_)
    rcases ite_some hm with ⟨hc352, hm⟩ | ⟨hc352, hm⟩
    · refine W_cond_t rfl hc352 ?_
      refine W_seq ?_
      refine W_region ?_
      refine WL_step rfl rfl (Exec.assign (v := Value.int .i64 (0)) rfl rfl ?_)
      refine WL_nil (at_normal ?_)
      refine W_ret (at_ret (at_ret ?_))
      have e354 := Option.some.inj hm
      subst r
      refine ⟨_, ret1 rfl, ?_⟩
      exact ⟨s348, (PHeap.le.trans l341 l349), hS350, rfl⟩
    · refine W_cond_f rfl hc352 ?_
      replace hc352 := not_true hc352
      refine W_skip (at_normal ?_)
      refine W_seq ?_
      refine W_region ?_
      refine WL_step rfl rfl (Exec.assign (v := Value.int .i64 ((-1))) rfl rfl ?_)
      refine WL_nil (at_normal ?_)
      refine W_ret (at_ret ?_)
      have e356 := Option.some.inj hm
      subst r
      refine ⟨_, ret1 rfl, ?_⟩
      exact ⟨s348, (PHeap.le.trans l341 l349), hS350, rfl⟩
  · refine W_cond_f rfl hc351 ?_
    replace hc351 := not_true hc351
    refine W_skip (at_normal ?_)
    refine W_seq ?_
    refine W_seq ?_
    refine W_region ?_
    refine WL_step rfl rfl (Exec.move (v := Value.bool ((cmp_isNaN_int__t y304))) rfl rfl ?_)
    refine WL_nil (at_normal ?_)
    rcases ite_some hm with ⟨hc357, hm⟩ | ⟨hc357, hm⟩
    · refine W_cond_t rfl hc357 ?_
      refine W_seq ?_
      refine W_region ?_
      refine WL_step rfl rfl (Exec.assign (v := Value.int .i64 (1)) rfl rfl ?_)
      refine WL_nil (at_normal ?_)
      refine W_ret (at_ret ?_)
      have e359 := Option.some.inj hm
      subst r
      refine ⟨_, ret1 rfl, ?_⟩
      exact ⟨s348, (PHeap.le.trans l341 l349), hS350, rfl⟩
    · refine W_cond_f rfl hc357 ?_
      replace hc357 := not_true hc357
      refine W_skip (at_normal ?_)
      refine W_seq ?_
      refine W_seq ?_
      refine W_region ?_
      refine WL_step rfl rfl (Exec.move (v := Value.int .i64 (x303)) rfl rfl ?_)
      refine WL_step rfl rfl (Exec.move (v := Value.int .i64 (y304)) rfl rfl ?_)
      refine WL_step rfl rfl (Exec.lss rfl rfl rfl ?_)
      refine WL_nil (at_normal ?_)
      rcases ite_some hm with ⟨hc360, hm⟩ | ⟨hc360, hm⟩
      · refine W_cond_t rfl hc360 ?_
        refine W_seq ?_
        refine W_region ?_
        refine WL_step rfl rfl (Exec.assign (v := Value.int .i64 ((-1))) rfl rfl ?_)
        refine WL_nil (at_normal ?_)
        refine W_ret (at_ret ?_)
        have e362 := Option.some.inj hm
        subst r
        refine ⟨_, ret1 rfl, ?_⟩
        exact ⟨s348, (PHeap.le.trans l341 l349), hS350, rfl⟩
      · refine W_cond_f rfl hc360 ?_
        replace hc360 := not_true hc360
        refine W_skip (at_normal ?_)
        refine W_seq ?_
        refine W_seq ?_
        refine W_region ?_
        refine WL_step rfl rfl (Exec.move (v := Value.int .i64 (x303)) rfl rfl ?_)
        refine WL_step rfl rfl (Exec.move (v := Value.int .i64 (y304)) rfl rfl ?_)
        refine WL_step rfl rfl (Exec.gtr rfl rfl rfl ?_)
        refine WL_nil (at_normal ?_)
        rcases ite_some hm with ⟨hc363, hm⟩ | ⟨hc363, hm⟩
        · refine W_cond_t rfl hc363 ?_
          refine W_seq ?_
          refine W_region ?_
          refine WL_step rfl rfl (Exec.assign (v := Value.int .i64 (1)) rfl rfl ?_)
          refine WL_nil (at_normal ?_)
          refine W_ret (at_ret ?_)
          have e365 := Option.some.inj hm
          subst r
          refine ⟨_, ret1 rfl, ?_⟩
          exact ⟨s348, (PHeap.le.trans l341 l349), hS350, rfl⟩
        · refine W_cond_f rfl hc363 ?_
          replace hc363 := not_true hc363
          refine W_skip (at_normal ?_)
          refine W_seq ?_
          refine W_region ?_
          refine WL_step rfl rfl (Exec.assign (v := Value.int .i64 (0)) rfl rfl ?_)
          refine WL_nil (at_normal ?_)
          refine W_ret ?_
          have e367 := Option.some.inj hm
          subst r
          refine ⟨_, ret1 rfl, ?_⟩
          exact ⟨s348, (PHeap.le.trans l341 l349), hS350, rfl⟩

theorem N58 : (Tryd.f58.name == "runtime.NumGoroutine") = false := by kernel_rfl

theorem cmp_Or_int__sim {w0 w : World} {s : PHeap} {H : List Res} {vals388 : (List Int)} {v389 : Value} {r : Int} (hm : cmp_Or_int__p vals388 = some r) (hS : St w0 s (H) w) (a390 : SliceRep (encInt .i64) s v389 vals388) :
    Calls Tryd.prog 58 #[v389] w fun e w' => ∃ v, e = .returned v ∧ ((fun (y487 : Int) => ∃ (s488 : PHeap) , PHeap.le s s488 ∧ St w0 s488 (H) w' ∧ v = Value.int .i64 (y487)) r) := by
  unfold cmp_Or_int__p at hm
  refine calls_of_W Tryd.func58 rfl rfl ?_
  refine W_seq ?_
  refine W_region ?_
  refine WL_step rfl rfl (Exec.assign (v := Value.int .i64 (0)) rfl rfl ?_)
  refine WL_nil (at_normal ?_)
  refine W_seq ?_
  refine W_region ?_
  refine WL_step rfl rfl (Exec.assign (v := Value.int .i64 (0)) rfl rfl ?_)
  refine WL_nil (at_normal ?_)
  refine W_seq ?_
  refine W_seq ?_
  refine W_region ?_
  refine WL_step rfl rfl (Exec.move (v := v389) rfl rfl ?_)
  refine WL_step rfl rfl (Exec.len_rep S22 rfl rfl a390 ?_)
  refine WL_step rfl rfl (Exec.move (v := Value.int .i64 (0)) rfl rfl ?_)
  refine WL_nil (at_normal ?_)
  obtain ⟨c522, hB523, hr524, hn525, hb526⟩ := ctl_some hm
  refine W_mid (M := fun f' w' => ∃ s', (c522 = .next s' ∨ c522 = .brk s') ∧ (fun (_ : Unit) => ∃ (s528 : PHeap) , PHeap.le s s528 ∧ St w0 s528 (H) w' ∧ f' 3 = Value.int .i64 (0) ∧ f' 6 = v389 ∧ f' 7 = Value.int .i64 ((vals388.length : Int))) s') ?_ ?_
  · refine W_block (W_forC (fun k' s' f' w' => (fun (_ : Unit) => ∃ (s527 : PHeap) , PHeap.le s s527 ∧ St w0 s527 (H) w' ∧ f' 3 = Value.int .i64 (0) ∧ f' 6 = v389 ∧ f' 7 = Value.int .i64 ((vals388.length : Int)) ∧ f' 8 = Value.int .i64 (k' : Int)) s') hB523 ?_ ?_ ?_)
    · exact ⟨s, (PHeap.le_refl _), hS, rfl, rfl, rfl, rfl⟩
    · intro i489 t536 c530 f531 w532 hi537 hI533 hm534 hres535
      obtain ⟨s538, l539, hS540, p541, p542, p543, x544⟩ := hI533
      refine W_seq ?_
      refine W_region ?_
      refine WL_step rfl rfl (Exec.lss rfl x544 p543 ?_)
      refine WL_nil (at_normal ?_)
      refine W_seq ?_
      refine W_true (congrArg Value.bool (decide_eq_true (by omega))) ?_
      refine W_skip (at_normal ?_)
      refine W_seq ?_
      refine W_block ?_
      refine W_seq ?_
      refine W_region ?_
      obtain ⟨x552, q553, hm534⟩ := bind_some hm534
      refine WL_step rfl rfl (Exec.index_rep S22 rfl p542 x544 (a390.mono l539) q553 ?_)
      intro b554 o555 a556
      refine WL_step rfl rfl (Exec.load_at (E := (encInt .i64)) hS540 A3 rfl rfl rfl a556 ?_)
      intro v557 q558
      obtain rfl := encInt_val.1 q558
      refine WL_step rfl rfl (Exec.assign (v := Value.int .i64 (x552)) rfl rfl ?_)
      refine WL_nil (at_normal ?_)
      refine W_seq ?_
      refine W_region ?_
      refine WL_step rfl rfl (Exec.move (v := Value.int .i64 (x552)) rfl rfl ?_)
      refine WL_step rfl rfl (Exec.move (v := Value.int .i64 (0)) rfl p541 ?_)
      refine WL_step rfl rfl (Exec.neq rfl rfl rfl ?_)
      refine WL_nil (at_normal ?_)
      rcases ite_some hm534 with ⟨hc559, hm534⟩ | ⟨hc559, hm534⟩
      · refine W_cond_t rfl hc559 ?_
        refine W_seq ?_
        refine W_region ?_
        refine WL_step rfl rfl (Exec.move (v := Value.int .i64 (x552)) rfl rfl ?_)
        refine WL_step rfl rfl (Exec.assign (v := Value.int .i64 (x552)) rfl rfl ?_)
        refine WL_nil (at_normal ?_)
        refine W_ret (ib_ret (at_ret (at_ret (ib_ret (at_ret (at_ret ?_))))))
        have e560 := Option.some.inj hm534
        subst c530
        have hq561 := hr524 _ (hres535 (by intro _ h; cases h))
        have e562 := Option.some.inj hq561
        subst r
        refine ⟨_, ret1 rfl, ?_⟩
        exact ⟨s538, l539, hS540, rfl⟩
      · refine W_cond_f rfl hc559 ?_
        replace hc559 := not_true hc559
        refine W_skip (ib_normal (at_normal ?_))
        refine W_region ?_
        refine WL_step rfl rfl (Exec.add rfl x544 rfl ?_)
        refine WL_step rfl rfl (Exec.move (v := Value.int .i64 (IntKind.i64.wrap ((i489 : Int) + 1))) rfl rfl ?_)
        refine WL_nil (at_normal ?_)
        have e563 := Option.some.inj hm534
        subst c530
        refine ⟨_, rfl, ?_⟩; exact ⟨s538, l539, hS540, p541, p542, p543, (Eq.trans rfl (wrap_up hi537 (SliceRep.le a390)))⟩
    · intro t564 f565 w566 hI567 hres568
      obtain ⟨s569, l570, hS571, p572, p573, p574, x575⟩ := hI567
      refine W_seq ?_
      refine W_region ?_
      refine WL_step rfl rfl (Exec.lss rfl x575 p574 ?_)
      refine WL_nil (at_normal ?_)
      refine W_seq ?_
      refine W_false (congrArg Value.bool (decide_eq_false (by omega))) ?_
      refine W_exit (at_exit (at_exit (ib_here (at_normal ?_))))
      refine ⟨_, .inl hres568, ?_⟩; exact ⟨s569, l570, hS571, p572, p573, p574⟩
  · rintro f576 w577 ⟨t578, hc579, hM580⟩
    have hm := hc579.elim (hn525 _) (hb526 _)
    clear hc579
    obtain ⟨s581, l582, hS583, p584, p585, p586⟩ := hM580
    refine (at_normal ?_)
    refine W_seq ?_
    refine W_region ?_
    refine WL_step rfl rfl (Exec.move (v := Value.int .i64 (0)) rfl p584 ?_)
    refine WL_step rfl rfl (Exec.assign (v := Value.int .i64 (0)) rfl rfl ?_)
    refine WL_nil (at_normal ?_)
    refine W_ret ?_
    have e588 := Option.some.inj hm
    subst r
    refine ⟨_, ret1 rfl, ?_⟩
    exact ⟨s581, l582, hS583, rfl⟩

theorem N44 : (Tryd.f44.name == "runtime.NumGoroutine") = false := by kernel_rfl

theorem transys_compare_sim {w0 w : World} {s : PHeap} {H : List Res} {a288 : Edge} {b289 : Edge}  {r : Int} (hm : transys_compare_p a288 b289 = some r) (hS : St w0 s (H) w)  :
    Calls Tryd.prog 44 #[Value.agg #[Value.int .i64 (a288.From), Value.int .i64 (a288.Label), Value.int .i64 (a288.To)], Value.agg #[Value.int .i64 (b289.From), Value.int .i64 (b289.Label), Value.int .i64 (b289.To)]] w fun e w' => ∃ v, e = .returned v ∧ ((fun (y681 : Int) => ∃ (s682 : PHeap) , PHeap.le s s682 ∧ St w0 s682 (H) w' ∧ v = Value.int .i64 (y681)) r) := by
  unfold transys_compare_p at hm
  refine calls_of_W Tryd.func44 rfl rfl ?_
  refine W_seq ?_
  refine W_region ?_
  refine WL_step rfl rfl (Exec.box (cs := [Value.int .i64 (a288.From), Value.int .i64 (a288.Label), Value.int .i64 (a288.To)]) hS rfl rfl rfl ?_)
  intro b689 w690 hS691
  refine WL_step rfl rfl (Exec.box (cs := [Value.int .i64 (b289.From), Value.int .i64 (b289.Label), Value.int .i64 (b289.To)]) hS691 rfl rfl rfl ?_)
  intro b692 w693 hS694
  refine WL_step rfl rfl (Exec.assign (v := Value.int .i64 (0)) rfl rfl ?_)
  refine WL_nil (at_normal ?_)
  refine W_seq ?_
  refine W_dl (n0 := 17) (.q 0 (.q 1 (.q 2 (.q 3 (.q 5 (.q 6 (.q 7 (.q 8 (.q 10 (.q 11 (.q 12 (.q 13 (.e 4 [5, 6, 7, 8, 10, 11, 12, 13] (.e 9 [10, 11, 12, 13] (.e 14 [] (.e 15 [] (.e 16 [] .done))))))))))))))))) hmix (by kernel_rfl) (by kernel_rfl) ?_
  have hS779 := hS694.drew
  refine DL_q rfl rfl (Exec.field F53_0 rfl rfl rfl ⟨rfl, ?_⟩)
  refine DL_q rfl rfl (Exec.load_box ((hS779).f1) A3 rfl rfl rfl ⟨rfl, ?_⟩)
  refine DL_q rfl rfl (Exec.field F53_0 rfl rfl rfl ⟨rfl, ?_⟩)
  refine DL_q rfl rfl (Exec.load_box (hS779) A3 rfl rfl rfl ⟨rfl, ?_⟩)
  refine DL_q rfl rfl (Exec.field F53_1 rfl rfl rfl ⟨rfl, ?_⟩)
  refine DL_q rfl rfl (Exec.load_box ((hS779).f1) A3 rfl rfl rfl ⟨rfl, ?_⟩)
  refine DL_q rfl rfl (Exec.field F53_1 rfl rfl rfl ⟨rfl, ?_⟩)
  refine DL_q rfl rfl (Exec.load_box (hS779) A3 rfl rfl rfl ⟨rfl, ?_⟩)
  refine DL_q rfl rfl (Exec.field F53_2 rfl rfl rfl ⟨rfl, ?_⟩)
  refine DL_q rfl rfl (Exec.load_box ((hS779).f1) A3 rfl rfl rfl ⟨rfl, ?_⟩)
  refine DL_q rfl rfl (Exec.field F53_2 rfl rfl rfl ⟨rfl, ?_⟩)
  refine DL_q rfl rfl (Exec.load_box (hS779) A3 rfl rfl rfl ⟨rfl, ?_⟩)
  refine DL_e rfl rfl (Exec.call rfl rfl Tryd.func59 rfl N59 (args_cons rfl (args_cons rfl args_nil)) ((cmp_Compare_int__sim (cmp_Compare_int__tot a288.From b289.From) hS779 ).mono ?_))
  rintro _ w780 ⟨_, rfl, ⟨s781, l782, hS783, rfl⟩⟩
  refine ⟨_, rfl, ?_⟩
  refine ⟨(ag_cons (ag_r rfl rfl (Exec.field F53_1 rfl rfl rfl ⟨rfl, rfl⟩)) (ag_cons (ag_r rfl rfl (Exec.load_box ((hS783).f1) A3 rfl rfl rfl ⟨rfl, rfl⟩)) (ag_cons (ag_r rfl rfl (Exec.field F53_1 rfl rfl rfl ⟨rfl, rfl⟩)) (ag_cons (ag_r rfl rfl (Exec.load_box (hS783) A3 rfl rfl rfl ⟨rfl, rfl⟩)) (ag_cons (ag_r rfl rfl (Exec.field F53_2 rfl rfl rfl ⟨rfl, rfl⟩)) (ag_cons (ag_r rfl rfl (Exec.load_box ((hS783).f1) A3 rfl rfl rfl ⟨rfl, rfl⟩)) (ag_cons (ag_r rfl rfl (Exec.field F53_2 rfl rfl rfl ⟨rfl, rfl⟩)) (ag_cons (ag_r rfl rfl (Exec.load_box (hS783) A3 rfl rfl rfl ⟨rfl, rfl⟩)) ag_nil)))))))), ?_⟩
  refine DL_e rfl rfl (Exec.call rfl rfl Tryd.func59 rfl N59 (args_cons rfl (args_cons rfl args_nil)) ((cmp_Compare_int__sim (cmp_Compare_int__tot a288.Label b289.Label) hS783 ).mono ?_))
  rintro _ w784 ⟨_, rfl, ⟨s785, l786, hS787, rfl⟩⟩
  refine ⟨_, rfl, ?_⟩
  refine ⟨(ag_cons (ag_r rfl rfl (Exec.field F53_2 rfl rfl rfl ⟨rfl, rfl⟩)) (ag_cons (ag_r rfl rfl (Exec.load_box ((hS787).f1) A3 rfl rfl rfl ⟨rfl, rfl⟩)) (ag_cons (ag_r rfl rfl (Exec.field F53_2 rfl rfl rfl ⟨rfl, rfl⟩)) (ag_cons (ag_r rfl rfl (Exec.load_box (hS787) A3 rfl rfl rfl ⟨rfl, rfl⟩)) ag_nil)))), ?_⟩
  refine DL_e rfl rfl (Exec.call rfl rfl Tryd.func59 rfl N59 (args_cons rfl (args_cons rfl args_nil)) ((cmp_Compare_int__sim (cmp_Compare_int__tot a288.To b289.To) hS787 ).mono ?_))
  rintro _ w788 ⟨_, rfl, ⟨s789, l790, hS791, rfl⟩⟩
  refine ⟨_, rfl, ?_⟩
  refine ⟨ag_nil, ?_⟩
  refine DL_e rfl rfl (Exec.buildSlice (Te := 3) (cs := [Value.int .i64 ((cmp_Compare_int__t a288.From b289.From)), Value.int .i64 ((cmp_Compare_int__t a288.Label b289.Label)), Value.int .i64 ((cmp_Compare_int__t a288.To b289.To))]) hS791 rfl (parts_cons (c := [Value.int .i64 ((cmp_Compare_int__t a288.From b289.From))]) (cells_of rfl rfl) (parts_cons (c := [Value.int .i64 ((cmp_Compare_int__t a288.Label b289.Label))]) (cells_of rfl rfl) (parts_cons (c := [Value.int .i64 ((cmp_Compare_int__t a288.To b289.To))]) (cells_of rfl rfl) parts_nil))) (fun _ => by kernel_rfl) ?_)
  intro b792 w793 hS794
  refine ⟨ag_nil, ?_⟩
  have hS795 := St.boxArr (E := (encInt .i64)) (xs := [(cmp_Compare_int__t a288.From b289.From), (cmp_Compare_int__t a288.Label b289.Label), (cmp_Compare_int__t a288.To b289.To)]) hS794 ⟨[Value.int .i64 ((cmp_Compare_int__t a288.From b289.From))], [Value.int .i64 ((cmp_Compare_int__t a288.Label b289.Label)), Value.int .i64 ((cmp_Compare_int__t a288.To b289.To))], rfl, rfl, ⟨[Value.int .i64 ((cmp_Compare_int__t a288.Label b289.Label))], [Value.int .i64 ((cmp_Compare_int__t a288.To b289.To))], rfl, rfl, ⟨[Value.int .i64 ((cmp_Compare_int__t a288.To b289.To))], [], rfl, rfl, rfl⟩⟩⟩ (by simp [maxLen])
  obtain ⟨s796, l797, hS798, r799⟩ := hS795.freezeArr
  obtain ⟨y802, q801, hm⟩ := bind_some hm
  refine DL_e rfl rfl (Exec.call rfl rfl Tryd.func58 rfl N58 (args_cons rfl args_nil) ((cmp_Or_int__sim q801 hS798 r799).mono ?_))
  rintro _ w803 ⟨_, rfl, ⟨s804, l805, hS806, rfl⟩⟩
  refine ⟨_, rfl, ?_⟩
  refine ⟨ag_nil, ?_⟩
  refine DL_done ?_
  refine WL_step rfl rfl (Exec.assign (v := Value.int .i64 (y802)) rfl rfl ?_)
  refine WL_nil (at_normal ?_)
  refine W_ret ?_
  have e808 := Option.some.inj hm
  subst r
  refine ⟨_, ret1 rfl, ?_⟩
  have hS809 := (hS806).drop
  have hS810 := (hS809).drop
  exact ⟨s804, (PHeap.le.trans (PHeap.le.trans (PHeap.le.trans (PHeap.le.trans l782 l786) l790) l797) l805), hS810, rfl⟩

theorem N22 : (Tryd.f22.name == "runtime.NumGoroutine") = false := by kernel_rfl

theorem transys_Valid_sim {w0 w : World} {s : PHeap} {H : List Res} {x74 : System} {v75 : Value} {v77 : Value} {v79 : Value} {r : Bool} (hm : transys_Valid_p x74 = some r) (hS : St w0 s (H) w) (a76 : SliceRep (encInt .i64) s v75 x74.Costs) (a78 : SliceRep encEdge s v77 x74.Edges) (a80 : SliceRep encBool s v79 x74.Goals) :
    Calls Tryd.prog 22 #[Value.agg #[Value.int .i64 (x74.States), Value.int .i64 (x74.Init), v75, v77, v79]] w fun e w' => ∃ v, e = .returned v ∧ ((fun (y1261 : Bool) => ∃ (s1262 : PHeap) , PHeap.le s s1262 ∧ St w0 s1262 (H) w' ∧ v = Value.bool (y1261)) r) := by
  unfold transys_Valid_p at hm
  refine calls_of_W Tryd.func22 rfl rfl ?_
  refine W_seq ?_
  refine W_region ?_
  refine WL_step rfl rfl (Exec.box (cs := [Value.int .i64 (x74.States), Value.int .i64 (x74.Init), v75, v77, v79]) hS rfl rfl rfl ?_)
  intro b1266 w1267 hS1268
  refine WL_step rfl rfl (Exec.assign (v := Value.bool (false)) rfl rfl ?_)
  refine WL_nil (at_normal ?_)
  refine W_seq ?_
  refine W_seq ?_
  refine W_mid (M := fun f' w' => ∃ (s1275 : PHeap) , PHeap.le s s1275 ∧ St w0 s1275 (Res.box b1266 26 [Value.int .i64 (x74.States), Value.int .i64 (x74.Init), v75, v77, v79] :: H) w' ∧ f' 1 = Value.pointer (some ⟨b1266, 0, none⟩) ∧ f' 46 = Value.bool (((decide (x74.States < 1)) || ((decide (4096 < x74.States)) || ((decide (x74.Init < 0)) || ((decide (x74.States ≤ x74.Init)) || ((!decide ((x74.Goals.length : Int) = x74.States)) || ((decide (4096 < (x74.Costs.length : Int))) || decide (65536 < (x74.Edges.length : Int)))))))))) ?_ ?_
  · refine W_region ?_
    refine WL_step rfl rfl (Exec.field F26_0 rfl rfl rfl ?_)
    refine WL_step rfl rfl (Exec.load_box (hS1268) A3 rfl rfl rfl ?_)
    refine WL_step rfl rfl (Exec.lss rfl rfl rfl ?_)
    refine WL_step rfl rfl (Exec.move (v := Value.bool (decide (x74.States < 1))) rfl rfl ?_)
    by_cases hc1276 : (decide (x74.States < 1)) = true
    · refine WL_pass rfl (yield_of rfl (congrArg Value.bool hc1276)) rfl rfl ?_
      refine WL_pass rfl (yield_of rfl (congrArg Value.bool hc1276)) rfl rfl ?_
      refine WL_pass rfl (yield_of rfl (congrArg Value.bool hc1276)) rfl rfl ?_
      refine WL_step rfl rfl (Exec.pick_t (v := Value.bool (true)) rfl (congrArg Value.bool hc1276) rfl ?_)
      refine WL_step rfl rfl (Exec.move (v := Value.bool (true)) rfl rfl ?_)
      refine WL_pass rfl (yield_of rfl rfl) rfl rfl ?_
      refine WL_pass rfl (yield_of rfl rfl) rfl rfl ?_
      refine WL_pass rfl (yield_of rfl rfl) rfl rfl ?_
      refine WL_step rfl rfl (Exec.pick_t (v := Value.bool (true)) rfl rfl rfl ?_)
      refine WL_step rfl rfl (Exec.move (v := Value.bool (true)) rfl rfl ?_)
      refine WL_pass rfl (yield_of rfl rfl) rfl rfl ?_
      refine WL_pass rfl (yield_of rfl rfl) rfl rfl ?_
      refine WL_pass rfl (yield_of rfl rfl) rfl rfl ?_
      refine WL_pass rfl (yield_of rfl rfl) rfl rfl ?_
      refine WL_pass rfl (yield_of rfl rfl) rfl rfl ?_
      refine WL_step rfl rfl (Exec.pick_t (v := Value.bool (true)) rfl rfl rfl ?_)
      refine WL_step rfl rfl (Exec.move (v := Value.bool (true)) rfl rfl ?_)
      refine WL_pass rfl (yield_of rfl rfl) rfl rfl ?_
      refine WL_pass rfl (yield_of rfl rfl) rfl rfl ?_
      refine WL_pass rfl (yield_of rfl rfl) rfl rfl ?_
      refine WL_pass rfl (yield_of rfl rfl) rfl rfl ?_
      refine WL_pass rfl (yield_of rfl rfl) rfl rfl ?_
      refine WL_pass rfl (yield_of rfl rfl) rfl rfl ?_
      refine WL_step rfl rfl (Exec.pick_t (v := Value.bool (true)) rfl rfl rfl ?_)
      refine WL_step rfl rfl (Exec.move (v := Value.bool (true)) rfl rfl ?_)
      refine WL_pass rfl (yield_of rfl rfl) rfl rfl ?_
      refine WL_pass rfl (yield_of rfl rfl) rfl rfl ?_
      refine WL_pass rfl (yield_of rfl rfl) rfl rfl ?_
      refine WL_pass rfl (yield_of rfl rfl) rfl rfl ?_
      refine WL_step rfl rfl (Exec.pick_t (v := Value.bool (true)) rfl rfl rfl ?_)
      refine WL_step rfl rfl (Exec.move (v := Value.bool (true)) rfl rfl ?_)
      refine WL_pass rfl (yield_of rfl rfl) rfl rfl ?_
      refine WL_pass rfl (yield_of rfl rfl) rfl rfl ?_
      refine WL_pass rfl (yield_of rfl rfl) rfl rfl ?_
      refine WL_pass rfl (yield_of rfl rfl) rfl rfl ?_
      refine WL_step rfl rfl (Exec.pick_t (v := Value.bool (true)) rfl rfl rfl ?_)
      refine WL_nil (at_normal ?_)
      exact ⟨s, (PHeap.le_refl _), hS1268, rfl, (congrArg Value.bool (or_t hc1276)).symm⟩
    · replace hc1276 := not_true hc1276
      refine WL_run rfl (yield_of rfl (congrArg Value.bool hc1276)) rfl (Exec.field F26_0 rfl rfl rfl ?_)
      refine WL_run rfl (yield_of rfl (congrArg Value.bool hc1276)) rfl (Exec.load_box (hS1268) A3 rfl rfl rfl ?_)
      refine WL_run rfl (yield_of rfl (congrArg Value.bool hc1276)) rfl (Exec.gtr rfl rfl rfl ?_)
      refine WL_step rfl rfl (Exec.pick_f (v := Value.bool (decide (4096 < x74.States))) rfl (congrArg Value.bool hc1276) rfl ?_)
      refine WL_step rfl rfl (Exec.move (v := Value.bool (decide (4096 < x74.States))) rfl rfl ?_)
      by_cases hc1277 : (decide (4096 < x74.States)) = true
      · refine WL_pass rfl (yield_of rfl (congrArg Value.bool hc1277)) rfl rfl ?_
        refine WL_pass rfl (yield_of rfl (congrArg Value.bool hc1277)) rfl rfl ?_
        refine WL_pass rfl (yield_of rfl (congrArg Value.bool hc1277)) rfl rfl ?_
        refine WL_step rfl rfl (Exec.pick_t (v := Value.bool (true)) rfl (congrArg Value.bool hc1277) rfl ?_)
        refine WL_step rfl rfl (Exec.move (v := Value.bool (true)) rfl rfl ?_)
        refine WL_pass rfl (yield_of rfl rfl) rfl rfl ?_
        refine WL_pass rfl (yield_of rfl rfl) rfl rfl ?_
        refine WL_pass rfl (yield_of rfl rfl) rfl rfl ?_
        refine WL_pass rfl (yield_of rfl rfl) rfl rfl ?_
        refine WL_pass rfl (yield_of rfl rfl) rfl rfl ?_
        refine WL_step rfl rfl (Exec.pick_t (v := Value.bool (true)) rfl rfl rfl ?_)
        refine WL_step rfl rfl (Exec.move (v := Value.bool (true)) rfl rfl ?_)
        refine WL_pass rfl (yield_of rfl rfl) rfl rfl ?_
        refine WL_pass rfl (yield_of rfl rfl) rfl rfl ?_
        refine WL_pass rfl (yield_of rfl rfl) rfl rfl ?_
        refine WL_pass rfl (yield_of rfl rfl) rfl rfl ?_
        refine WL_pass rfl (yield_of rfl rfl) rfl rfl ?_
        refine WL_pass rfl (yield_of rfl rfl) rfl rfl ?_
        refine WL_step rfl rfl (Exec.pick_t (v := Value.bool (true)) rfl rfl rfl ?_)
        refine WL_step rfl rfl (Exec.move (v := Value.bool (true)) rfl rfl ?_)
        refine WL_pass rfl (yield_of rfl rfl) rfl rfl ?_
        refine WL_pass rfl (yield_of rfl rfl) rfl rfl ?_
        refine WL_pass rfl (yield_of rfl rfl) rfl rfl ?_
        refine WL_pass rfl (yield_of rfl rfl) rfl rfl ?_
        refine WL_step rfl rfl (Exec.pick_t (v := Value.bool (true)) rfl rfl rfl ?_)
        refine WL_step rfl rfl (Exec.move (v := Value.bool (true)) rfl rfl ?_)
        refine WL_pass rfl (yield_of rfl rfl) rfl rfl ?_
        refine WL_pass rfl (yield_of rfl rfl) rfl rfl ?_
        refine WL_pass rfl (yield_of rfl rfl) rfl rfl ?_
        refine WL_pass rfl (yield_of rfl rfl) rfl rfl ?_
        refine WL_step rfl rfl (Exec.pick_t (v := Value.bool (true)) rfl rfl rfl ?_)
        refine WL_nil (at_normal ?_)
        exact ⟨s, (PHeap.le_refl _), hS1268, rfl, (congrArg Value.bool (Eq.trans (or_f hc1276) (or_t hc1277))).symm⟩
      · replace hc1277 := not_true hc1277
        refine WL_run rfl (yield_of rfl (congrArg Value.bool hc1277)) rfl (Exec.field F26_1 rfl rfl rfl ?_)
        refine WL_run rfl (yield_of rfl (congrArg Value.bool hc1277)) rfl (Exec.load_box (hS1268) A3 rfl rfl rfl ?_)
        refine WL_run rfl (yield_of rfl (congrArg Value.bool hc1277)) rfl (Exec.lss rfl rfl rfl ?_)
        refine WL_step rfl rfl (Exec.pick_f (v := Value.bool (decide (x74.Init < 0))) rfl (congrArg Value.bool hc1277) rfl ?_)
        refine WL_step rfl rfl (Exec.move (v := Value.bool (decide (x74.Init < 0))) rfl rfl ?_)
        by_cases hc1278 : (decide (x74.Init < 0)) = true
        · refine WL_pass rfl (yield_of rfl (congrArg Value.bool hc1278)) rfl rfl ?_
          refine WL_pass rfl (yield_of rfl (congrArg Value.bool hc1278)) rfl rfl ?_
          refine WL_pass rfl (yield_of rfl (congrArg Value.bool hc1278)) rfl rfl ?_
          refine WL_pass rfl (yield_of rfl (congrArg Value.bool hc1278)) rfl rfl ?_
          refine WL_pass rfl (yield_of rfl (congrArg Value.bool hc1278)) rfl rfl ?_
          refine WL_step rfl rfl (Exec.pick_t (v := Value.bool (true)) rfl (congrArg Value.bool hc1278) rfl ?_)
          refine WL_step rfl rfl (Exec.move (v := Value.bool (true)) rfl rfl ?_)
          refine WL_pass rfl (yield_of rfl rfl) rfl rfl ?_
          refine WL_pass rfl (yield_of rfl rfl) rfl rfl ?_
          refine WL_pass rfl (yield_of rfl rfl) rfl rfl ?_
          refine WL_pass rfl (yield_of rfl rfl) rfl rfl ?_
          refine WL_pass rfl (yield_of rfl rfl) rfl rfl ?_
          refine WL_pass rfl (yield_of rfl rfl) rfl rfl ?_
          refine WL_step rfl rfl (Exec.pick_t (v := Value.bool (true)) rfl rfl rfl ?_)
          refine WL_step rfl rfl (Exec.move (v := Value.bool (true)) rfl rfl ?_)
          refine WL_pass rfl (yield_of rfl rfl) rfl rfl ?_
          refine WL_pass rfl (yield_of rfl rfl) rfl rfl ?_
          refine WL_pass rfl (yield_of rfl rfl) rfl rfl ?_
          refine WL_pass rfl (yield_of rfl rfl) rfl rfl ?_
          refine WL_step rfl rfl (Exec.pick_t (v := Value.bool (true)) rfl rfl rfl ?_)
          refine WL_step rfl rfl (Exec.move (v := Value.bool (true)) rfl rfl ?_)
          refine WL_pass rfl (yield_of rfl rfl) rfl rfl ?_
          refine WL_pass rfl (yield_of rfl rfl) rfl rfl ?_
          refine WL_pass rfl (yield_of rfl rfl) rfl rfl ?_
          refine WL_pass rfl (yield_of rfl rfl) rfl rfl ?_
          refine WL_step rfl rfl (Exec.pick_t (v := Value.bool (true)) rfl rfl rfl ?_)
          refine WL_nil (at_normal ?_)
          exact ⟨s, (PHeap.le_refl _), hS1268, rfl, (congrArg Value.bool (Eq.trans (or_f hc1276) (Eq.trans (or_f hc1277) (or_t hc1278)))).symm⟩
        · replace hc1278 := not_true hc1278
          refine WL_run rfl (yield_of rfl (congrArg Value.bool hc1278)) rfl (Exec.field F26_1 rfl rfl rfl ?_)
          refine WL_run rfl (yield_of rfl (congrArg Value.bool hc1278)) rfl (Exec.load_box (hS1268) A3 rfl rfl rfl ?_)
          refine WL_run rfl (yield_of rfl (congrArg Value.bool hc1278)) rfl (Exec.field F26_0 rfl rfl rfl ?_)
          refine WL_run rfl (yield_of rfl (congrArg Value.bool hc1278)) rfl (Exec.load_box (hS1268) A3 rfl rfl rfl ?_)
          refine WL_run rfl (yield_of rfl (congrArg Value.bool hc1278)) rfl (Exec.geq rfl rfl rfl ?_)
          refine WL_step rfl rfl (Exec.pick_f (v := Value.bool (decide (x74.States ≤ x74.Init))) rfl (congrArg Value.bool hc1278) rfl ?_)
          refine WL_step rfl rfl (Exec.move (v := Value.bool (decide (x74.States ≤ x74.Init))) rfl rfl ?_)
          by_cases hc1279 : (decide (x74.States ≤ x74.Init)) = true
          · refine WL_pass rfl (yield_of rfl (congrArg Value.bool hc1279)) rfl rfl ?_
            refine WL_pass rfl (yield_of rfl (congrArg Value.bool hc1279)) rfl rfl ?_
            refine WL_pass rfl (yield_of rfl (congrArg Value.bool hc1279)) rfl rfl ?_
            refine WL_pass rfl (yield_of rfl (congrArg Value.bool hc1279)) rfl rfl ?_
            refine WL_pass rfl (yield_of rfl (congrArg Value.bool hc1279)) rfl rfl ?_
            refine WL_pass rfl (yield_of rfl (congrArg Value.bool hc1279)) rfl rfl ?_
            refine WL_step rfl rfl (Exec.pick_t (v := Value.bool (true)) rfl (congrArg Value.bool hc1279) rfl ?_)
            refine WL_step rfl rfl (Exec.move (v := Value.bool (true)) rfl rfl ?_)
            refine WL_pass rfl (yield_of rfl rfl) rfl rfl ?_
            refine WL_pass rfl (yield_of rfl rfl) rfl rfl ?_
            refine WL_pass rfl (yield_of rfl rfl) rfl rfl ?_
            refine WL_pass rfl (yield_of rfl rfl) rfl rfl ?_
            refine WL_step rfl rfl (Exec.pick_t (v := Value.bool (true)) rfl rfl rfl ?_)
            refine WL_step rfl rfl (Exec.move (v := Value.bool (true)) rfl rfl ?_)
            refine WL_pass rfl (yield_of rfl rfl) rfl rfl ?_
            refine WL_pass rfl (yield_of rfl rfl) rfl rfl ?_
            refine WL_pass rfl (yield_of rfl rfl) rfl rfl ?_
            refine WL_pass rfl (yield_of rfl rfl) rfl rfl ?_
            refine WL_step rfl rfl (Exec.pick_t (v := Value.bool (true)) rfl rfl rfl ?_)
            refine WL_nil (at_normal ?_)
            exact ⟨s, (PHeap.le_refl _), hS1268, rfl, (congrArg Value.bool (Eq.trans (or_f hc1276) (Eq.trans (or_f hc1277) (Eq.trans (or_f hc1278) (or_t hc1279))))).symm⟩
          · replace hc1279 := not_true hc1279
            refine WL_run rfl (yield_of rfl (congrArg Value.bool hc1279)) rfl (Exec.field F26_4 rfl rfl rfl ?_)
            refine WL_run rfl (yield_of rfl (congrArg Value.bool hc1279)) rfl (Exec.load_box (hS1268) A24 rfl rfl rfl ?_)
            refine WL_run rfl (yield_of rfl (congrArg Value.bool hc1279)) rfl (Exec.len_rep S24 rfl rfl a80 ?_)
            refine WL_run rfl (yield_of rfl (congrArg Value.bool hc1279)) rfl (Exec.field F26_0 rfl rfl rfl ?_)
            refine WL_run rfl (yield_of rfl (congrArg Value.bool hc1279)) rfl (Exec.load_box (hS1268) A3 rfl rfl rfl ?_)
            refine WL_run rfl (yield_of rfl (congrArg Value.bool hc1279)) rfl (Exec.neq rfl rfl rfl ?_)
            refine WL_step rfl rfl (Exec.pick_f (v := Value.bool (!decide ((x74.Goals.length : Int) = x74.States))) rfl (congrArg Value.bool hc1279) rfl ?_)
            refine WL_step rfl rfl (Exec.move (v := Value.bool (!decide ((x74.Goals.length : Int) = x74.States))) rfl rfl ?_)
            by_cases hc1280 : (!decide ((x74.Goals.length : Int) = x74.States)) = true
            · refine WL_pass rfl (yield_of rfl (congrArg Value.bool hc1280)) rfl rfl ?_
              refine WL_pass rfl (yield_of rfl (congrArg Value.bool hc1280)) rfl rfl ?_
              refine WL_pass rfl (yield_of rfl (congrArg Value.bool hc1280)) rfl rfl ?_
              refine WL_pass rfl (yield_of rfl (congrArg Value.bool hc1280)) rfl rfl ?_
              refine WL_step rfl rfl (Exec.pick_t (v := Value.bool (true)) rfl (congrArg Value.bool hc1280) rfl ?_)
              refine WL_step rfl rfl (Exec.move (v := Value.bool (true)) rfl rfl ?_)
              refine WL_pass rfl (yield_of rfl rfl) rfl rfl ?_
              refine WL_pass rfl (yield_of rfl rfl) rfl rfl ?_
              refine WL_pass rfl (yield_of rfl rfl) rfl rfl ?_
              refine WL_pass rfl (yield_of rfl rfl) rfl rfl ?_
              refine WL_step rfl rfl (Exec.pick_t (v := Value.bool (true)) rfl rfl rfl ?_)
              refine WL_nil (at_normal ?_)
              exact ⟨s, (PHeap.le_refl _), hS1268, rfl, (congrArg Value.bool (Eq.trans (or_f hc1276) (Eq.trans (or_f hc1277) (Eq.trans (or_f hc1278) (Eq.trans (or_f hc1279) (or_t hc1280)))))).symm⟩
            · replace hc1280 := not_true hc1280
              refine WL_run rfl (yield_of rfl (congrArg Value.bool hc1280)) rfl (Exec.field F26_2 rfl rfl rfl ?_)
              refine WL_run rfl (yield_of rfl (congrArg Value.bool hc1280)) rfl (Exec.load_box (hS1268) A22 rfl rfl rfl ?_)
              refine WL_run rfl (yield_of rfl (congrArg Value.bool hc1280)) rfl (Exec.len_rep S22 rfl rfl a76 ?_)
              refine WL_run rfl (yield_of rfl (congrArg Value.bool hc1280)) rfl (Exec.gtr rfl rfl rfl ?_)
              refine WL_step rfl rfl (Exec.pick_f (v := Value.bool (decide (4096 < (x74.Costs.length : Int)))) rfl (congrArg Value.bool hc1280) rfl ?_)
              refine WL_step rfl rfl (Exec.move (v := Value.bool (decide (4096 < (x74.Costs.length : Int)))) rfl rfl ?_)
              by_cases hc1281 : (decide (4096 < (x74.Costs.length : Int))) = true
              · refine WL_pass rfl (yield_of rfl (congrArg Value.bool hc1281)) rfl rfl ?_
                refine WL_pass rfl (yield_of rfl (congrArg Value.bool hc1281)) rfl rfl ?_
                refine WL_pass rfl (yield_of rfl (congrArg Value.bool hc1281)) rfl rfl ?_
                refine WL_pass rfl (yield_of rfl (congrArg Value.bool hc1281)) rfl rfl ?_
                refine WL_step rfl rfl (Exec.pick_t (v := Value.bool (true)) rfl (congrArg Value.bool hc1281) rfl ?_)
                refine WL_nil (at_normal ?_)
                exact ⟨s, (PHeap.le_refl _), hS1268, rfl, (congrArg Value.bool (Eq.trans (or_f hc1276) (Eq.trans (or_f hc1277) (Eq.trans (or_f hc1278) (Eq.trans (or_f hc1279) (Eq.trans (or_f hc1280) (or_t hc1281))))))).symm⟩
              · replace hc1281 := not_true hc1281
                refine WL_run rfl (yield_of rfl (congrArg Value.bool hc1281)) rfl (Exec.field F26_3 rfl rfl rfl ?_)
                refine WL_run rfl (yield_of rfl (congrArg Value.bool hc1281)) rfl (Exec.load_box (hS1268) A23 rfl rfl rfl ?_)
                refine WL_run rfl (yield_of rfl (congrArg Value.bool hc1281)) rfl (Exec.len_rep S23 rfl rfl a78 ?_)
                refine WL_run rfl (yield_of rfl (congrArg Value.bool hc1281)) rfl (Exec.gtr rfl rfl rfl ?_)
                refine WL_step rfl rfl (Exec.pick_f (v := Value.bool (decide (65536 < (x74.Edges.length : Int)))) rfl (congrArg Value.bool hc1281) rfl ?_)
                refine WL_nil (at_normal ?_)
                exact ⟨s, (PHeap.le_refl _), hS1268, rfl, (congrArg Value.bool (Eq.trans (or_f hc1276) (Eq.trans (or_f hc1277) (Eq.trans (or_f hc1278) (Eq.trans (or_f hc1279) (Eq.trans (or_f hc1280) (or_f hc1281))))))).symm⟩
  · intro f1282 w1283 hM1284
    obtain ⟨s1285, l1286, hS1287, p1288, p1289⟩ := hM1284
    refine (at_normal ?_)
    rcases ite_some hm with ⟨hc1290, hm⟩ | ⟨hc1290, hm⟩
    · refine W_cond_t p1289 hc1290 ?_
      refine W_seq ?_
      refine W_region ?_
      refine WL_step rfl rfl (Exec.assign (v := Value.bool (false)) rfl rfl ?_)
      refine WL_nil (at_normal ?_)
      refine W_ret (at_ret ?_)
      have e1292 := Option.some.inj hm
      subst r
      refine ⟨_, ret1 rfl, ?_⟩
      have hS1293 := (hS1287).drop
      exact ⟨s1285, l1286, hS1293, rfl⟩
    · refine W_cond_f p1289 hc1290 ?_
      replace hc1290 := not_true hc1290
      refine W_skip (at_normal ?_)
      refine W_seq ?_
      refine W_seq ?_
      refine W_region ?_
      refine WL_step rfl rfl (Exec.field F26_2 rfl p1288 rfl ?_)
      refine WL_step rfl rfl (Exec.load_box (hS1287) A22 rfl rfl rfl ?_)
      refine WL_step rfl rfl (Exec.len_rep S22 rfl rfl (a76.mono l1286) ?_)
      refine WL_step rfl rfl (Exec.move (v := Value.int .i64 (0)) rfl rfl ?_)
      refine WL_nil (at_normal ?_)
      obtain ⟨c1355, hB1356, hr1357, hn1358, hb1359⟩ := ctl_some hm
      refine W_mid (M := fun f' w' => ∃ s', (c1355 = .next s' ∨ c1355 = .brk s') ∧ (fun (_ : Unit) => ∃ (s1361 : PHeap) , PHeap.le s1285 s1361 ∧ St w0 s1361 (Res.box b1266 26 [Value.int .i64 (x74.States), Value.int .i64 (x74.Init), v75, v77, v79] :: H) w' ∧ f' 1 = Value.pointer (some ⟨b1266, 0, none⟩) ∧ f' 48 = v75 ∧ f' 49 = Value.int .i64 ((x74.Costs.length : Int))) s') ?_ ?_
      · refine W_block (W_forC (fun k' s' f' w' => (fun (_ : Unit) => ∃ (s1360 : PHeap) , PHeap.le s1285 s1360 ∧ St w0 s1360 (Res.box b1266 26 [Value.int .i64 (x74.States), Value.int .i64 (x74.Init), v75, v77, v79] :: H) w' ∧ f' 1 = Value.pointer (some ⟨b1266, 0, none⟩) ∧ f' 48 = v75 ∧ f' 49 = Value.int .i64 ((x74.Costs.length : Int)) ∧ f' 50 = Value.int .i64 (k' : Int)) s') hB1356 ?_ ?_ ?_)
        · exact ⟨s1285, (PHeap.le_refl _), hS1287, p1288, rfl, rfl, rfl⟩
        · intro i1294 t1369 c1363 f1364 w1365 hi1370 hI1366 hm1367 hres1368
          obtain ⟨s1371, l1372, hS1373, p1374, p1375, p1376, x1377⟩ := hI1366
          refine W_seq ?_
          refine W_region ?_
          refine WL_step rfl rfl (Exec.lss rfl x1377 p1376 ?_)
          refine WL_nil (at_normal ?_)
          refine W_seq ?_
          refine W_true (congrArg Value.bool (decide_eq_true (by omega))) ?_
          refine W_skip (at_normal ?_)
          refine W_seq ?_
          refine W_block ?_
          refine W_seq ?_
          refine W_region ?_
          obtain ⟨x1385, q1386, hm1367⟩ := bind_some hm1367
          refine WL_step rfl rfl (Exec.index_rep S22 rfl p1375 x1377 (a76.mono (PHeap.le.trans l1286 l1372)) q1386 ?_)
          intro b1387 o1388 a1389
          refine WL_step rfl rfl (Exec.load_at (E := (encInt .i64)) hS1373 A3 rfl rfl rfl a1389 ?_)
          intro v1390 q1391
          obtain rfl := encInt_val.1 q1391
          refine WL_step rfl rfl (Exec.assign (v := Value.int .i64 (x1385)) rfl rfl ?_)
          refine WL_nil (at_normal ?_)
          refine W_seq ?_
          refine W_mid (M := fun f' w' => ∃ (s1393 : PHeap) , PHeap.le s1371 s1393 ∧ St w0 s1393 (Res.box b1266 26 [Value.int .i64 (x74.States), Value.int .i64 (x74.Init), v75, v77, v79] :: H) w' ∧ f' 1 = Value.pointer (some ⟨b1266, 0, none⟩) ∧ f' 48 = v75 ∧ f' 49 = Value.int .i64 ((x74.Costs.length : Int)) ∧ f' 50 = Value.int .i64 ((i1294 : Int)) ∧ f' 59 = Value.bool (((decide (x1385 < 0)) || decide (1048576 < x1385)))) ?_ ?_
          · refine W_region ?_
            refine WL_step rfl rfl (Exec.move (v := Value.int .i64 (x1385)) rfl rfl ?_)
            refine WL_step rfl rfl (Exec.lss rfl rfl rfl ?_)
            refine WL_step rfl rfl (Exec.move (v := Value.bool (decide (x1385 < 0))) rfl rfl ?_)
            by_cases hc1394 : (decide (x1385 < 0)) = true
            · refine WL_pass rfl (yield_of rfl (congrArg Value.bool hc1394)) rfl rfl ?_
              refine WL_pass rfl (yield_of rfl (congrArg Value.bool hc1394)) rfl rfl ?_
              refine WL_step rfl rfl (Exec.pick_t (v := Value.bool (true)) rfl (congrArg Value.bool hc1394) rfl ?_)
              refine WL_nil (at_normal ?_)
              exact ⟨s1371, (PHeap.le_refl _), hS1373, p1374, p1375, p1376, x1377, (congrArg Value.bool (or_t hc1394)).symm⟩
            · replace hc1394 := not_true hc1394
              refine WL_run rfl (yield_of rfl (congrArg Value.bool hc1394)) rfl (Exec.move (v := Value.int .i64 (x1385)) rfl rfl ?_)
              refine WL_run rfl (yield_of rfl (congrArg Value.bool hc1394)) rfl (Exec.gtr rfl rfl rfl ?_)
              refine WL_step rfl rfl (Exec.pick_f (v := Value.bool (decide (1048576 < x1385))) rfl (congrArg Value.bool hc1394) rfl ?_)
              refine WL_nil (at_normal ?_)
              exact ⟨s1371, (PHeap.le_refl _), hS1373, p1374, p1375, p1376, x1377, (congrArg Value.bool (or_f hc1394)).symm⟩
          · intro f1395 w1396 hM1397
            obtain ⟨s1398, l1399, hS1400, p1401, p1402, p1403, p1404, p1405⟩ := hM1397
            refine (at_normal ?_)
            rcases ite_some hm1367 with ⟨hc1406, hm1367⟩ | ⟨hc1406, hm1367⟩
            · refine W_cond_t p1405 hc1406 ?_
              refine W_seq ?_
              refine W_region ?_
              refine WL_step rfl rfl (Exec.assign (v := Value.bool (false)) rfl rfl ?_)
              refine WL_nil (at_normal ?_)
              refine W_ret (ib_ret (at_ret (at_ret (ib_ret (at_ret (at_ret ?_))))))
              have e1407 := Option.some.inj hm1367
              subst c1363
              have hq1408 := hr1357 _ (hres1368 (by intro _ h; cases h))
              have e1409 := Option.some.inj hq1408
              subst r
              refine ⟨_, ret1 rfl, ?_⟩
              have hS1410 := (hS1400).drop
              exact ⟨s1398, (PHeap.le.trans (PHeap.le.trans l1286 l1372) l1399), hS1410, rfl⟩
            · refine W_cond_f p1405 hc1406 ?_
              replace hc1406 := not_true hc1406
              refine W_skip (ib_normal (at_normal ?_))
              refine W_region ?_
              refine WL_step rfl rfl (Exec.add rfl p1404 rfl ?_)
              refine WL_step rfl rfl (Exec.move (v := Value.int .i64 (IntKind.i64.wrap ((i1294 : Int) + 1))) rfl rfl ?_)
              refine WL_nil (at_normal ?_)
              have e1411 := Option.some.inj hm1367
              subst c1363
              refine ⟨_, rfl, ?_⟩; exact ⟨s1398, (PHeap.le.trans l1372 l1399), hS1400, p1401, p1402, p1403, (Eq.trans rfl (wrap_up hi1370 (SliceRep.le (a76.mono l1286))))⟩
        · intro t1412 f1413 w1414 hI1415 hres1416
          obtain ⟨s1417, l1418, hS1419, p1420, p1421, p1422, x1423⟩ := hI1415
          refine W_seq ?_
          refine W_region ?_
          refine WL_step rfl rfl (Exec.lss rfl x1423 p1422 ?_)
          refine WL_nil (at_normal ?_)
          refine W_seq ?_
          refine W_false (congrArg Value.bool (decide_eq_false (by omega))) ?_
          refine W_exit (at_exit (at_exit (ib_here (at_normal ?_))))
          refine ⟨_, .inl hres1416, ?_⟩; exact ⟨s1417, l1418, hS1419, p1420, p1421, p1422⟩
      · rintro f1424 w1425 ⟨t1426, hc1427, hM1428⟩
        have hm := hc1427.elim (hn1358 _) (hb1359 _)
        clear hc1427
        obtain ⟨s1429, l1430, hS1431, p1432, p1433, p1434⟩ := hM1428
        refine (at_normal ?_)
        refine W_seq ?_
        refine W_seq ?_
        refine W_region ?_
        refine WL_step rfl rfl (Exec.field F26_3 rfl p1432 rfl ?_)
        refine WL_step rfl rfl (Exec.load_box (hS1431) A23 rfl rfl rfl ?_)
        refine WL_step rfl rfl (Exec.len_rep S23 rfl rfl (a78.mono (PHeap.le.trans l1286 l1430)) ?_)
        refine WL_step rfl rfl (Exec.move (v := Value.int .i64 (0)) rfl rfl ?_)
        refine WL_nil (at_normal ?_)
        obtain ⟨c1732, hB1733, hr1734, hn1735, hb1736⟩ := ctl_some hm
        refine W_mid (M := fun f' w' => ∃ s', (c1732 = .next s' ∨ c1732 = .brk s') ∧ (fun (_ : Unit) => ∃ (s1738 : PHeap) , PHeap.le s1429 s1738 ∧ St w0 s1738 (Res.box b1266 26 [Value.int .i64 (x74.States), Value.int .i64 (x74.Init), v75, v77, v79] :: H) w' ∧ f' 1 = Value.pointer (some ⟨b1266, 0, none⟩) ∧ f' 62 = v77 ∧ f' 63 = Value.int .i64 ((x74.Edges.length : Int))) s') ?_ ?_
        · refine W_block (W_forC (fun k' s' f' w' => (fun (_ : Unit) => ∃ (s1737 : PHeap) , PHeap.le s1429 s1737 ∧ St w0 s1737 (Res.box b1266 26 [Value.int .i64 (x74.States), Value.int .i64 (x74.Init), v75, v77, v79] :: H) w' ∧ f' 1 = Value.pointer (some ⟨b1266, 0, none⟩) ∧ f' 62 = v77 ∧ f' 63 = Value.int .i64 ((x74.Edges.length : Int)) ∧ f' 64 = Value.int .i64 (k' : Int)) s') hB1733 ?_ ?_ ?_)
          · exact ⟨s1429, (PHeap.le_refl _), hS1431, p1432, rfl, rfl, rfl⟩
          · intro i1435 t1746 c1740 f1741 w1742 hi1747 hI1743 hm1744 hres1745
            obtain ⟨s1748, l1749, hS1750, p1751, p1752, p1753, x1754⟩ := hI1743
            refine W_seq ?_
            refine W_region ?_
            refine WL_step rfl rfl (Exec.lss rfl x1754 p1753 ?_)
            refine WL_nil (at_normal ?_)
            refine W_seq ?_
            refine W_true (congrArg Value.bool (decide_eq_true (by omega))) ?_
            refine W_skip (at_normal ?_)
            refine W_seq ?_
            refine W_block ?_
            refine W_seq ?_
            refine W_region ?_
            refine WL_step rfl rfl (Exec.move (v := Value.int .i64 ((i1435 : Int))) rfl x1754 ?_)
            obtain ⟨x1767, q1768, hm1744⟩ := bind_some hm1744
            refine WL_step rfl rfl (Exec.index_rep S23 rfl p1752 x1754 (a78.mono (PHeap.le.trans (PHeap.le.trans l1286 l1430) l1749)) q1768 ?_)
            intro b1769 o1770 a1771
            refine WL_step rfl rfl (Exec.load_at (E := encEdge) hS1750 A53 rfl rfl rfl a1771 ?_)
            intro v1772 q1773
            obtain rfl := encEdge_val.1 q1773
            refine WL_step rfl rfl (Exec.alloc (cs := [Value.int .i64 (0), Value.int .i64 (0), Value.int .i64 (0)]) hS1750 Z53 rfl rfl ?_)
            intro b1774 w1775 hS1776
            refine WL_step rfl rfl (Exec.assign (v := Value.int .i64 ((i1435 : Int))) rfl rfl ?_)
            refine WL_step rfl rfl (Exec.store_box (ds := [Value.int .i64 (x1767.From), Value.int .i64 (x1767.Label), Value.int .i64 (x1767.To)]) (es := [Value.int .i64 (x1767.From), Value.int .i64 (x1767.Label), Value.int .i64 (x1767.To)]) hS1776 A53 rfl rfl rfl rfl (one_cons rfl (one_cons rfl (one_cons rfl one_nil))) (Nat.le_of_ble_eq_true rfl) rfl ?_)
            intro w1777 hS1778
            refine WL_nil (at_normal ?_)
            refine W_seq ?_
            obtain ⟨z1825, ht1826, hm1744⟩ := bind_some hm1744
            refine W_mid (M := fun f' w' => (fun (z1825 : Bool) => ∃ (s1827 : PHeap) , PHeap.le s1748 s1827 ∧ St w0 s1827 (Res.box b1266 26 [Value.int .i64 (x74.States), Value.int .i64 (x74.Init), v75, v77, v79] :: H) w' ∧ f' 1 = Value.pointer (some ⟨b1266, 0, none⟩) ∧ f' 62 = v77 ∧ f' 63 = Value.int .i64 ((x74.Edges.length : Int)) ∧ f' 64 = Value.int .i64 ((i1435 : Int)) ∧ f' 118 = Value.bool (z1825)) z1825) ?_ ?_
            · refine W_dl (n0 := 50) (.q 0 (.q 1 (.q 2 (.q 3 (.q 4 (.q 5 (.q 6 (.q 7 (.q 8 (.q 9 (.q 10 (.q 11 (.q 12 (.q 13 (.q 14 (.q 15 (.q 16 (.q 17 (.q 18 (.q 19 (.q 20 (.q 21 (.q 22 (.q 23 (.q 24 (.q 25 (.q 26 (.q 27 (.q 28 (.q 29 (.q 30 (.q 31 (.q 32 (.q 33 (.q 34 (.q 35 (.q 36 (.q 37 (.q 38 (.q 39 (.q 40 (.q 41 (.q 42 (.q 43 (.q 44 (.q 45 (.e 46 [] (.q 47 (.q 48 (.q 49 .done)))))))))))))))))))))))))))))))))))))))))))))))))) hmix (by kernel_rfl) (by kernel_rfl) ?_
              have hS1851 := hS1778.drew
              refine DL_q rfl rfl (Exec.field F53_0 rfl rfl rfl ⟨rfl, ?_⟩)
              refine DL_q rfl rfl (Exec.load_box (hS1851) A3 rfl rfl rfl ⟨rfl, ?_⟩)
              refine DL_q rfl rfl (Exec.lss rfl rfl rfl ⟨rfl, ?_⟩)
              refine DL_q rfl rfl (Exec.move (v := Value.bool (decide (x1767.From < 0))) rfl rfl ⟨rfl, ?_⟩)
              rcases ite_some ht1826 with ⟨hc1852, ht1826⟩ | ⟨hc1852, ht1826⟩
              · refine DL_qp rfl rfl (yield_of rfl (congrArg Value.bool hc1852)) rfl ?_
                refine DL_qp rfl rfl (yield_of rfl (congrArg Value.bool hc1852)) rfl ?_
                refine DL_qp rfl rfl (yield_of rfl (congrArg Value.bool hc1852)) rfl ?_
                refine DL_qp rfl rfl (yield_of rfl (congrArg Value.bool hc1852)) rfl ?_
                refine DL_qp rfl rfl (yield_of rfl (congrArg Value.bool hc1852)) rfl ?_
                refine DL_q rfl rfl (Exec.pick_t (v := Value.bool (true)) rfl (congrArg Value.bool hc1852) rfl ⟨rfl, ?_⟩)
                refine DL_q rfl rfl (Exec.move (v := Value.bool (true)) rfl rfl ⟨rfl, ?_⟩)
                refine DL_qp rfl rfl (yield_of rfl rfl) rfl ?_
                refine DL_qp rfl rfl (yield_of rfl rfl) rfl ?_
                refine DL_qp rfl rfl (yield_of rfl rfl) rfl ?_
                refine DL_q rfl rfl (Exec.pick_t (v := Value.bool (true)) rfl rfl rfl ⟨rfl, ?_⟩)
                refine DL_q rfl rfl (Exec.move (v := Value.bool (true)) rfl rfl ⟨rfl, ?_⟩)
                refine DL_qp rfl rfl (yield_of rfl rfl) rfl ?_
                refine DL_qp rfl rfl (yield_of rfl rfl) rfl ?_
                refine DL_qp rfl rfl (yield_of rfl rfl) rfl ?_
                refine DL_qp rfl rfl (yield_of rfl rfl) rfl ?_
                refine DL_qp rfl rfl (yield_of rfl rfl) rfl ?_
                refine DL_q rfl rfl (Exec.pick_t (v := Value.bool (true)) rfl rfl rfl ⟨rfl, ?_⟩)
                refine DL_q rfl rfl (Exec.move (v := Value.bool (true)) rfl rfl ⟨rfl, ?_⟩)
                refine DL_qp rfl rfl (yield_of rfl rfl) rfl ?_
                refine DL_qp rfl rfl (yield_of rfl rfl) rfl ?_
                refine DL_qp rfl rfl (yield_of rfl rfl) rfl ?_
                refine DL_q rfl rfl (Exec.pick_t (v := Value.bool (true)) rfl rfl rfl ⟨rfl, ?_⟩)
                refine DL_q rfl rfl (Exec.move (v := Value.bool (true)) rfl rfl ⟨rfl, ?_⟩)
                refine DL_qp rfl rfl (yield_of rfl rfl) rfl ?_
                refine DL_qp rfl rfl (yield_of rfl rfl) rfl ?_
                refine DL_qp rfl rfl (yield_of rfl rfl) rfl ?_
                refine DL_qp rfl rfl (yield_of rfl rfl) rfl ?_
                refine DL_qp rfl rfl (yield_of rfl rfl) rfl ?_
                refine DL_qp rfl rfl (yield_of rfl rfl) rfl ?_
                refine DL_q rfl rfl (Exec.pick_t (v := Value.bool (true)) rfl rfl rfl ⟨rfl, ?_⟩)
                refine DL_q rfl rfl (Exec.move (v := Value.bool (true)) rfl rfl ⟨rfl, ?_⟩)
                refine DL_qp rfl rfl (yield_of rfl rfl) rfl ?_
                refine DL_qp rfl rfl (yield_of rfl rfl) rfl ?_
                refine DL_qp rfl rfl (yield_of rfl rfl) rfl ?_
                refine DL_qn rfl rfl (yield_undef rfl rfl) ?_
                refine DL_qn rfl rfl (yield_undef rfl rfl) ?_
                refine DL_qn rfl rfl (yield_undef rfl rfl) ?_
                refine DL_qn rfl rfl (yield_undef rfl rfl) ?_
                refine DL_qn rfl rfl (yield_undef rfl rfl) ?_
                refine DL_qn rfl rfl (yield_undef rfl rfl) ?_
                refine DL_qn rfl rfl (yield_undef rfl rfl) ?_
                refine DL_en rfl rfl (yield_undef rfl rfl) ?_
                refine DL_qn rfl rfl (yield_undef rfl rfl) ?_
                refine DL_qp rfl rfl (yield_of rfl rfl) rfl ?_
                refine DL_q rfl rfl (Exec.pick_t (v := Value.bool (true)) rfl rfl rfl ⟨rfl, ?_⟩)
                refine DL_done ?_
                refine WL_nil (at_normal ?_)
                have e1853 := Option.some.inj ht1826
                subst z1825
                have hS1854 := (hS1851).drop
                exact ⟨s1748, (PHeap.le_refl _), hS1854, p1751, p1752, p1753, x1754, rfl⟩
              · replace hc1852 := not_true hc1852
                refine DL_qg rfl rfl (yield_of rfl (congrArg Value.bool hc1852)) (Exec.field F53_0 rfl rfl rfl ⟨rfl, ?_⟩)
                refine DL_qg rfl rfl (yield_of rfl (congrArg Value.bool hc1852)) (Exec.load_box (hS1851) A3 rfl rfl rfl ⟨rfl, ?_⟩)
                refine DL_qg rfl rfl (yield_of rfl (congrArg Value.bool hc1852)) (Exec.field F26_0 rfl p1751 rfl ⟨rfl, ?_⟩)
                refine DL_qg rfl rfl (yield_of rfl (congrArg Value.bool hc1852)) (Exec.load_box ((hS1851).f1) A3 rfl rfl rfl ⟨rfl, ?_⟩)
                refine DL_qg rfl rfl (yield_of rfl (congrArg Value.bool hc1852)) (Exec.geq rfl rfl rfl ⟨rfl, ?_⟩)
                refine DL_q rfl rfl (Exec.pick_f (v := Value.bool (decide (x74.States ≤ x1767.From))) rfl (congrArg Value.bool hc1852) rfl ⟨rfl, ?_⟩)
                refine DL_q rfl rfl (Exec.move (v := Value.bool (decide (x74.States ≤ x1767.From))) rfl rfl ⟨rfl, ?_⟩)
                rcases ite_some ht1826 with ⟨hc1855, ht1826⟩ | ⟨hc1855, ht1826⟩
                · refine DL_qp rfl rfl (yield_of rfl (congrArg Value.bool hc1855)) rfl ?_
                  refine DL_qp rfl rfl (yield_of rfl (congrArg Value.bool hc1855)) rfl ?_
                  refine DL_qp rfl rfl (yield_of rfl (congrArg Value.bool hc1855)) rfl ?_
                  refine DL_q rfl rfl (Exec.pick_t (v := Value.bool (true)) rfl (congrArg Value.bool hc1855) rfl ⟨rfl, ?_⟩)
                  refine DL_q rfl rfl (Exec.move (v := Value.bool (true)) rfl rfl ⟨rfl, ?_⟩)
                  refine DL_qp rfl rfl (yield_of rfl rfl) rfl ?_
                  refine DL_qp rfl rfl (yield_of rfl rfl) rfl ?_
                  refine DL_qp rfl rfl (yield_of rfl rfl) rfl ?_
                  refine DL_qp rfl rfl (yield_of rfl rfl) rfl ?_
                  refine DL_qp rfl rfl (yield_of rfl rfl) rfl ?_
                  refine DL_q rfl rfl (Exec.pick_t (v := Value.bool (true)) rfl rfl rfl ⟨rfl, ?_⟩)
                  refine DL_q rfl rfl (Exec.move (v := Value.bool (true)) rfl rfl ⟨rfl, ?_⟩)
                  refine DL_qp rfl rfl (yield_of rfl rfl) rfl ?_
                  refine DL_qp rfl rfl (yield_of rfl rfl) rfl ?_
                  refine DL_qp rfl rfl (yield_of rfl rfl) rfl ?_
                  refine DL_q rfl rfl (Exec.pick_t (v := Value.bool (true)) rfl rfl rfl ⟨rfl, ?_⟩)
                  refine DL_q rfl rfl (Exec.move (v := Value.bool (true)) rfl rfl ⟨rfl, ?_⟩)
                  refine DL_qp rfl rfl (yield_of rfl rfl) rfl ?_
                  refine DL_qp rfl rfl (yield_of rfl rfl) rfl ?_
                  refine DL_qp rfl rfl (yield_of rfl rfl) rfl ?_
                  refine DL_qp rfl rfl (yield_of rfl rfl) rfl ?_
                  refine DL_qp rfl rfl (yield_of rfl rfl) rfl ?_
                  refine DL_qp rfl rfl (yield_of rfl rfl) rfl ?_
                  refine DL_q rfl rfl (Exec.pick_t (v := Value.bool (true)) rfl rfl rfl ⟨rfl, ?_⟩)
                  refine DL_q rfl rfl (Exec.move (v := Value.bool (true)) rfl rfl ⟨rfl, ?_⟩)
                  refine DL_qp rfl rfl (yield_of rfl rfl) rfl ?_
                  refine DL_qp rfl rfl (yield_of rfl rfl) rfl ?_
                  refine DL_qp rfl rfl (yield_of rfl rfl) rfl ?_
                  refine DL_qn rfl rfl (yield_undef rfl rfl) ?_
                  refine DL_qn rfl rfl (yield_undef rfl rfl) ?_
                  refine DL_qn rfl rfl (yield_undef rfl rfl) ?_
                  refine DL_qn rfl rfl (yield_undef rfl rfl) ?_
                  refine DL_qn rfl rfl (yield_undef rfl rfl) ?_
                  refine DL_qn rfl rfl (yield_undef rfl rfl) ?_
                  refine DL_qn rfl rfl (yield_undef rfl rfl) ?_
                  refine DL_en rfl rfl (yield_undef rfl rfl) ?_
                  refine DL_qn rfl rfl (yield_undef rfl rfl) ?_
                  refine DL_qp rfl rfl (yield_of rfl rfl) rfl ?_
                  refine DL_q rfl rfl (Exec.pick_t (v := Value.bool (true)) rfl rfl rfl ⟨rfl, ?_⟩)
                  refine DL_done ?_
                  refine WL_nil (at_normal ?_)
                  have e1856 := Option.some.inj ht1826
                  subst z1825
                  have hS1857 := (hS1851).drop
                  exact ⟨s1748, (PHeap.le_refl _), hS1857, p1751, p1752, p1753, x1754, rfl⟩
                · replace hc1855 := not_true hc1855
                  refine DL_qg rfl rfl (yield_of rfl (congrArg Value.bool hc1855)) (Exec.field F53_2 rfl rfl rfl ⟨rfl, ?_⟩)
                  refine DL_qg rfl rfl (yield_of rfl (congrArg Value.bool hc1855)) (Exec.load_box (hS1851) A3 rfl rfl rfl ⟨rfl, ?_⟩)
                  refine DL_qg rfl rfl (yield_of rfl (congrArg Value.bool hc1855)) (Exec.lss rfl rfl rfl ⟨rfl, ?_⟩)
                  refine DL_q rfl rfl (Exec.pick_f (v := Value.bool (decide (x1767.To < 0))) rfl (congrArg Value.bool hc1855) rfl ⟨rfl, ?_⟩)
                  refine DL_q rfl rfl (Exec.move (v := Value.bool (decide (x1767.To < 0))) rfl rfl ⟨rfl, ?_⟩)
                  rcases ite_some ht1826 with ⟨hc1858, ht1826⟩ | ⟨hc1858, ht1826⟩
                  · refine DL_qp rfl rfl (yield_of rfl (congrArg Value.bool hc1858)) rfl ?_
                    refine DL_qp rfl rfl (yield_of rfl (congrArg Value.bool hc1858)) rfl ?_
                    refine DL_qp rfl rfl (yield_of rfl (congrArg Value.bool hc1858)) rfl ?_
                    refine DL_qp rfl rfl (yield_of rfl (congrArg Value.bool hc1858)) rfl ?_
                    refine DL_qp rfl rfl (yield_of rfl (congrArg Value.bool hc1858)) rfl ?_
                    refine DL_q rfl rfl (Exec.pick_t (v := Value.bool (true)) rfl (congrArg Value.bool hc1858) rfl ⟨rfl, ?_⟩)
                    refine DL_q rfl rfl (Exec.move (v := Value.bool (true)) rfl rfl ⟨rfl, ?_⟩)
                    refine DL_qp rfl rfl (yield_of rfl rfl) rfl ?_
                    refine DL_qp rfl rfl (yield_of rfl rfl) rfl ?_
                    refine DL_qp rfl rfl (yield_of rfl rfl) rfl ?_
                    refine DL_q rfl rfl (Exec.pick_t (v := Value.bool (true)) rfl rfl rfl ⟨rfl, ?_⟩)
                    refine DL_q rfl rfl (Exec.move (v := Value.bool (true)) rfl rfl ⟨rfl, ?_⟩)
                    refine DL_qp rfl rfl (yield_of rfl rfl) rfl ?_
                    refine DL_qp rfl rfl (yield_of rfl rfl) rfl ?_
                    refine DL_qp rfl rfl (yield_of rfl rfl) rfl ?_
                    refine DL_qp rfl rfl (yield_of rfl rfl) rfl ?_
                    refine DL_qp rfl rfl (yield_of rfl rfl) rfl ?_
                    refine DL_qp rfl rfl (yield_of rfl rfl) rfl ?_
                    refine DL_q rfl rfl (Exec.pick_t (v := Value.bool (true)) rfl rfl rfl ⟨rfl, ?_⟩)
                    refine DL_q rfl rfl (Exec.move (v := Value.bool (true)) rfl rfl ⟨rfl, ?_⟩)
                    refine DL_qp rfl rfl (yield_of rfl rfl) rfl ?_
                    refine DL_qp rfl rfl (yield_of rfl rfl) rfl ?_
                    refine DL_qp rfl rfl (yield_of rfl rfl) rfl ?_
                    refine DL_qn rfl rfl (yield_undef rfl rfl) ?_
                    refine DL_qn rfl rfl (yield_undef rfl rfl) ?_
                    refine DL_qn rfl rfl (yield_undef rfl rfl) ?_
                    refine DL_qn rfl rfl (yield_undef rfl rfl) ?_
                    refine DL_qn rfl rfl (yield_undef rfl rfl) ?_
                    refine DL_qn rfl rfl (yield_undef rfl rfl) ?_
                    refine DL_qn rfl rfl (yield_undef rfl rfl) ?_
                    refine DL_en rfl rfl (yield_undef rfl rfl) ?_
                    refine DL_qn rfl rfl (yield_undef rfl rfl) ?_
                    refine DL_qp rfl rfl (yield_of rfl rfl) rfl ?_
                    refine DL_q rfl rfl (Exec.pick_t (v := Value.bool (true)) rfl rfl rfl ⟨rfl, ?_⟩)
                    refine DL_done ?_
                    refine WL_nil (at_normal ?_)
                    have e1859 := Option.some.inj ht1826
                    subst z1825
                    have hS1860 := (hS1851).drop
                    exact ⟨s1748, (PHeap.le_refl _), hS1860, p1751, p1752, p1753, x1754, rfl⟩
                  · replace hc1858 := not_true hc1858
                    refine DL_qg rfl rfl (yield_of rfl (congrArg Value.bool hc1858)) (Exec.field F53_2 rfl rfl rfl ⟨rfl, ?_⟩)
                    refine DL_qg rfl rfl (yield_of rfl (congrArg Value.bool hc1858)) (Exec.load_box (hS1851) A3 rfl rfl rfl ⟨rfl, ?_⟩)
                    refine DL_qg rfl rfl (yield_of rfl (congrArg Value.bool hc1858)) (Exec.field F26_0 rfl p1751 rfl ⟨rfl, ?_⟩)
                    refine DL_qg rfl rfl (yield_of rfl (congrArg Value.bool hc1858)) (Exec.load_box ((hS1851).f1) A3 rfl rfl rfl ⟨rfl, ?_⟩)
                    refine DL_qg rfl rfl (yield_of rfl (congrArg Value.bool hc1858)) (Exec.geq rfl rfl rfl ⟨rfl, ?_⟩)
                    refine DL_q rfl rfl (Exec.pick_f (v := Value.bool (decide (x74.States ≤ x1767.To))) rfl (congrArg Value.bool hc1858) rfl ⟨rfl, ?_⟩)
                    refine DL_q rfl rfl (Exec.move (v := Value.bool (decide (x74.States ≤ x1767.To))) rfl rfl ⟨rfl, ?_⟩)
                    rcases ite_some ht1826 with ⟨hc1861, ht1826⟩ | ⟨hc1861, ht1826⟩
                    · refine DL_qp rfl rfl (yield_of rfl (congrArg Value.bool hc1861)) rfl ?_
                      refine DL_qp rfl rfl (yield_of rfl (congrArg Value.bool hc1861)) rfl ?_
                      refine DL_qp rfl rfl (yield_of rfl (congrArg Value.bool hc1861)) rfl ?_
                      refine DL_q rfl rfl (Exec.pick_t (v := Value.bool (true)) rfl (congrArg Value.bool hc1861) rfl ⟨rfl, ?_⟩)
                      refine DL_q rfl rfl (Exec.move (v := Value.bool (true)) rfl rfl ⟨rfl, ?_⟩)
                      refine DL_qp rfl rfl (yield_of rfl rfl) rfl ?_
                      refine DL_qp rfl rfl (yield_of rfl rfl) rfl ?_
                      refine DL_qp rfl rfl (yield_of rfl rfl) rfl ?_
                      refine DL_qp rfl rfl (yield_of rfl rfl) rfl ?_
                      refine DL_qp rfl rfl (yield_of rfl rfl) rfl ?_
                      refine DL_qp rfl rfl (yield_of rfl rfl) rfl ?_
                      refine DL_q rfl rfl (Exec.pick_t (v := Value.bool (true)) rfl rfl rfl ⟨rfl, ?_⟩)
                      refine DL_q rfl rfl (Exec.move (v := Value.bool (true)) rfl rfl ⟨rfl, ?_⟩)
                      refine DL_qp rfl rfl (yield_of rfl rfl) rfl ?_
                      refine DL_qp rfl rfl (yield_of rfl rfl) rfl ?_
                      refine DL_qp rfl rfl (yield_of rfl rfl) rfl ?_
                      refine DL_qn rfl rfl (yield_undef rfl rfl) ?_
                      refine DL_qn rfl rfl (yield_undef rfl rfl) ?_
                      refine DL_qn rfl rfl (yield_undef rfl rfl) ?_
                      refine DL_qn rfl rfl (yield_undef rfl rfl) ?_
                      refine DL_qn rfl rfl (yield_undef rfl rfl) ?_
                      refine DL_qn rfl rfl (yield_undef rfl rfl) ?_
                      refine DL_qn rfl rfl (yield_undef rfl rfl) ?_
                      refine DL_en rfl rfl (yield_undef rfl rfl) ?_
                      refine DL_qn rfl rfl (yield_undef rfl rfl) ?_
                      refine DL_qp rfl rfl (yield_of rfl rfl) rfl ?_
                      refine DL_q rfl rfl (Exec.pick_t (v := Value.bool (true)) rfl rfl rfl ⟨rfl, ?_⟩)
                      refine DL_done ?_
                      refine WL_nil (at_normal ?_)
                      have e1862 := Option.some.inj ht1826
                      subst z1825
                      have hS1863 := (hS1851).drop
                      exact ⟨s1748, (PHeap.le_refl _), hS1863, p1751, p1752, p1753, x1754, rfl⟩
                    · replace hc1861 := not_true hc1861
                      refine DL_qg rfl rfl (yield_of rfl (congrArg Value.bool hc1861)) (Exec.field F53_1 rfl rfl rfl ⟨rfl, ?_⟩)
                      refine DL_qg rfl rfl (yield_of rfl (congrArg Value.bool hc1861)) (Exec.load_box (hS1851) A3 rfl rfl rfl ⟨rfl, ?_⟩)
                      refine DL_qg rfl rfl (yield_of rfl (congrArg Value.bool hc1861)) (Exec.lss rfl rfl rfl ⟨rfl, ?_⟩)
                      refine DL_q rfl rfl (Exec.pick_f (v := Value.bool (decide (x1767.Label < 0))) rfl (congrArg Value.bool hc1861) rfl ⟨rfl, ?_⟩)
                      refine DL_q rfl rfl (Exec.move (v := Value.bool (decide (x1767.Label < 0))) rfl rfl ⟨rfl, ?_⟩)
                      rcases ite_some ht1826 with ⟨hc1864, ht1826⟩ | ⟨hc1864, ht1826⟩
                      · refine DL_qp rfl rfl (yield_of rfl (congrArg Value.bool hc1864)) rfl ?_
                        refine DL_qp rfl rfl (yield_of rfl (congrArg Value.bool hc1864)) rfl ?_
                        refine DL_qp rfl rfl (yield_of rfl (congrArg Value.bool hc1864)) rfl ?_
                        refine DL_qp rfl rfl (yield_of rfl (congrArg Value.bool hc1864)) rfl ?_
                        refine DL_qp rfl rfl (yield_of rfl (congrArg Value.bool hc1864)) rfl ?_
                        refine DL_qp rfl rfl (yield_of rfl (congrArg Value.bool hc1864)) rfl ?_
                        refine DL_q rfl rfl (Exec.pick_t (v := Value.bool (true)) rfl (congrArg Value.bool hc1864) rfl ⟨rfl, ?_⟩)
                        refine DL_q rfl rfl (Exec.move (v := Value.bool (true)) rfl rfl ⟨rfl, ?_⟩)
                        refine DL_qp rfl rfl (yield_of rfl rfl) rfl ?_
                        refine DL_qp rfl rfl (yield_of rfl rfl) rfl ?_
                        refine DL_qp rfl rfl (yield_of rfl rfl) rfl ?_
                        refine DL_qn rfl rfl (yield_undef rfl rfl) ?_
                        refine DL_qn rfl rfl (yield_undef rfl rfl) ?_
                        refine DL_qn rfl rfl (yield_undef rfl rfl) ?_
                        refine DL_qn rfl rfl (yield_undef rfl rfl) ?_
                        refine DL_qn rfl rfl (yield_undef rfl rfl) ?_
                        refine DL_qn rfl rfl (yield_undef rfl rfl) ?_
                        refine DL_qn rfl rfl (yield_undef rfl rfl) ?_
                        refine DL_en rfl rfl (yield_undef rfl rfl) ?_
                        refine DL_qn rfl rfl (yield_undef rfl rfl) ?_
                        refine DL_qp rfl rfl (yield_of rfl rfl) rfl ?_
                        refine DL_q rfl rfl (Exec.pick_t (v := Value.bool (true)) rfl rfl rfl ⟨rfl, ?_⟩)
                        refine DL_done ?_
                        refine WL_nil (at_normal ?_)
                        have e1865 := Option.some.inj ht1826
                        subst z1825
                        have hS1866 := (hS1851).drop
                        exact ⟨s1748, (PHeap.le_refl _), hS1866, p1751, p1752, p1753, x1754, rfl⟩
                      · replace hc1864 := not_true hc1864
                        refine DL_qg rfl rfl (yield_of rfl (congrArg Value.bool hc1864)) (Exec.field F53_1 rfl rfl rfl ⟨rfl, ?_⟩)
                        refine DL_qg rfl rfl (yield_of rfl (congrArg Value.bool hc1864)) (Exec.load_box (hS1851) A3 rfl rfl rfl ⟨rfl, ?_⟩)
                        refine DL_qg rfl rfl (yield_of rfl (congrArg Value.bool hc1864)) (Exec.field F26_2 rfl p1751 rfl ⟨rfl, ?_⟩)
                        refine DL_qg rfl rfl (yield_of rfl (congrArg Value.bool hc1864)) (Exec.load_box ((hS1851).f1) A22 rfl rfl rfl ⟨rfl, ?_⟩)
                        refine DL_qg rfl rfl (yield_of rfl (congrArg Value.bool hc1864)) (Exec.len_rep S22 rfl rfl (a76.mono (PHeap.le.trans (PHeap.le.trans l1286 l1430) l1749)) ⟨rfl, ?_⟩)
                        refine DL_qg rfl rfl (yield_of rfl (congrArg Value.bool hc1864)) (Exec.geq rfl rfl rfl ⟨rfl, ?_⟩)
                        refine DL_q rfl rfl (Exec.pick_f (v := Value.bool (decide ((x74.Costs.length : Int) ≤ x1767.Label))) rfl (congrArg Value.bool hc1864) rfl ⟨rfl, ?_⟩)
                        refine DL_q rfl rfl (Exec.move (v := Value.bool (decide ((x74.Costs.length : Int) ≤ x1767.Label))) rfl rfl ⟨rfl, ?_⟩)
                        rcases ite_some ht1826 with ⟨hc1867, ht1826⟩ | ⟨hc1867, ht1826⟩
                        · refine DL_qp rfl rfl (yield_of rfl (congrArg Value.bool hc1867)) rfl ?_
                          refine DL_qp rfl rfl (yield_of rfl (congrArg Value.bool hc1867)) rfl ?_
                          refine DL_qp rfl rfl (yield_of rfl (congrArg Value.bool hc1867)) rfl ?_
                          refine DL_qn rfl rfl (yield_undef rfl rfl) ?_
                          refine DL_qn rfl rfl (yield_undef rfl rfl) ?_
                          refine DL_qn rfl rfl (yield_undef rfl rfl) ?_
                          refine DL_qn rfl rfl (yield_undef rfl rfl) ?_
                          refine DL_qn rfl rfl (yield_undef rfl rfl) ?_
                          refine DL_qn rfl rfl (yield_undef rfl rfl) ?_
                          refine DL_qn rfl rfl (yield_undef rfl rfl) ?_
                          refine DL_en rfl rfl (yield_undef rfl rfl) ?_
                          refine DL_qn rfl rfl (yield_undef rfl rfl) ?_
                          refine DL_qp rfl rfl (yield_of rfl (congrArg Value.bool hc1867)) rfl ?_
                          refine DL_q rfl rfl (Exec.pick_t (v := Value.bool (true)) rfl (congrArg Value.bool hc1867) rfl ⟨rfl, ?_⟩)
                          refine DL_done ?_
                          refine WL_nil (at_normal ?_)
                          have e1868 := Option.some.inj ht1826
                          subst z1825
                          have hS1869 := (hS1851).drop
                          exact ⟨s1748, (PHeap.le_refl _), hS1869, p1751, p1752, p1753, x1754, rfl⟩
                        · replace hc1867 := not_true hc1867
                          refine DL_qg rfl rfl (yield_of rfl (congrArg Value.bool hc1867)) (Exec.move (v := Value.int .i64 ((i1435 : Int))) rfl rfl ⟨rfl, ?_⟩)
                          refine DL_qg rfl rfl (yield_of rfl (congrArg Value.bool hc1867)) (Exec.gtr rfl rfl rfl ⟨rfl, ?_⟩)
                          refine DL_qg rfl rfl (yield_of rfl (congrArg Value.bool hc1867)) (Exec.move (v := Value.bool (decide (0 < (i1435 : Int)))) rfl rfl ⟨rfl, ?_⟩)
                          rcases ite_some ht1826 with ⟨hc1870, ht1826⟩ | ⟨hc1870, ht1826⟩
                          · refine DL_qg rfl rfl (yield_of rfl (congrArg Value.bool hc1870)) (Exec.field F26_3 rfl p1751 rfl ⟨rfl, ?_⟩)
                            refine DL_qg rfl rfl (yield_of rfl (congrArg Value.bool hc1870)) (Exec.load_box ((hS1851).f1) A23 rfl rfl rfl ⟨rfl, ?_⟩)
                            refine DL_qg rfl rfl (yield_of rfl (congrArg Value.bool hc1870)) (Exec.move (v := Value.int .i64 ((i1435 : Int))) rfl rfl ⟨rfl, ?_⟩)
                            refine DL_qg rfl rfl (yield_of rfl (congrArg Value.bool hc1870)) (Exec.sub rfl rfl rfl ⟨rfl, ?_⟩)
                            obtain ⟨x1871, q1872, ht1826⟩ := bind_some ht1826
                            refine DL_qg rfl rfl (yield_of rfl (congrArg Value.bool hc1870)) (Exec.index_repE S23 rfl rfl rfl (a78.mono (PHeap.le.trans (PHeap.le.trans l1286 l1430) l1749)) q1872 ?_)
                            intro b1873 o1874 a1875 e1876
                            refine ⟨rfl, ?_⟩
                            refine DL_qg rfl rfl (yield_of rfl (congrArg Value.bool hc1870)) (Exec.load_at (E := encEdge) hS1851 A53 rfl rfl rfl a1875 ?_)
                            intro v1877 q1878
                            obtain rfl := encEdge_val.1 q1878
                            refine ⟨rfl, ?_⟩
                            refine DL_qg rfl rfl (yield_of rfl (congrArg Value.bool hc1870)) (Exec.load_box_agg (ds := [Value.int .i64 (x1767.From), Value.int .i64 (x1767.Label), Value.int .i64 (x1767.To)]) (hS1851) A53 rfl rfl rfl ⟨rfl, ?_⟩)
                            obtain ⟨y1881, q1880, ht1826⟩ := bind_some ht1826
                            refine DL_eg rfl rfl (yield_of rfl (congrArg Value.bool hc1870)) (Exec.call rfl rfl Tryd.func44 rfl N44 (args_cons rfl (args_cons rfl args_nil)) ((transys_compare_sim q1880 hS1851 ).mono ?_))
                            rintro _ w1882 ⟨_, rfl, ⟨s1883, l1884, hS1885, rfl⟩⟩
                            refine ⟨_, rfl, ?_⟩
                            refine ⟨ag_nil, ?_⟩
                            refine DL_qg rfl rfl (yield_of rfl (congrArg Value.bool hc1870)) (Exec.geq rfl rfl rfl ⟨rfl, ?_⟩)
                            refine DL_qg rfl rfl (yield_of rfl (congrArg Value.bool hc1867)) (Exec.pick_t (v := Value.bool (decide (0 ≤ y1881))) rfl (congrArg Value.bool hc1870) rfl ⟨rfl, ?_⟩)
                            refine DL_q rfl rfl (Exec.pick_f (v := Value.bool (decide (0 ≤ y1881))) rfl (congrArg Value.bool hc1867) rfl ⟨rfl, ?_⟩)
                            refine DL_done ?_
                            refine WL_nil (at_normal ?_)
                            have e1886 := Option.some.inj ht1826
                            subst z1825
                            have hS1887 := (hS1885).drop
                            exact ⟨s1883, l1884, hS1887, p1751, p1752, p1753, x1754, rfl⟩
                          · replace hc1870 := not_true hc1870
                            refine DL_qp rfl rfl (yield_of rfl (congrArg Value.bool hc1870)) rfl ?_
                            refine DL_qp rfl rfl (yield_of rfl (congrArg Value.bool hc1870)) rfl ?_
                            refine DL_qp rfl rfl (yield_of rfl (congrArg Value.bool hc1870)) rfl ?_
                            refine DL_qp rfl rfl (yield_of rfl (congrArg Value.bool hc1870)) rfl ?_
                            refine DL_qp rfl rfl (yield_of rfl (congrArg Value.bool hc1870)) rfl ?_
                            refine DL_qp rfl rfl (yield_of rfl (congrArg Value.bool hc1870)) rfl ?_
                            refine DL_qp rfl rfl (yield_of rfl (congrArg Value.bool hc1870)) rfl ?_
                            refine DL_ep rfl rfl (yield_of rfl (congrArg Value.bool hc1870)) rfl ?_
                            refine DL_qp rfl rfl (yield_of rfl (congrArg Value.bool hc1870)) rfl ?_
                            refine DL_qg rfl rfl (yield_of rfl (congrArg Value.bool hc1867)) (Exec.pick_f (v := Value.bool (false)) rfl (congrArg Value.bool hc1870) rfl ⟨rfl, ?_⟩)
                            refine DL_q rfl rfl (Exec.pick_f (v := Value.bool (false)) rfl (congrArg Value.bool hc1867) rfl ⟨rfl, ?_⟩)
                            refine DL_done ?_
                            refine WL_nil (at_normal ?_)
                            have e1888 := Option.some.inj ht1826
                            subst z1825
                            have hS1889 := (hS1851).drop
                            exact ⟨s1748, (PHeap.le_refl _), hS1889, p1751, p1752, p1753, x1754, rfl⟩
            · intro f1890 w1891 hM1892
              obtain ⟨s1893, l1894, hS1895, p1896, p1897, p1898, p1899, p1900⟩ := hM1892
              refine (at_normal ?_)
              rcases ite_some hm1744 with ⟨hc1901, hm1744⟩ | ⟨hc1901, hm1744⟩
              · refine W_cond_t p1900 hc1901 ?_
                refine W_seq ?_
                refine W_region ?_
                refine WL_step rfl rfl (Exec.assign (v := Value.bool (false)) rfl rfl ?_)
                refine WL_nil (at_normal ?_)
                refine W_ret (ib_ret (at_ret (at_ret (ib_ret (at_ret (at_ret ?_))))))
                have e1902 := Option.some.inj hm1744
                subst c1740
                have hq1903 := hr1734 _ (hres1745 (by intro _ h; cases h))
                have e1904 := Option.some.inj hq1903
                subst r
                refine ⟨_, ret1 rfl, ?_⟩
                have hS1905 := (hS1895).drop
                exact ⟨s1893, (PHeap.le.trans (PHeap.le.trans (PHeap.le.trans l1286 l1430) l1749) l1894), hS1905, rfl⟩
              · refine W_cond_f p1900 hc1901 ?_
                replace hc1901 := not_true hc1901
                refine W_skip (ib_normal (at_normal ?_))
                refine W_region ?_
                refine WL_step rfl rfl (Exec.add rfl p1899 rfl ?_)
                refine WL_step rfl rfl (Exec.move (v := Value.int .i64 (IntKind.i64.wrap ((i1435 : Int) + 1))) rfl rfl ?_)
                refine WL_nil (at_normal ?_)
                have e1906 := Option.some.inj hm1744
                subst c1740
                refine ⟨_, rfl, ?_⟩; exact ⟨s1893, (PHeap.le.trans l1749 l1894), hS1895, p1896, p1897, p1898, (Eq.trans rfl (wrap_up hi1747 (SliceRep.le (a78.mono (PHeap.le.trans l1286 l1430)))))⟩
          · intro t1907 f1908 w1909 hI1910 hres1911
            obtain ⟨s1912, l1913, hS1914, p1915, p1916, p1917, x1918⟩ := hI1910
            refine W_seq ?_
            refine W_region ?_
            refine WL_step rfl rfl (Exec.lss rfl x1918 p1917 ?_)
            refine WL_nil (at_normal ?_)
            refine W_seq ?_
            refine W_false (congrArg Value.bool (decide_eq_false (by omega))) ?_
            refine W_exit (at_exit (at_exit (ib_here (at_normal ?_))))
            refine ⟨_, .inl hres1911, ?_⟩; exact ⟨s1912, l1913, hS1914, p1915, p1916, p1917⟩
        · rintro f1919 w1920 ⟨t1921, hc1922, hM1923⟩
          have hm := hc1922.elim (hn1735 _) (hb1736 _)
          clear hc1922
          obtain ⟨s1924, l1925, hS1926, p1927, p1928, p1929⟩ := hM1923
          refine (at_normal ?_)
          refine W_seq ?_
          refine W_region ?_
          refine WL_step rfl rfl (Exec.assign (v := Value.bool (true)) rfl rfl ?_)
          refine WL_nil (at_normal ?_)
          refine W_ret ?_
          have e1931 := Option.some.inj hm
          subst r
          refine ⟨_, ret1 rfl, ?_⟩
          have hS1932 := (hS1926).drop
          exact ⟨s1924, (PHeap.le.trans (PHeap.le.trans l1286 l1430) l1925), hS1932, rfl⟩

theorem C34 : Tryd.prog.concrete 34 = true := by kernel_rfl

theorem S54 : tySlice Tryd.prog 54 = some (9, 1, 16) := by kernel_rfl

theorem Z9 : tyZero Tryd.prog 9 = some (Value.string ⟨#[]⟩) := by kernel_rfl

theorem A4 : tyAgg Tryd.prog 4 = some (false, 1) := by kernel_rfl

theorem N55 : (Tryd.f55.name == "runtime.NumGoroutine") = false := by kernel_rfl

theorem strconv_FormatBool_55_sim {w0 w : World} {s : PHeap} {H : List Res} {b1975 : Bool}  {r : ByteArray} (hm : strconv_FormatBool_55_p b1975 = some r) (hS : St w0 s (H) w)  :
    Calls Tryd.prog 55 #[Value.bool (b1975)] w fun e w' => ∃ v, e = .returned v ∧ ((fun (y1978 : ByteArray) => ∃ (s1979 : PHeap) , PHeap.le s s1979 ∧ St w0 s1979 (H) w' ∧ v = Value.string (y1978)) r) := by
  unfold strconv_FormatBool_55_p at hm
  refine calls_of_W Tryd.func55 rfl rfl ?_
  refine W_seq ?_
  refine W_region ?_
  refine WL_step rfl rfl (Exec.assign (v := Value.string (⟨#[]⟩)) rfl rfl ?_)
  refine WL_nil (at_normal ?_)
  refine W_seq ?_
  refine W_seq ?_
  refine W_region ?_
  refine WL_step rfl rfl (Exec.move (v := Value.bool (b1975)) rfl rfl ?_)
  refine WL_nil (at_normal ?_)
  rcases ite_some hm with ⟨hc1980, hm⟩ | ⟨hc1980, hm⟩
  · refine W_cond_t rfl hc1980 ?_
    refine W_seq ?_
    refine W_region ?_
    refine WL_step rfl rfl (Exec.assign (v := Value.string (⟨#[116, 114, 117, 101]⟩)) rfl rfl ?_)
    refine WL_nil (at_normal ?_)
    refine W_ret (at_ret ?_)
    have e1982 := Option.some.inj hm
    subst r
    refine ⟨_, ret1 rfl, ?_⟩
    exact ⟨s, (PHeap.le_refl _), hS, rfl⟩
  · refine W_cond_f rfl hc1980 ?_
    replace hc1980 := not_true hc1980
    refine W_skip (at_normal ?_)
    refine W_seq ?_
    refine W_region ?_
    refine WL_step rfl rfl (Exec.assign (v := Value.string (⟨#[102, 97, 108, 115, 101]⟩)) rfl rfl ?_)
    refine WL_nil (at_normal ?_)
    refine W_ret ?_
    have e1984 := Option.some.inj hm
    subst r
    refine ⟨_, ret1 rfl, ?_⟩
    exact ⟨s, (PHeap.le_refl _), hS, rfl⟩

theorem N29 : (Tryd.f29.name == "runtime.NumGoroutine") = false := by kernel_rfl

theorem strconv_FormatBool_sim {w0 w : World} {s : PHeap} {H : List Res} {b1974 : Bool}  {r : ByteArray} (hm : strconv_FormatBool_p b1974 = some r) (hS : St w0 s (H) w)  :
    Calls Tryd.prog 29 #[Value.bool (b1974)] w fun e w' => ∃ v, e = .returned v ∧ ((fun (y1994 : ByteArray) => ∃ (s1995 : PHeap) , PHeap.le s s1995 ∧ St w0 s1995 (H) w' ∧ v = Value.string (y1994)) r) := by
  unfold strconv_FormatBool_p at hm
  refine calls_of_W Tryd.func29 rfl rfl ?_
  refine W_seq ?_
  refine W_region ?_
  refine WL_step rfl rfl (Exec.assign (v := Value.string (⟨#[]⟩)) rfl rfl ?_)
  refine WL_nil (at_normal ?_)
  refine W_seq ?_
  refine W_region ?_
  refine WL_step rfl rfl (Exec.move (v := Value.bool (b1974)) rfl rfl ?_)
  refine WL_step rfl rfl (Exec.call rfl rfl Tryd.func55 rfl N55 (args_cons rfl args_nil) ((strconv_FormatBool_55_sim (strconv_FormatBool_55_tot b1974) hS ).mono ?_))
  rintro _ w2000 ⟨_, rfl, ⟨s2001, l2002, hS2003, rfl⟩⟩
  refine ⟨_, rfl, ?_⟩
  refine WL_step rfl rfl (Exec.assign (v := Value.string ((strconv_FormatBool_55_t b1974))) rfl rfl ?_)
  refine WL_nil (at_normal ?_)
  refine W_ret ?_
  have e2005 := Option.some.inj hm
  subst r
  refine ⟨_, ret1 rfl, ?_⟩
  exact ⟨s2001, l2002, hS2003, rfl⟩

theorem A9 : tyAgg Tryd.prog 9 = some (false, 1) := by kernel_rfl

theorem Z3 : tyZero Tryd.prog 3 = some (Value.int .i64 (0)) := by kernel_rfl

theorem N30 : (Tryd.f30.name == "runtime.NumGoroutine") = false := by kernel_rfl

theorem shrink_numbered_o_sim {w0 w : World} {s : PHeap} {H : List Res} {l2152 : (List ByteArray)} {v2153 : Value} {r : (List Int) × Int} (hm : shrink_numbered_o_p l2152 = some r) (hS : St w0 s (Res.arr encStr 9 v2153 l2152 :: H) w)  :
    Calls Tryd.prog 30 #[v2153] w fun e w' => ∃ v, e = .returned v ∧ ((un2 fun (y2453 : (List Int)) (y2454 : Int) => ∃ (s2456 : PHeap) (v2455 : Value), PHeap.le s s2456 ∧ St w0 s2456 (Res.arr encStr 9 v2153 l2152 :: Res.arr (encInt .i64) 3 v2455 y2453 :: H) w' ∧ v = Value.tuple #[v2455, Value.int .i64 (y2454)]) r) := by
  unfold shrink_numbered_o_p at hm
  refine calls_of_W Tryd.func30 rfl rfl ?_
  refine W_seq ?_
  refine W_region ?_
  refine WL_step rfl rfl (Exec.assign (v := Value.slice none 0 0) rfl rfl ?_)
  refine WL_step rfl rfl (Exec.assign (v := Value.int .i64 (0)) rfl rfl ?_)
  refine WL_nil (at_normal ?_)
  refine W_seq ?_
  refine W_region ?_
  refine WL_step rfl rfl (Exec.make_map (k := 9) (e := 3) hS rfl ?_)
  intro b2460 w2461 hS2462
  refine WL_step rfl rfl (Exec.assign (v := Value.map (some b2460)) rfl rfl ?_)
  refine WL_nil (at_normal ?_)
  refine W_seq ?_
  refine W_region ?_
  refine WL_step rfl rfl (Exec.assign (v := Value.slice none 0 0) rfl rfl ?_)
  refine WL_nil (at_normal ?_)
  refine W_seq ?_
  refine W_seq ?_
  refine W_region ?_
  refine WL_step rfl rfl (Exec.move (v := v2153) rfl rfl ?_)
  refine WL_step rfl rfl (Exec.len_arr ((hS2462).f1) S54 rfl rfl ?_)
  refine WL_step rfl rfl (Exec.move (v := Value.int .i64 (0)) rfl rfl ?_)
  refine WL_nil (at_normal ?_)
  obtain ⟨t2637, hB2638, hm⟩ := bind_some hm
  refine W_block (W_forS (fun k' s' f' w' => (un2 fun (out2548 : (List Int)) (l2550 : SMap) => ∃ (s2639 : PHeap) (v2549 : Value), PHeap.le s s2639 ∧ St w0 s2639 (Res.arr encStr 9 v2153 l2152 :: Res.smap Tryd.prog 9 3 b2460 l2550 :: Res.arr (encInt .i64) 3 v2549 out2548 :: H) w' ∧ f' 4 = Value.map (some b2460) ∧ f' 5 = v2549 ∧ f' 11 = v2153 ∧ f' 12 = Value.int .i64 ((l2152.length : Int)) ∧ f' 13 = Value.int .i64 (k' : Int)) s') hB2638 ?_ ?_ ?_)
  · have hS2640 := hS2462.nilArr (encInt .i64) 3
    have hS2641 := (hS2640).f1
    have hS2642 := (hS2641).f2
    exact ⟨s, (Value.slice none 0 0), (PHeap.le_refl _), hS2642, rfl, rfl, rfl, rfl, rfl⟩
  · intro i2463 t2650 s2644 f2645 w2646 hi2647 hI2648 hm2649
    obtain ⟨out2548, l2550⟩ := t2650
    replace hm2649 := un2_eq hm2649
    obtain ⟨s2651, v2549, l2652, hS2653, p2654, p2655, p2656, p2657, x2658⟩ := hI2648
    refine W_seq ?_
    refine W_region ?_
    refine WL_step rfl rfl (Exec.lss rfl x2658 p2657 ?_)
    refine WL_nil (at_normal ?_)
    refine W_seq ?_
    refine W_true (congrArg Value.bool (decide_eq_true (by omega))) ?_
    refine W_skip (at_normal ?_)
    refine W_seq ?_
    refine W_block ?_
    refine W_seq ?_
    refine W_region ?_
    obtain ⟨x2666, q2667, hm2649⟩ := bind_some hm2649
    obtain ⟨g2668, c2669, e2670⟩ := (hS2653).arr_at q2667
    refine WL_step rfl rfl (Exec.index_slice S54 rfl (Eq.trans p2656 e2670) x2658 (idx_some q2667).1 (idx_some q2667).2.1 ?_)
    refine WL_step rfl rfl (Exec.load_arr (F := encStr) (hS2653) e2670 A9 rfl rfl rfl q2667 (Sub.refl _) ?_)
    intro v2671 q2672
    obtain rfl := encStr_val.1 q2672
    refine WL_step rfl rfl (Exec.assign (v := Value.string (x2666)) rfl rfl ?_)
    refine WL_nil (at_normal ?_)
    refine W_seq ?_
    refine W_region ?_
    refine WL_step rfl rfl (Exec.move (v := Value.map (some b2460)) rfl p2654 ?_)
    refine WL_step rfl rfl (Exec.move (v := Value.string (x2666)) rfl rfl ?_)
    obtain ⟨q2675, q2676, hm2649⟩ := bind_some hm2649
    refine WL_step rfl rfl (Exec.map_get ((hS2653).f1) ⟨Tryd.underlying89, Tryd.underlying9, Tryd.underlying3⟩ Z3 rfl rfl rfl q2676 ?_)
    refine WL_step rfl rfl (Exec.move (v := Value.tuple #[Value.int .i64 (q2675.1), Value.bool (q2675.2)]) rfl rfl ?_)
    refine WL_step rfl rfl (Exec.extract (v := Value.int .i64 (q2675.1)) rfl rfl rfl ?_)
    refine WL_step rfl rfl (Exec.extract (v := Value.bool (q2675.2)) rfl rfl rfl ?_)
    refine WL_step rfl rfl (Exec.assign (v := Value.int .i64 (q2675.1)) rfl rfl ?_)
    refine WL_step rfl rfl (Exec.assign (v := Value.bool (q2675.2)) rfl rfl ?_)
    refine WL_nil (at_normal ?_)
    refine W_seq ?_
    refine W_seq ?_
    refine W_region ?_
    refine WL_step rfl rfl (Exec.move (v := Value.bool (q2675.2)) rfl rfl ?_)
    refine WL_step rfl rfl (Exec.not rfl rfl ?_)
    refine WL_nil (at_normal ?_)
    obtain ⟨t2689, ht2690, hm2649⟩ := bind_some hm2649
    refine W_mid (M := fun f' w' => (un2 fun (k2687 : Int) (l2688 : SMap) => ∃ (s2691 : PHeap) , PHeap.le s2651 s2691 ∧ St w0 s2691 (Res.arr encStr 9 v2153 l2152 :: Res.smap Tryd.prog 9 3 b2460 l2688 :: Res.arr (encInt .i64) 3 v2549 out2548 :: H) w' ∧ f' 4 = Value.map (some b2460) ∧ f' 5 = v2549 ∧ f' 8 = Value.int .i64 (k2687) ∧ f' 11 = v2153 ∧ f' 12 = Value.int .i64 ((l2152.length : Int)) ∧ f' 13 = Value.int .i64 ((i2463 : Int))) t2689) ?_ ?_
    · rcases ite_some ht2690 with ⟨hc2692, ht2690⟩ | ⟨hc2692, ht2690⟩
      · refine W_cond_t rfl hc2692 ?_
        refine W_seq ?_
        refine W_region ?_
        refine WL_step rfl rfl (Exec.move (v := Value.map (some b2460)) rfl p2654 ?_)
        refine WL_step rfl rfl (Exec.map_len ((hS2653).f1) ⟨Tryd.underlying89, Tryd.underlying9, Tryd.underlying3⟩ rfl rfl ?_)
        refine WL_step rfl rfl (Exec.assign (v := Value.int .i64 ((l2550.length : Int))) rfl rfl ?_)
        refine WL_nil (at_normal ?_)
        refine W_region ?_
        refine WL_step rfl rfl (Exec.move (v := Value.map (some b2460)) rfl p2654 ?_)
        refine WL_step rfl rfl (Exec.move (v := Value.string (x2666)) rfl rfl ?_)
        refine WL_step rfl rfl (Exec.move (v := Value.int .i64 ((l2550.length : Int))) rfl rfl ?_)
        obtain ⟨m2698, q2699, ht2690⟩ := bind_some ht2690
        have hS2700 := (hS2653).f1
        refine WL_step rfl rfl (Exec.map_put hS2700 ⟨Tryd.underlying89, Tryd.underlying9, Tryd.underlying3⟩ rfl rfl rfl rfl q2699 ?_)
        intro w2701 hS2702
        refine WL_nil (at_normal ?_)
        have e2703 := Option.some.inj ht2690
        subst t2689
        have hS2704 := (hS2702).f2
        have hS2705 := (hS2704).f1
        have hS2706 := (hS2705).f2
        exact ⟨s2651, (PHeap.le_refl _), hS2706, p2654, p2655, rfl, p2656, p2657, x2658⟩
      · refine W_cond_f rfl hc2692 ?_
        replace hc2692 := not_true hc2692
        refine W_skip (at_normal ?_)
        have e2707 := Option.some.inj ht2690
        subst t2689
        have hS2708 := (hS2653).f2
        have hS2709 := (hS2708).f2
        have hS2710 := (hS2709).f2
        exact ⟨s2651, (PHeap.le_refl _), hS2710, p2654, p2655, rfl, p2656, p2657, x2658⟩
    · intro f2711 w2712 hM2713
      obtain ⟨k2687, l2688⟩ := t2689
      replace hm2649 := un2_eq hm2649
      obtain ⟨s2714, l2715, hS2716, p2717, p2718, p2719, p2720, p2721, p2722⟩ := hM2713
      refine (at_normal ?_)
      refine W_region ?_
      refine WL_step rfl rfl (Exec.move (v := v2549) rfl p2718 ?_)
      refine WL_step rfl rfl (Exec.move (v := Value.int .i64 (k2687)) rfl p2719 ?_)
      refine WL_step rfl rfl (Exec.buildSlice (Te := 3) (cs := [Value.int .i64 (k2687)]) hS2716 rfl (parts_cons (c := [Value.int .i64 (k2687)]) (cells_of rfl rfl) parts_nil) (fun _ => by kernel_rfl) ?_)
      intro b2732 w2733 hS2734
      obtain ⟨l2735, q2736, hm2649⟩ := bind_some hm2649
      have hS2737 := (hS2734).f3
      refine WL_step rfl rfl (Exec.append_box (E := (encInt .i64)) (ys := [k2687]) hS2737 S22 Z3 rfl (by decide) rfl rfl rfl rfl ⟨[Value.int .i64 (k2687)], [], rfl, rfl, rfl⟩ rfl q2736 ?_)
      intro v2738 w2739 hS2740
      refine WL_step rfl rfl (Exec.assign (v := v2738) rfl rfl ?_)
      refine WL_nil (ib_normal (at_normal ?_))
      refine W_region ?_
      refine WL_step rfl rfl (Exec.add rfl p2722 rfl ?_)
      refine WL_step rfl rfl (Exec.move (v := Value.int .i64 (IntKind.i64.wrap ((i2463 : Int) + 1))) rfl rfl ?_)
      refine WL_nil (at_normal ?_)
      have e2741 := Option.some.inj hm2649
      subst s2644
      have hS2742 := (hS2740).f2
      have hS2743 := (hS2742).f2
      exact ⟨s2714, v2738, (PHeap.le.trans l2652 l2715), hS2743, p2717, rfl, p2720, p2721, (Eq.trans rfl (wrap_up hi2647 ((hS2462).f1).arr_le))⟩
  · intro f2744 w2745 hI2746
    obtain ⟨out2548, l2550⟩ := t2637
    replace hm := un2_eq hm
    obtain ⟨s2747, v2549, l2748, hS2749, p2750, p2751, p2752, p2753, x2754⟩ := hI2746
    refine W_seq ?_
    refine W_region ?_
    refine WL_step rfl rfl (Exec.lss rfl x2754 p2753 ?_)
    refine WL_nil (at_normal ?_)
    refine W_seq ?_
    refine W_false (congrArg Value.bool (decide_eq_false (by omega))) ?_
    refine W_exit (at_exit (at_exit (ib_here (at_normal ?_))))
    refine W_seq ?_
    refine W_region ?_
    refine WL_step rfl rfl (Exec.move (v := v2549) rfl p2751 ?_)
    refine WL_step rfl rfl (Exec.move (v := Value.map (some b2460)) rfl p2750 ?_)
    refine WL_step rfl rfl (Exec.map_len ((hS2749).f1) ⟨Tryd.underlying89, Tryd.underlying9, Tryd.underlying3⟩ rfl rfl ?_)
    refine WL_step rfl rfl (Exec.assign (v := v2549) rfl rfl ?_)
    refine WL_step rfl rfl (Exec.assign (v := Value.int .i64 ((l2550.length : Int))) rfl rfl ?_)
    refine WL_nil (at_normal ?_)
    refine W_ret ?_
    have e2756 := Option.some.inj hm
    subst r
    refine ⟨_, ret2 rfl, ?_⟩
    have hS2757 := ((hS2749).f1).drop
    have hS2758 := (hS2757).f1
    have hS2759 := (hS2758).f1
    exact ⟨s2747, v2549, l2748, hS2759, (tup2 rfl rfl)⟩

theorem S90 : tySlice Tryd.prog 90 = some (91, 1, 24) := by kernel_rfl

theorem Z91 : tyZero Tryd.prog 91 = some (Value.slice none 0 0) := by kernel_rfl

theorem A91 : tyAgg Tryd.prog 91 = some (false, 1) := by kernel_rfl

theorem S91 : tySlice Tryd.prog 91 = some (92, 2, 16) := by kernel_rfl

theorem Z92 : tyZero Tryd.prog 92 = some (Value.agg #[Value.int .i64 (0), Value.int .i64 (0)]) := by kernel_rfl

theorem N57 : (Tryd.f57.name == "runtime.NumGoroutine") = false := by kernel_rfl

theorem shrink_refine_c1_sim {w0 w : World} {s : PHeap} {H : List Res} {a3346 : Arr2_int} {b3347 : Arr2_int}  {r : Int} (hm : shrink_refine_c1_p a3346 b3347 = some r) (hS : St w0 s (H) w)  :
    Calls Tryd.prog 57 #[Value.agg #[Value.int .i64 (a3346.a0), Value.int .i64 (a3346.a1)], Value.agg #[Value.int .i64 (b3347.a0), Value.int .i64 (b3347.a1)]] w fun e w' => ∃ v, e = .returned v ∧ ((fun (y3457 : Int) => ∃ (s3458 : PHeap) , PHeap.le s s3458 ∧ St w0 s3458 (H) w' ∧ v = Value.int .i64 (y3457)) r) := by
  unfold shrink_refine_c1_p at hm
  refine calls_of_W Tryd.func57 rfl rfl ?_
  refine W_seq ?_
  refine W_region ?_
  refine WL_step rfl rfl (Exec.box (cs := [Value.int .i64 (a3346.a0), Value.int .i64 (a3346.a1)]) hS rfl rfl rfl ?_)
  intro b3465 w3466 hS3467
  refine WL_step rfl rfl (Exec.box (cs := [Value.int .i64 (b3347.a0), Value.int .i64 (b3347.a1)]) hS3467 rfl rfl rfl ?_)
  intro b3468 w3469 hS3470
  refine WL_step rfl rfl (Exec.assign (v := Value.int .i64 (0)) rfl rfl ?_)
  refine WL_nil (at_normal ?_)
  refine W_seq ?_
  refine W_dl (n0 := 12) (.q 0 (.q 1 (.q 2 (.q 3 (.q 5 (.q 6 (.q 7 (.q 8 (.e 4 [5, 6, 7, 8] (.e 9 [] (.e 10 [] (.e 11 [] .done)))))))))))) hmix (by kernel_rfl) (by kernel_rfl) ?_
  have hS3543 := hS3470.drew
  refine DL_q rfl rfl (Exec.index_parr Tryd.underlying92 A3 rfl rfl rfl (by decide) rfl ⟨rfl, ?_⟩)
  refine DL_q rfl rfl (Exec.load_box ((hS3543).f1) A3 rfl rfl rfl ⟨rfl, ?_⟩)
  refine DL_q rfl rfl (Exec.index_parr Tryd.underlying92 A3 rfl rfl rfl (by decide) rfl ⟨rfl, ?_⟩)
  refine DL_q rfl rfl (Exec.load_box (hS3543) A3 rfl rfl rfl ⟨rfl, ?_⟩)
  refine DL_q rfl rfl (Exec.index_parr Tryd.underlying92 A3 rfl rfl rfl (by decide) rfl ⟨rfl, ?_⟩)
  refine DL_q rfl rfl (Exec.load_box ((hS3543).f1) A3 rfl rfl rfl ⟨rfl, ?_⟩)
  refine DL_q rfl rfl (Exec.index_parr Tryd.underlying92 A3 rfl rfl rfl (by decide) rfl ⟨rfl, ?_⟩)
  refine DL_q rfl rfl (Exec.load_box (hS3543) A3 rfl rfl rfl ⟨rfl, ?_⟩)
  refine DL_e rfl rfl (Exec.call rfl rfl Tryd.func59 rfl N59 (args_cons rfl (args_cons rfl args_nil)) ((cmp_Compare_int__sim (cmp_Compare_int__tot a3346.a0 b3347.a0) hS3543 ).mono ?_))
  rintro _ w3544 ⟨_, rfl, ⟨s3545, l3546, hS3547, rfl⟩⟩
  refine ⟨_, rfl, ?_⟩
  refine ⟨(ag_cons (ag_r rfl rfl (Exec.index_parr Tryd.underlying92 A3 rfl rfl rfl (by decide) rfl ⟨rfl, rfl⟩)) (ag_cons (ag_r rfl rfl (Exec.load_box ((hS3547).f1) A3 rfl rfl rfl ⟨rfl, rfl⟩)) (ag_cons (ag_r rfl rfl (Exec.index_parr Tryd.underlying92 A3 rfl rfl rfl (by decide) rfl ⟨rfl, rfl⟩)) (ag_cons (ag_r rfl rfl (Exec.load_box (hS3547) A3 rfl rfl rfl ⟨rfl, rfl⟩)) ag_nil)))), ?_⟩
  refine DL_e rfl rfl (Exec.call rfl rfl Tryd.func59 rfl N59 (args_cons rfl (args_cons rfl args_nil)) ((cmp_Compare_int__sim (cmp_Compare_int__tot a3346.a1 b3347.a1) hS3547 ).mono ?_))
  rintro _ w3548 ⟨_, rfl, ⟨s3549, l3550, hS3551, rfl⟩⟩
  refine ⟨_, rfl, ?_⟩
  refine ⟨ag_nil, ?_⟩
  refine DL_e rfl rfl (Exec.buildSlice (Te := 3) (cs := [Value.int .i64 ((cmp_Compare_int__t a3346.a0 b3347.a0)), Value.int .i64 ((cmp_Compare_int__t a3346.a1 b3347.a1))]) hS3551 rfl (parts_cons (c := [Value.int .i64 ((cmp_Compare_int__t a3346.a0 b3347.a0))]) (cells_of rfl rfl) (parts_cons (c := [Value.int .i64 ((cmp_Compare_int__t a3346.a1 b3347.a1))]) (cells_of rfl rfl) parts_nil)) (fun _ => by kernel_rfl) ?_)
  intro b3552 w3553 hS3554
  refine ⟨ag_nil, ?_⟩
  have hS3555 := St.boxArr (E := (encInt .i64)) (xs := [(cmp_Compare_int__t a3346.a0 b3347.a0), (cmp_Compare_int__t a3346.a1 b3347.a1)]) hS3554 ⟨[Value.int .i64 ((cmp_Compare_int__t a3346.a0 b3347.a0))], [Value.int .i64 ((cmp_Compare_int__t a3346.a1 b3347.a1))], rfl, rfl, ⟨[Value.int .i64 ((cmp_Compare_int__t a3346.a1 b3347.a1))], [], rfl, rfl, rfl⟩⟩ (by simp [maxLen])
  obtain ⟨s3556, l3557, hS3558, r3559⟩ := hS3555.freezeArr
  obtain ⟨y3562, q3561, hm⟩ := bind_some hm
  refine DL_e rfl rfl (Exec.call rfl rfl Tryd.func58 rfl N58 (args_cons rfl args_nil) ((cmp_Or_int__sim q3561 hS3558 r3559).mono ?_))
  rintro _ w3563 ⟨_, rfl, ⟨s3564, l3565, hS3566, rfl⟩⟩
  refine ⟨_, rfl, ?_⟩
  refine ⟨ag_nil, ?_⟩
  refine DL_done ?_
  refine WL_step rfl rfl (Exec.assign (v := Value.int .i64 (y3562)) rfl rfl ?_)
  refine WL_nil (at_normal ?_)
  refine W_ret ?_
  have e3568 := Option.some.inj hm
  subst r
  refine ⟨_, ret1 rfl, ?_⟩
  have hS3569 := (hS3566).drop
  have hS3570 := (hS3569).drop
  exact ⟨s3564, (PHeap.le.trans (PHeap.le.trans (PHeap.le.trans l3546 l3550) l3557) l3565), hS3570, rfl⟩

theorem N56 : (Tryd.f56.name == "runtime.NumGoroutine") = false := by kernel_rfl

end Go.Pw
