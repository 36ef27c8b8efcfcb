/-
  The walks (printed by my generator).
-/
import Derived.Test.YtagooehmocpcjaaDoorExP
import Derived.Test.YtagooehmocpcjaaDoorL8
import Derived.Test.YtagooehmocpcjaaDoorL9
import Derived.Test.YtagooehmocpcjaaDoorL12
import Derived.Test.YtagooehmocpcjaaDoorL14
import Derived.Test.YtagooehmocpcjaaDoorLB
import Derived.Test.YtagooehmocpcjaaDoorL22
import Derived.Test.YtagooehmocpcjaaDoorProg
import Derived.KernelRfl
set_option maxRecDepth 100000
set_option maxHeartbeats 4000000
set_option linter.unusedVariables false
namespace Go.Pw
open Go.Proofs
theorem Z26 : tyZero Tryd.prog 26 = some (Value.agg #[Value.int .i64 (0), Value.int .i64 (0), Value.slice none 0 0, Value.slice none 0 0, Value.slice none 0 0]) := by kernel_rfl

theorem A26 : tyAgg Tryd.prog 26 = some (true, 5) := by kernel_rfl

theorem F26_0 : tyField Tryd.prog 26 0 = some 0 := by kernel_rfl

theorem A3 : tyAgg Tryd.prog 3 = some (false, 1) := by kernel_rfl

theorem F26_1 : tyField Tryd.prog 26 1 = some 1 := by kernel_rfl

theorem F26_4 : tyField Tryd.prog 26 4 = some 4 := by kernel_rfl

theorem A24 : tyAgg Tryd.prog 24 = some (false, 1) := by kernel_rfl

theorem S24 : tySlice Tryd.prog 24 = some (4, 1, 1) := by kernel_rfl

theorem F26_2 : tyField Tryd.prog 26 2 = some 2 := by kernel_rfl

theorem A22 : tyAgg Tryd.prog 22 = some (false, 1) := by kernel_rfl

theorem S22 : tySlice Tryd.prog 22 = some (3, 1, 8) := by kernel_rfl

theorem F26_3 : tyField Tryd.prog 26 3 = some 3 := by kernel_rfl

theorem A23 : tyAgg Tryd.prog 23 = some (false, 1) := by kernel_rfl

theorem S23 : tySlice Tryd.prog 23 = some (53, 3, 24) := by kernel_rfl

theorem A53 : tyAgg Tryd.prog 53 = some (true, 3) := by kernel_rfl

theorem Z53 : tyZero Tryd.prog 53 = some (Value.agg #[Value.int .i64 (0), Value.int .i64 (0), Value.int .i64 (0)]) := by kernel_rfl

theorem hmix : Tryd.prog.follows .mixedOrders = true := by kernel_rfl

theorem F53_0 : tyField Tryd.prog 53 0 = some 0 := by kernel_rfl

theorem F53_2 : tyField Tryd.prog 53 2 = some 2 := by kernel_rfl

theorem F53_1 : tyField Tryd.prog 53 1 = some 1 := by kernel_rfl

theorem N69 : (Tryd.f69.name == "runtime.NumGoroutine") = false := by kernel_rfl

theorem cmp_isNaN_int__sim {w0 w : World} {s : PHeap} {H : List Res} {x295 : Int}  {r : Bool} (hm : cmp_isNaN_int__p x295 = some r) (hS : St w0 s (H) w)  :
  Calls Tryd.prog 69 #[Value.int .i64 (x295)] w fun e w' => ∃ v, e = .returned v ∧ ((fun (y297 : Bool) => ∃ (s298 : PHeap) , PHeap.le s s298 ∧ St w0 s298 (H) w' ∧ v = Value.bool (y297)) r) := by
 unfold cmp_isNaN_int__p at hm
 refine calls_of_W Tryd.func69 rfl rfl ?_
 refine W_seq ?_
 refine W_region ?_
 refine WL_step rfl rfl (Exec.assign (v := Value.bool (false)) rfl rfl ?_)
 refine WL_nil (at_normal ?_)
 refine W_seq ?_
 refine W_region ?_
 refine WL_step rfl rfl (Exec.move (v := Value.int .i64 (x295)) rfl rfl ?_)
 refine WL_step rfl rfl (Exec.move (v := Value.int .i64 (x295)) rfl rfl ?_)
 refine WL_step rfl rfl (Exec.neq rfl rfl rfl ?_)
 refine WL_step rfl rfl (Exec.assign (v := Value.bool (!decide (x295 = x295))) rfl rfl ?_)
 refine WL_nil (at_normal ?_)
 refine W_ret ?_
 have e300 := Option.some.inj hm
 subst r
 refine ⟨_, ret1 rfl, ?_⟩
 exact ⟨s, (PHeap.le_refl _), hS, rfl⟩

theorem N59 : (Tryd.f59.name == "runtime.NumGoroutine") = false := by kernel_rfl

theorem cmp_Compare_int__sim {w0 w : World} {s : PHeap} {H : List Res} {x293 : Int} {y294 : Int}  {r : Int} (hm : cmp_Compare_int__p x293 y294 = some r) (hS : St w0 s (H) w)  :
  Calls Tryd.prog 59 #[Value.int .i64 (x293), Value.int .i64 (y294)] w fun e w' => ∃ v, e = .returned v ∧ ((fun (y323 : Int) => ∃ (s324 : PHeap) , PHeap.le s s324 ∧ St w0 s324 (H) w' ∧ v = Value.int .i64 (y323)) r) := by
 unfold cmp_Compare_int__p at hm
 refine calls_of_W Tryd.func59 rfl rfl ?_
 refine W_seq ?_
 refine W_region ?_
 refine WL_step rfl rfl (Exec.assign (v := Value.int .i64 (0)) rfl rfl ?_)
 refine WL_nil (at_normal ?_)
 refine W_seq ?_
 refine W_region ?_
 refine WL_step rfl rfl (Exec.move (v := Value.int .i64 (x293)) rfl rfl ?_)
 refine WL_step rfl rfl (Exec.call rfl rfl Tryd.func69 rfl N69 (args_cons rfl args_nil) ((cmp_isNaN_int__sim (cmp_isNaN_int__tot x293) hS ).mono ?_))
 rintro _ w329 ⟨_, rfl, ⟨s330, l331, hS332, rfl⟩⟩
 refine ⟨_, rfl, ?_⟩
 refine WL_step rfl rfl (Exec.assign (v := Value.bool ((cmp_isNaN_int__t x293))) rfl rfl ?_)
 refine WL_nil (at_normal ?_)
 refine W_seq ?_
 refine W_region ?_
 refine WL_step rfl rfl (Exec.move (v := Value.int .i64 (y294)) rfl rfl ?_)
 refine WL_step rfl rfl (Exec.call rfl rfl Tryd.func69 rfl N69 (args_cons rfl args_nil) ((cmp_isNaN_int__sim (cmp_isNaN_int__tot y294) hS332 ).mono ?_))
 rintro _ w337 ⟨_, rfl, ⟨s338, l339, hS340, rfl⟩⟩
 refine ⟨_, rfl, ?_⟩
 refine WL_step rfl rfl (Exec.assign (v := Value.bool ((cmp_isNaN_int__t y294))) rfl rfl ?_)
 refine WL_nil (at_normal ?_)
 refine W_seq ?_
 refine W_seq ?_
 refine W_region ?_
 refine WL_step rfl rfl (Exec.move (v := Value.bool ((cmp_isNaN_int__t x293))) rfl rfl ?_)
 refine WL_nil (at_normal ?_)
 rcases ite_some hm with ⟨hc341, hm⟩ | ⟨hc341, hm⟩
 ·refine W_cond_t rfl hc341 ?_
  refine W_seq ?_
  refine W_seq ?_
  refine W_region ?_
  refine WL_step rfl rfl (Exec.move (v := Value.bool ((cmp_isNaN_int__t y294))) rfl rfl ?_)
  refine WL_nil (at_normal ?_)
  rcases ite_some hm with ⟨hc342, hm⟩ | ⟨hc342, hm⟩
  ·refine W_cond_t rfl hc342 ?_
   refine W_seq ?_
   refine W_region ?_
   refine WL_step rfl rfl (Exec.assign (v := Value.int .i64 (0)) rfl rfl ?_)
   refine WL_nil (at_normal ?_)
   refine W_ret (at_ret (at_ret ?_))
   have e344 := Option.some.inj hm
   subst r
   refine ⟨_, ret1 rfl, ?_⟩
   exact ⟨s338, (PHeap.le.trans l331 l339), hS340, rfl⟩
  ·refine W_cond_f rfl hc342 ?_
   replace hc342 := not_true hc342
   refine W_skip (at_normal ?_)
   refine W_seq ?_
   refine W_region ?_
   refine WL_step rfl rfl (Exec.assign (v := Value.int .i64 ((-1))) rfl rfl ?_)
   refine WL_nil (at_normal ?_)
   refine W_ret (at_ret ?_)
   have e346 := Option.some.inj hm
   subst r
   refine ⟨_, ret1 rfl, ?_⟩
   exact ⟨s338, (PHeap.le.trans l331 l339), hS340, rfl⟩
 ·refine W_cond_f rfl hc341 ?_
  replace hc341 := not_true hc341
  refine W_skip (at_normal ?_)
  refine W_seq ?_
  refine W_seq ?_
  refine W_region ?_
  refine WL_step rfl rfl (Exec.move (v := Value.bool ((cmp_isNaN_int__t y294))) rfl rfl ?_)
  refine WL_nil (at_normal ?_)
  rcases ite_some hm with ⟨hc347, hm⟩ | ⟨hc347, hm⟩
  ·refine W_cond_t rfl hc347 ?_
   refine W_seq ?_
   refine W_region ?_
   refine WL_step rfl rfl (Exec.assign (v := Value.int .i64 (1)) rfl rfl ?_)
   refine WL_nil (at_normal ?_)
   refine W_ret (at_ret ?_)
   have e349 := Option.some.inj hm
   subst r
   refine ⟨_, ret1 rfl, ?_⟩
   exact ⟨s338, (PHeap.le.trans l331 l339), hS340, rfl⟩
  ·refine W_cond_f rfl hc347 ?_
   replace hc347 := not_true hc347
   refine W_skip (at_normal ?_)
   refine W_seq ?_
   refine W_seq ?_
   refine W_region ?_
   refine WL_step rfl rfl (Exec.move (v := Value.int .i64 (x293)) rfl rfl ?_)
   refine WL_step rfl rfl (Exec.move (v := Value.int .i64 (y294)) rfl rfl ?_)
   refine WL_step rfl rfl (Exec.lss rfl rfl rfl ?_)
   refine WL_nil (at_normal ?_)
   rcases ite_some hm with ⟨hc350, hm⟩ | ⟨hc350, hm⟩
   ·refine W_cond_t rfl hc350 ?_
    refine W_seq ?_
    refine W_region ?_
    refine WL_step rfl rfl (Exec.assign (v := Value.int .i64 ((-1))) rfl rfl ?_)
    refine WL_nil (at_normal ?_)
    refine W_ret (at_ret ?_)
    have e352 := Option.some.inj hm
    subst r
    refine ⟨_, ret1 rfl, ?_⟩
    exact ⟨s338, (PHeap.le.trans l331 l339), hS340, rfl⟩
   ·refine W_cond_f rfl hc350 ?_
    replace hc350 := not_true hc350
    refine W_skip (at_normal ?_)
    refine W_seq ?_
    refine W_seq ?_
    refine W_region ?_
    refine WL_step rfl rfl (Exec.move (v := Value.int .i64 (x293)) rfl rfl ?_)
    refine WL_step rfl rfl (Exec.move (v := Value.int .i64 (y294)) rfl rfl ?_)
    refine WL_step rfl rfl (Exec.gtr rfl rfl rfl ?_)
    refine WL_nil (at_normal ?_)
    rcases ite_some hm with ⟨hc353, hm⟩ | ⟨hc353, hm⟩
    ·refine W_cond_t rfl hc353 ?_
     refine W_seq ?_
     refine W_region ?_
     refine WL_step rfl rfl (Exec.assign (v := Value.int .i64 (1)) rfl rfl ?_)
     refine WL_nil (at_normal ?_)
     refine W_ret (at_ret ?_)
     have e355 := Option.some.inj hm
     subst r
     refine ⟨_, ret1 rfl, ?_⟩
     exact ⟨s338, (PHeap.le.trans l331 l339), hS340, rfl⟩
    ·refine W_cond_f rfl hc353 ?_
     replace hc353 := not_true hc353
     refine W_skip (at_normal ?_)
     refine W_seq ?_
     refine W_region ?_
     refine WL_step rfl rfl (Exec.assign (v := Value.int .i64 (0)) rfl rfl ?_)
     refine WL_nil (at_normal ?_)
     refine W_ret ?_
     have e357 := Option.some.inj hm
     subst r
     refine ⟨_, ret1 rfl, ?_⟩
     exact ⟨s338, (PHeap.le.trans l331 l339), hS340, rfl⟩

theorem N58 : (Tryd.f58.name == "runtime.NumGoroutine") = false := by kernel_rfl

theorem cmp_Or_int__sim {w0 w : World} {s : PHeap} {H : List Res} {vals378 : (List Int)} {v379 : Value} {r : Int} (hm : cmp_Or_int__p vals378 = some r) (hS : St w0 s (H) w) (a380 : SliceRep (encInt .i64) s v379 vals378) :
  Calls Tryd.prog 58 #[v379] w fun e w' => ∃ v, e = .returned v ∧ ((fun (y477 : Int) => ∃ (s478 : PHeap) , PHeap.le s s478 ∧ St w0 s478 (H) w' ∧ v = Value.int .i64 (y477)) r) := by
 unfold cmp_Or_int__p at hm
 refine calls_of_W Tryd.func58 rfl rfl ?_
 refine W_seq ?_
 refine W_region ?_
 refine WL_step rfl rfl (Exec.assign (v := Value.int .i64 (0)) rfl rfl ?_)
 refine WL_nil (at_normal ?_)
 refine W_seq ?_
 refine W_region ?_
 refine WL_step rfl rfl (Exec.assign (v := Value.int .i64 (0)) rfl rfl ?_)
 refine WL_nil (at_normal ?_)
 refine W_seq ?_
 refine W_seq ?_
 refine W_region ?_
 refine WL_step rfl rfl (Exec.move (v := v379) rfl rfl ?_)
 refine WL_step rfl rfl (Exec.len_rep S22 rfl rfl a380 ?_)
 refine WL_step rfl rfl (Exec.move (v := Value.int .i64 (0)) rfl rfl ?_)
 refine WL_nil (at_normal ?_)
 obtain ⟨c512, hB513, hr514, hn515, hb516⟩ := ctl_some hm
 refine W_mid (M := fun f' w' => ∃ s', (c512 = .next s' ∨ c512 = .brk s') ∧ (fun (_ : Unit) => ∃ (s518 : PHeap) , PHeap.le s s518 ∧ St w0 s518 (H) w' ∧ f' 3 = Value.int .i64 (0) ∧ f' 6 = v379 ∧ f' 7 = Value.int .i64 ((vals378.length : Int))) s') ?_ ?_
 ·refine W_block (W_forC (fun k' s' f' w' => (fun (_ : Unit) => ∃ (s517 : PHeap) , PHeap.le s s517 ∧ St w0 s517 (H) w' ∧ f' 3 = Value.int .i64 (0) ∧ f' 6 = v379 ∧ f' 7 = Value.int .i64 ((vals378.length : Int)) ∧ f' 8 = Value.int .i64 (k' : Int)) s') hB513 ?_ ?_ ?_)
  ·exact ⟨s, (PHeap.le_refl _), hS, rfl, rfl, rfl, rfl⟩
  ·intro i479 t526 c520 f521 w522 hi527 hI523 hm524 hres525
   obtain ⟨s528, l529, hS530, p531, p532, p533, x534⟩ := hI523
   refine W_seq ?_
   refine W_region ?_
   refine WL_step rfl rfl (Exec.lss rfl x534 p533 ?_)
   refine WL_nil (at_normal ?_)
   refine W_seq ?_
   refine W_true (congrArg Value.bool (decide_eq_true (by omega))) ?_
   refine W_skip (at_normal ?_)
   refine W_seq ?_
   refine W_block ?_
   refine W_seq ?_
   refine W_region ?_
   obtain ⟨x542, q543, hm524⟩ := bind_some hm524
   refine WL_step rfl rfl (Exec.index_rep S22 rfl p532 x534 (a380.mono l529) q543 ?_)
   intro b544 o545 a546
   refine WL_step rfl rfl (Exec.load_at (E := (encInt .i64)) hS530 A3 rfl rfl rfl a546 ?_)
   intro v547 q548
   obtain rfl := encInt_val.1 q548
   refine WL_step rfl rfl (Exec.assign (v := Value.int .i64 (x542)) rfl rfl ?_)
   refine WL_nil (at_normal ?_)
   refine W_seq ?_
   refine W_region ?_
   refine WL_step rfl rfl (Exec.move (v := Value.int .i64 (x542)) rfl rfl ?_)
   refine WL_step rfl rfl (Exec.move (v := Value.int .i64 (0)) rfl p531 ?_)
   refine WL_step rfl rfl (Exec.neq rfl rfl rfl ?_)
   refine WL_nil (at_normal ?_)
   rcases ite_some hm524 with ⟨hc549, hm524⟩ | ⟨hc549, hm524⟩
   ·refine W_cond_t rfl hc549 ?_
    refine W_seq ?_
    refine W_region ?_
    refine WL_step rfl rfl (Exec.move (v := Value.int .i64 (x542)) rfl rfl ?_)
    refine WL_step rfl rfl (Exec.assign (v := Value.int .i64 (x542)) rfl rfl ?_)
    refine WL_nil (at_normal ?_)
    refine W_ret (ib_ret (at_ret (at_ret (ib_ret (at_ret (at_ret ?_))))))
    have e550 := Option.some.inj hm524
    subst c520
    have hq551 := hr514 _ (hres525 (by intro _ h; cases h))
    have e552 := Option.some.inj hq551
    subst r
    refine ⟨_, ret1 rfl, ?_⟩
    exact ⟨s528, l529, hS530, rfl⟩
   ·refine W_cond_f rfl hc549 ?_
    replace hc549 := not_true hc549
    refine W_skip (ib_normal (at_normal ?_))
    refine W_region ?_
    refine WL_step rfl rfl (Exec.add rfl x534 rfl ?_)
    refine WL_step rfl rfl (Exec.move (v := Value.int .i64 (IntKind.i64.wrap ((i479 : Int) + 1))) rfl rfl ?_)
    refine WL_nil (at_normal ?_)
    have e553 := Option.some.inj hm524
    subst c520
    refine ⟨_, rfl, ?_⟩; exact ⟨s528, l529, hS530, p531, p532, p533, (Eq.trans rfl (wrap_up hi527 (SliceRep.le a380)))⟩
  ·intro t554 f555 w556 hI557 hres558
   obtain ⟨s559, l560, hS561, p562, p563, p564, x565⟩ := hI557
   refine W_seq ?_
   refine W_region ?_
   refine WL_step rfl rfl (Exec.lss rfl x565 p564 ?_)
   refine WL_nil (at_normal ?_)
   refine W_seq ?_
   refine W_false (congrArg Value.bool (decide_eq_false (by omega))) ?_
   refine W_exit (at_exit (at_exit (ib_here (at_normal ?_))))
   refine ⟨_, .inl hres558, ?_⟩; exact ⟨s559, l560, hS561, p562, p563, p564⟩
 ·rintro f566 w567 ⟨t568, hc569, hM570⟩
  have hm := hc569.elim (hn515 _) (hb516 _)
  clear hc569
  obtain ⟨s571, l572, hS573, p574, p575, p576⟩ := hM570
  refine (at_normal ?_)
  refine W_seq ?_
  refine W_region ?_
  refine WL_step rfl rfl (Exec.move (v := Value.int .i64 (0)) rfl p574 ?_)
  refine WL_step rfl rfl (Exec.assign (v := Value.int .i64 (0)) rfl rfl ?_)
  refine WL_nil (at_normal ?_)
  refine W_ret ?_
  have e578 := Option.some.inj hm
  subst r
  refine ⟨_, ret1 rfl, ?_⟩
  exact ⟨s571, l572, hS573, rfl⟩

theorem N44 : (Tryd.f44.name == "runtime.NumGoroutine") = false := by kernel_rfl

theorem transys_compare_sim {w0 w : World} {s : PHeap} {H : List Res} {a278 : Edge} {b279 : Edge}  {r : Int} (hm : transys_compare_p a278 b279 = some r) (hS : St w0 s (H) w)  :
  Calls Tryd.prog 44 #[Value.agg #[Value.int .i64 (a278.From), Value.int .i64 (a278.Label), Value.int .i64 (a278.To)], Value.agg #[Value.int .i64 (b279.From), Value.int .i64 (b279.Label), Value.int .i64 (b279.To)]] w fun e w' => ∃ v, e = .returned v ∧ ((fun (y671 : Int) => ∃ (s672 : PHeap) , PHeap.le s s672 ∧ St w0 s672 (H) w' ∧ v = Value.int .i64 (y671)) r) := by
 unfold transys_compare_p at hm
 refine calls_of_W Tryd.func44 rfl rfl ?_
 refine W_seq ?_
 refine W_region ?_
 refine WL_step rfl rfl (Exec.box (cs := [Value.int .i64 (a278.From), Value.int .i64 (a278.Label), Value.int .i64 (a278.To)]) hS rfl rfl rfl ?_)
 intro b679 w680 hS681
 refine WL_step rfl rfl (Exec.box (cs := [Value.int .i64 (b279.From), Value.int .i64 (b279.Label), Value.int .i64 (b279.To)]) hS681 rfl rfl rfl ?_)
 intro b682 w683 hS684
 refine WL_step rfl rfl (Exec.assign (v := Value.int .i64 (0)) rfl rfl ?_)
 refine WL_nil (at_normal ?_)
 refine W_seq ?_
 refine W_dl (n0 := 17) (.q 0 (.q 1 (.q 2 (.q 3 (.q 5 (.q 6 (.q 7 (.q 8 (.q 10 (.q 11 (.q 12 (.q 13 (.e 4 [5, 6, 7, 8, 10, 11, 12, 13] (.e 9 [10, 11, 12, 13] (.e 14 [] (.e 15 [] (.e 16 [] .done))))))))))))))))) hmix (by kernel_rfl) (by kernel_rfl) ?_
 have hS769 := hS684.drew
 refine DL_q rfl rfl (Exec.field F53_0 rfl rfl rfl ⟨rfl, ?_⟩)
 refine DL_q rfl rfl (Exec.load_box ((hS769).f1) A3 rfl rfl rfl ⟨rfl, ?_⟩)
 refine DL_q rfl rfl (Exec.field F53_0 rfl rfl rfl ⟨rfl, ?_⟩)
 refine DL_q rfl rfl (Exec.load_box (hS769) A3 rfl rfl rfl ⟨rfl, ?_⟩)
 refine DL_q rfl rfl (Exec.field F53_1 rfl rfl rfl ⟨rfl, ?_⟩)
 refine DL_q rfl rfl (Exec.load_box ((hS769).f1) A3 rfl rfl rfl ⟨rfl, ?_⟩)
 refine DL_q rfl rfl (Exec.field F53_1 rfl rfl rfl ⟨rfl, ?_⟩)
 refine DL_q rfl rfl (Exec.load_box (hS769) A3 rfl rfl rfl ⟨rfl, ?_⟩)
 refine DL_q rfl rfl (Exec.field F53_2 rfl rfl rfl ⟨rfl, ?_⟩)
 refine DL_q rfl rfl (Exec.load_box ((hS769).f1) A3 rfl rfl rfl ⟨rfl, ?_⟩)
 refine DL_q rfl rfl (Exec.field F53_2 rfl rfl rfl ⟨rfl, ?_⟩)
 refine DL_q rfl rfl (Exec.load_box (hS769) A3 rfl rfl rfl ⟨rfl, ?_⟩)
 refine DL_e rfl rfl (Exec.call rfl rfl Tryd.func59 rfl N59 (args_cons rfl (args_cons rfl args_nil)) ((cmp_Compare_int__sim (cmp_Compare_int__tot a278.From b279.From) hS769 ).mono ?_))
 rintro _ w770 ⟨_, rfl, ⟨s771, l772, hS773, rfl⟩⟩
 refine ⟨_, rfl, ?_⟩
 refine ⟨(ag_cons (ag_r rfl rfl (Exec.field F53_1 rfl rfl rfl ⟨rfl, rfl⟩)) (ag_cons (ag_r rfl rfl (Exec.load_box ((hS773).f1) A3 rfl rfl rfl ⟨rfl, rfl⟩)) (ag_cons (ag_r rfl rfl (Exec.field F53_1 rfl rfl rfl ⟨rfl, rfl⟩)) (ag_cons (ag_r rfl rfl (Exec.load_box (hS773) A3 rfl rfl rfl ⟨rfl, rfl⟩)) (ag_cons (ag_r rfl rfl (Exec.field F53_2 rfl rfl rfl ⟨rfl, rfl⟩)) (ag_cons (ag_r rfl rfl (Exec.load_box ((hS773).f1) A3 rfl rfl rfl ⟨rfl, rfl⟩)) (ag_cons (ag_r rfl rfl (Exec.field F53_2 rfl rfl rfl ⟨rfl, rfl⟩)) (ag_cons (ag_r rfl rfl (Exec.load_box (hS773) A3 rfl rfl rfl ⟨rfl, rfl⟩)) ag_nil)))))))), ?_⟩
 refine DL_e rfl rfl (Exec.call rfl rfl Tryd.func59 rfl N59 (args_cons rfl (args_cons rfl args_nil)) ((cmp_Compare_int__sim (cmp_Compare_int__tot a278.Label b279.Label) hS773 ).mono ?_))
 rintro _ w774 ⟨_, rfl, ⟨s775, l776, hS777, rfl⟩⟩
 refine ⟨_, rfl, ?_⟩
 refine ⟨(ag_cons (ag_r rfl rfl (Exec.field F53_2 rfl rfl rfl ⟨rfl, rfl⟩)) (ag_cons (ag_r rfl rfl (Exec.load_box ((hS777).f1) A3 rfl rfl rfl ⟨rfl, rfl⟩)) (ag_cons (ag_r rfl rfl (Exec.field F53_2 rfl rfl rfl ⟨rfl, rfl⟩)) (ag_cons (ag_r rfl rfl (Exec.load_box (hS777) A3 rfl rfl rfl ⟨rfl, rfl⟩)) ag_nil)))), ?_⟩
 refine DL_e rfl rfl (Exec.call rfl rfl Tryd.func59 rfl N59 (args_cons rfl (args_cons rfl args_nil)) ((cmp_Compare_int__sim (cmp_Compare_int__tot a278.To b279.To) hS777 ).mono ?_))
 rintro _ w778 ⟨_, rfl, ⟨s779, l780, hS781, rfl⟩⟩
 refine ⟨_, rfl, ?_⟩
 refine ⟨ag_nil, ?_⟩
 refine DL_e rfl rfl (Exec.buildSlice (Te := 3) (cs := [Value.int .i64 ((cmp_Compare_int__t a278.From b279.From)), Value.int .i64 ((cmp_Compare_int__t a278.Label b279.Label)), Value.int .i64 ((cmp_Compare_int__t a278.To b279.To))]) hS781 rfl (parts_cons (c := [Value.int .i64 ((cmp_Compare_int__t a278.From b279.From))]) (cells_of rfl rfl) (parts_cons (c := [Value.int .i64 ((cmp_Compare_int__t a278.Label b279.Label))]) (cells_of rfl rfl) (parts_cons (c := [Value.int .i64 ((cmp_Compare_int__t a278.To b279.To))]) (cells_of rfl rfl) parts_nil))) (fun _ => by kernel_rfl) ?_)
 intro b782 w783 hS784
 refine ⟨ag_nil, ?_⟩
 have hS785 := St.boxArr (E := (encInt .i64)) (xs := [(cmp_Compare_int__t a278.From b279.From), (cmp_Compare_int__t a278.Label b279.Label), (cmp_Compare_int__t a278.To b279.To)]) hS784 ⟨[Value.int .i64 ((cmp_Compare_int__t a278.From b279.From))], [Value.int .i64 ((cmp_Compare_int__t a278.Label b279.Label)), Value.int .i64 ((cmp_Compare_int__t a278.To b279.To))], rfl, rfl, ⟨[Value.int .i64 ((cmp_Compare_int__t a278.Label b279.Label))], [Value.int .i64 ((cmp_Compare_int__t a278.To b279.To))], rfl, rfl, ⟨[Value.int .i64 ((cmp_Compare_int__t a278.To b279.To))], [], rfl, rfl, rfl⟩⟩⟩ (by simp [maxLen])
 obtain ⟨s786, l787, hS788, r789⟩ := hS785.freezeArr
 obtain ⟨y792, q791, hm⟩ := bind_some hm
 refine DL_e rfl rfl (Exec.call rfl rfl Tryd.func58 rfl N58 (args_cons rfl args_nil) ((cmp_Or_int__sim q791 hS788 r789).mono ?_))
 rintro _ w793 ⟨_, rfl, ⟨s794, l795, hS796, rfl⟩⟩
 refine ⟨_, rfl, ?_⟩
 refine ⟨ag_nil, ?_⟩
 refine DL_done ?_
 refine WL_step rfl rfl (Exec.assign (v := Value.int .i64 (y792)) rfl rfl ?_)
 refine WL_nil (at_normal ?_)
 refine W_ret ?_
 have e798 := Option.some.inj hm
 subst r
 refine ⟨_, ret1 rfl, ?_⟩
 have hS799 := (hS796).drop
 have hS800 := (hS799).drop
 exact ⟨s794, (PHeap.le.trans (PHeap.le.trans (PHeap.le.trans (PHeap.le.trans l772 l776) l780) l787) l795), hS800, rfl⟩

theorem N22 : (Tryd.f22.name == "runtime.NumGoroutine") = false := by kernel_rfl

theorem transys_Valid_sim {w0 w : World} {s : PHeap} {H : List Res} {x64 : System} {v65 : Value} {v67 : Value} {v69 : Value} {r : Bool} (hm : transys_Valid_p x64 = some r) (hS : St w0 s (H) w) (a66 : SliceRep (encInt .i64) s v65 x64.Costs) (a68 : SliceRep encEdge s v67 x64.Edges) (a70 : SliceRep encBool s v69 x64.Goals) :
  Calls Tryd.prog 22 #[Value.agg #[Value.int .i64 (x64.States), Value.int .i64 (x64.Init), v65, v67, v69]] w fun e w' => ∃ v, e = .returned v ∧ ((fun (y100 : Bool) => ∃ (s100 : PHeap) , PHeap.le s s100 ∧ St w0 s100 (H) w' ∧ v = Value.bool (y100)) r) := by
 unfold transys_Valid_p at hm
 refine calls_of_W Tryd.func22 rfl rfl ?_
 refine W_seq ?_
 refine W_region ?_
 refine WL_step rfl rfl (Exec.box (cs := [Value.int .i64 (x64.States), Value.int .i64 (x64.Init), v65, v67, v69]) hS rfl rfl rfl ?_)
 intro b100 w100 hS100
 refine WL_step rfl rfl (Exec.assign (v := Value.bool (false)) rfl rfl ?_)
 refine WL_nil (at_normal ?_)
 refine W_seq ?_
 refine W_seq ?_
 refine W_mid (M := fun f' w' => ∃ (s101 : PHeap) , PHeap.le s s101 ∧ St w0 s101 (Res.box b100 26 [Value.int .i64 (x64.States), Value.int .i64 (x64.Init), v65, v67, v69] :: H) w' ∧ f' 1 = Value.pointer (some ⟨b100, 0, none⟩) ∧ f' 46 = Value.bool (((decide (x64.States < 1)) || ((decide (4096 < x64.States)) || ((decide (x64.Init < 0)) || ((decide (x64.States ≤ x64.Init)) || ((!decide ((x64.Goals.length : Int) = x64.States)) || ((decide (4096 < (x64.Costs.length : Int))) || decide (65536 < (x64.Edges.length : Int)))))))))) ?_ ?_
 ·refine W_region ?_
  refine WL_step rfl rfl (Exec.field F26_0 rfl rfl rfl ?_)
  refine WL_step rfl rfl (Exec.load_box (hS100) A3 rfl rfl rfl ?_)
  refine WL_step rfl rfl (Exec.lss rfl rfl rfl ?_)
  refine WL_step rfl rfl (Exec.move (v := Value.bool (decide (x64.States < 1))) rfl rfl ?_)
  by_cases hc100 : (decide (x64.States < 1)) = true
  ·refine WL_pass rfl (yield_of rfl (congrArg Value.bool hc100)) rfl rfl ?_
   refine WL_pass rfl (yield_of rfl (congrArg Value.bool hc100)) rfl rfl ?_
   refine WL_pass rfl (yield_of rfl (congrArg Value.bool hc100)) rfl rfl ?_
   refine WL_step rfl rfl (Exec.pick_t (v := Value.bool (true)) rfl (congrArg Value.bool hc100) rfl ?_)
   refine WL_step rfl rfl (Exec.move (v := Value.bool (true)) rfl rfl ?_)
   refine WL_pass rfl (yield_of rfl rfl) rfl rfl ?_
   refine WL_pass rfl (yield_of rfl rfl) rfl rfl ?_
   refine WL_pass rfl (yield_of rfl rfl) rfl rfl ?_
   refine WL_step rfl rfl (Exec.pick_t (v := Value.bool (true)) rfl rfl rfl ?_)
   refine WL_step rfl rfl (Exec.move (v := Value.bool (true)) rfl rfl ?_)
   refine WL_pass rfl (yield_of rfl rfl) rfl rfl ?_
   refine WL_pass rfl (yield_of rfl rfl) rfl rfl ?_
   refine WL_pass rfl (yield_of rfl rfl) rfl rfl ?_
   refine WL_pass rfl (yield_of rfl rfl) rfl rfl ?_
   refine WL_pass rfl (yield_of rfl rfl) rfl rfl ?_
   refine WL_step rfl rfl (Exec.pick_t (v := Value.bool (true)) rfl rfl rfl ?_)
   refine WL_step rfl rfl (Exec.move (v := Value.bool (true)) rfl rfl ?_)
   refine WL_pass rfl (yield_of rfl rfl) rfl rfl ?_
   refine WL_pass rfl (yield_of rfl rfl) rfl rfl ?_
   refine WL_pass rfl (yield_of rfl rfl) rfl rfl ?_
   refine WL_pass rfl (yield_of rfl rfl) rfl rfl ?_
   refine WL_pass rfl (yield_of rfl rfl) rfl rfl ?_
   refine WL_pass rfl (yield_of rfl rfl) rfl rfl ?_
   refine WL_step rfl rfl (Exec.pick_t (v := Value.bool (true)) rfl rfl rfl ?_)
   refine WL_step rfl rfl (Exec.move (v := Value.bool (true)) rfl rfl ?_)
   refine WL_pass rfl (yield_of rfl rfl) rfl rfl ?_
   refine WL_pass rfl (yield_of rfl rfl) rfl rfl ?_
   refine WL_pass rfl (yield_of rfl rfl) rfl rfl ?_
   refine WL_pass rfl (yield_of rfl rfl) rfl rfl ?_
   refine WL_step rfl rfl (Exec.pick_t (v := Value.bool (true)) rfl rfl rfl ?_)
   refine WL_step rfl rfl (Exec.move (v := Value.bool (true)) rfl rfl ?_)
   refine WL_pass rfl (yield_of rfl rfl) rfl rfl ?_
   refine WL_pass rfl (yield_of rfl rfl) rfl rfl ?_
   refine WL_pass rfl (yield_of rfl rfl) rfl rfl ?_
   refine WL_pass rfl (yield_of rfl rfl) rfl rfl ?_
   refine WL_step rfl rfl (Exec.pick_t (v := Value.bool (true)) rfl rfl rfl ?_)
   refine WL_nil (at_normal ?_)
   exact ⟨s, (PHeap.le_refl _), hS100, rfl, (congrArg Value.bool (or_t hc100)).symm⟩
  ·replace hc100 := not_true hc100
   refine WL_run rfl (yield_of rfl (congrArg Value.bool hc100)) rfl (Exec.field F26_0 rfl rfl rfl ?_)
   refine WL_run rfl (yield_of rfl (congrArg Value.bool hc100)) rfl (Exec.load_box (hS100) A3 rfl rfl rfl ?_)
   refine WL_run rfl (yield_of rfl (congrArg Value.bool hc100)) rfl (Exec.gtr rfl rfl rfl ?_)
   refine WL_step rfl rfl (Exec.pick_f (v := Value.bool (decide (4096 < x64.States))) rfl (congrArg Value.bool hc100) rfl ?_)
   refine WL_step rfl rfl (Exec.move (v := Value.bool (decide (4096 < x64.States))) rfl rfl ?_)
   by_cases hc101 : (decide (4096 < x64.States)) = true
   ·refine WL_pass rfl (yield_of rfl (congrArg Value.bool hc101)) rfl rfl ?_
    refine WL_pass rfl (yield_of rfl (congrArg Value.bool hc101)) rfl rfl ?_
    refine WL_pass rfl (yield_of rfl (congrArg Value.bool hc101)) rfl rfl ?_
    refine WL_step rfl rfl (Exec.pick_t (v := Value.bool (true)) rfl (congrArg Value.bool hc101) rfl ?_)
    refine WL_step rfl rfl (Exec.move (v := Value.bool (true)) rfl rfl ?_)
    refine WL_pass rfl (yield_of rfl rfl) rfl rfl ?_
    refine WL_pass rfl (yield_of rfl rfl) rfl rfl ?_
    refine WL_pass rfl (yield_of rfl rfl) rfl rfl ?_
    refine WL_pass rfl (yield_of rfl rfl) rfl rfl ?_
    refine WL_pass rfl (yield_of rfl rfl) rfl rfl ?_
    refine WL_step rfl rfl (Exec.pick_t (v := Value.bool (true)) rfl rfl rfl ?_)
    refine WL_step rfl rfl (Exec.move (v := Value.bool (true)) rfl rfl ?_)
    refine WL_pass rfl (yield_of rfl rfl) rfl rfl ?_
    refine WL_pass rfl (yield_of rfl rfl) rfl rfl ?_
    refine WL_pass rfl (yield_of rfl rfl) rfl rfl ?_
    refine WL_pass rfl (yield_of rfl rfl) rfl rfl ?_
    refine WL_pass rfl (yield_of rfl rfl) rfl rfl ?_
    refine WL_pass rfl (yield_of rfl rfl) rfl rfl ?_
    refine WL_step rfl rfl (Exec.pick_t (v := Value.bool (true)) rfl rfl rfl ?_)
    refine WL_step rfl rfl (Exec.move (v := Value.bool (true)) rfl rfl ?_)
    refine WL_pass rfl (yield_of rfl rfl) rfl rfl ?_
    refine WL_pass rfl (yield_of rfl rfl) rfl rfl ?_
    refine WL_pass rfl (yield_of rfl rfl) rfl rfl ?_
    refine WL_pass rfl (yield_of rfl rfl) rfl rfl ?_
    refine WL_step rfl rfl (Exec.pick_t (v := Value.bool (true)) rfl rfl rfl ?_)
    refine WL_step rfl rfl (Exec.move (v := Value.bool (true)) rfl rfl ?_)
    refine WL_pass rfl (yield_of rfl rfl) rfl rfl ?_
    refine WL_pass rfl (yield_of rfl rfl) rfl rfl ?_
    refine WL_pass rfl (yield_of rfl rfl) rfl rfl ?_
    refine WL_pass rfl (yield_of rfl rfl) rfl rfl ?_
    refine WL_step rfl rfl (Exec.pick_t (v := Value.bool (true)) rfl rfl rfl ?_)
    refine WL_nil (at_normal ?_)
    exact ⟨s, (PHeap.le_refl _), hS100, rfl, (congrArg Value.bool (Eq.trans (or_f hc100) (or_t hc101))).symm⟩
   ·replace hc101 := not_true hc101
    refine WL_run rfl (yield_of rfl (congrArg Value.bool hc101)) rfl (Exec.field F26_1 rfl rfl rfl ?_)
    refine WL_run rfl (yield_of rfl (congrArg Value.bool hc101)) rfl (Exec.load_box (hS100) A3 rfl rfl rfl ?_)
    refine WL_run rfl (yield_of rfl (congrArg Value.bool hc101)) rfl (Exec.lss rfl rfl rfl ?_)
    refine WL_step rfl rfl (Exec.pick_f (v := Value.bool (decide (x64.Init < 0))) rfl (congrArg Value.bool hc101) rfl ?_)
    refine WL_step rfl rfl (Exec.move (v := Value.bool (decide (x64.Init < 0))) rfl rfl ?_)
    by_cases hc102 : (decide (x64.Init < 0)) = true
    ·refine WL_pass rfl (yield_of rfl (congrArg Value.bool hc102)) rfl rfl ?_
     refine WL_pass rfl (yield_of rfl (congrArg Value.bool hc102)) rfl rfl ?_
     refine WL_pass rfl (yield_of rfl (congrArg Value.bool hc102)) rfl rfl ?_
     refine WL_pass rfl (yield_of rfl (congrArg Value.bool hc102)) rfl rfl ?_
     refine WL_pass rfl (yield_of rfl (congrArg Value.bool hc102)) rfl rfl ?_
     refine WL_step rfl rfl (Exec.pick_t (v := Value.bool (true)) rfl (congrArg Value.bool hc102) rfl ?_)
     refine WL_step rfl rfl (Exec.move (v := Value.bool (true)) rfl rfl ?_)
     refine WL_pass rfl (yield_of rfl rfl) rfl rfl ?_
     refine WL_pass rfl (yield_of rfl rfl) rfl rfl ?_
     refine WL_pass rfl (yield_of rfl rfl) rfl rfl ?_
     refine WL_pass rfl (yield_of rfl rfl) rfl rfl ?_
     refine WL_pass rfl (yield_of rfl rfl) rfl rfl ?_
     refine WL_pass rfl (yield_of rfl rfl) rfl rfl ?_
     refine WL_step rfl rfl (Exec.pick_t (v := Value.bool (true)) rfl rfl rfl ?_)
     refine WL_step rfl rfl (Exec.move (v := Value.bool (true)) rfl rfl ?_)
     refine WL_pass rfl (yield_of rfl rfl) rfl rfl ?_
     refine WL_pass rfl (yield_of rfl rfl) rfl rfl ?_
     refine WL_pass rfl (yield_of rfl rfl) rfl rfl ?_
     refine WL_pass rfl (yield_of rfl rfl) rfl rfl ?_
     refine WL_step rfl rfl (Exec.pick_t (v := Value.bool (true)) rfl rfl rfl ?_)
     refine WL_step rfl rfl (Exec.move (v := Value.bool (true)) rfl rfl ?_)
     refine WL_pass rfl (yield_of rfl rfl) rfl rfl ?_
     refine WL_pass rfl (yield_of rfl rfl) rfl rfl ?_
     refine WL_pass rfl (yield_of rfl rfl) rfl rfl ?_
     refine WL_pass rfl (yield_of rfl rfl) rfl rfl ?_
     refine WL_step rfl rfl (Exec.pick_t (v := Value.bool (true)) rfl rfl rfl ?_)
     refine WL_nil (at_normal ?_)
     exact ⟨s, (PHeap.le_refl _), hS100, rfl, (congrArg Value.bool (Eq.trans (or_f hc100) (Eq.trans (or_f hc101) (or_t hc102)))).symm⟩
    ·replace hc102 := not_true hc102
     refine WL_run rfl (yield_of rfl (congrArg Value.bool hc102)) rfl (Exec.field F26_1 rfl rfl rfl ?_)
     refine WL_run rfl (yield_of rfl (congrArg Value.bool hc102)) rfl (Exec.load_box (hS100) A3 rfl rfl rfl ?_)
     refine WL_run rfl (yield_of rfl (congrArg Value.bool hc102)) rfl (Exec.field F26_0 rfl rfl rfl ?_)
     refine WL_run rfl (yield_of rfl (congrArg Value.bool hc102)) rfl (Exec.load_box (hS100) A3 rfl rfl rfl ?_)
     refine WL_run rfl (yield_of rfl (congrArg Value.bool hc102)) rfl (Exec.geq rfl rfl rfl ?_)
     refine WL_step rfl rfl (Exec.pick_f (v := Value.bool (decide (x64.States ≤ x64.Init))) rfl (congrArg Value.bool hc102) rfl ?_)
     refine WL_step rfl rfl (Exec.move (v := Value.bool (decide (x64.States ≤ x64.Init))) rfl rfl ?_)
     by_cases hc103 : (decide (x64.States ≤ x64.Init)) = true
     ·refine WL_pass rfl (yield_of rfl (congrArg Value.bool hc103)) rfl rfl ?_
      refine WL_pass rfl (yield_of rfl (congrArg Value.bool hc103)) rfl rfl ?_
      refine WL_pass rfl (yield_of rfl (congrArg Value.bool hc103)) rfl rfl ?_
      refine WL_pass rfl (yield_of rfl (congrArg Value.bool hc103)) rfl rfl ?_
      refine WL_pass rfl (yield_of rfl (congrArg Value.bool hc103)) rfl rfl ?_
      refine WL_pass rfl (yield_of rfl (congrArg Value.bool hc103)) rfl rfl ?_
      refine WL_step rfl rfl (Exec.pick_t (v := Value.bool (true)) rfl (congrArg Value.bool hc103) rfl ?_)
      refine WL_step rfl rfl (Exec.move (v := Value.bool (true)) rfl rfl ?_)
      refine WL_pass rfl (yield_of rfl rfl) rfl rfl ?_
      refine WL_pass rfl (yield_of rfl rfl) rfl rfl ?_
      refine WL_pass rfl (yield_of rfl rfl) rfl rfl ?_
      refine WL_pass rfl (yield_of rfl rfl) rfl rfl ?_
      refine WL_step rfl rfl (Exec.pick_t (v := Value.bool (true)) rfl rfl rfl ?_)
      refine WL_step rfl rfl (Exec.move (v := Value.bool (true)) rfl rfl ?_)
      refine WL_pass rfl (yield_of rfl rfl) rfl rfl ?_
      refine WL_pass rfl (yield_of rfl rfl) rfl rfl ?_
      refine WL_pass rfl (yield_of rfl rfl) rfl rfl ?_
      refine WL_pass rfl (yield_of rfl rfl) rfl rfl ?_
      refine WL_step rfl rfl (Exec.pick_t (v := Value.bool (true)) rfl rfl rfl ?_)
      refine WL_nil (at_normal ?_)
      exact ⟨s, (PHeap.le_refl _), hS100, rfl, (congrArg Value.bool (Eq.trans (or_f hc100) (Eq.trans (or_f hc101) (Eq.trans (or_f hc102) (or_t hc103))))).symm⟩
     ·replace hc103 := not_true hc103
      refine WL_run rfl (yield_of rfl (congrArg Value.bool hc103)) rfl (Exec.field F26_4 rfl rfl rfl ?_)
      refine WL_run rfl (yield_of rfl (congrArg Value.bool hc103)) rfl (Exec.load_box (hS100) A24 rfl rfl rfl ?_)
      refine WL_run rfl (yield_of rfl (congrArg Value.bool hc103)) rfl (Exec.len_rep S24 rfl rfl a70 ?_)
      refine WL_run rfl (yield_of rfl (congrArg Value.bool hc103)) rfl (Exec.field F26_0 rfl rfl rfl ?_)
      refine WL_run rfl (yield_of rfl (congrArg Value.bool hc103)) rfl (Exec.load_box (hS100) A3 rfl rfl rfl ?_)
      refine WL_run rfl (yield_of rfl (congrArg Value.bool hc103)) rfl (Exec.neq rfl rfl rfl ?_)
      refine WL_step rfl rfl (Exec.pick_f (v := Value.bool (!decide ((x64.Goals.length : Int) = x64.States))) rfl (congrArg Value.bool hc103) rfl ?_)
      refine WL_step rfl rfl (Exec.move (v := Value.bool (!decide ((x64.Goals.length : Int) = x64.States))) rfl rfl ?_)
      by_cases hc104 : (!decide ((x64.Goals.length : Int) = x64.States)) = true
      ·refine WL_pass rfl (yield_of rfl (congrArg Value.bool hc104)) rfl rfl ?_
       refine WL_pass rfl (yield_of rfl (congrArg Value.bool hc104)) rfl rfl ?_
       refine WL_pass rfl (yield_of rfl (congrArg Value.bool hc104)) rfl rfl ?_
       refine WL_pass rfl (yield_of rfl (congrArg Value.bool hc104)) rfl rfl ?_
       refine WL_step rfl rfl (Exec.pick_t (v := Value.bool (true)) rfl (congrArg Value.bool hc104) rfl ?_)
       refine WL_step rfl rfl (Exec.move (v := Value.bool (true)) rfl rfl ?_)
       refine WL_pass rfl (yield_of rfl rfl) rfl rfl ?_
       refine WL_pass rfl (yield_of rfl rfl) rfl rfl ?_
       refine WL_pass rfl (yield_of rfl rfl) rfl rfl ?_
       refine WL_pass rfl (yield_of rfl rfl) rfl rfl ?_
       refine WL_step rfl rfl (Exec.pick_t (v := Value.bool (true)) rfl rfl rfl ?_)
       refine WL_nil (at_normal ?_)
       exact ⟨s, (PHeap.le_refl _), hS100, rfl, (congrArg Value.bool (Eq.trans (or_f hc100) (Eq.trans (or_f hc101) (Eq.trans (or_f hc102) (Eq.trans (or_f hc103) (or_t hc104)))))).symm⟩
      ·replace hc104 := not_true hc104
       refine WL_run rfl (yield_of rfl (congrArg Value.bool hc104)) rfl (Exec.field F26_2 rfl rfl rfl ?_)
       refine WL_run rfl (yield_of rfl (congrArg Value.bool hc104)) rfl (Exec.load_box (hS100) A22 rfl rfl rfl ?_)
       refine WL_run rfl (yield_of rfl (congrArg Value.bool hc104)) rfl (Exec.len_rep S22 rfl rfl a66 ?_)
       refine WL_run rfl (yield_of rfl (congrArg Value.bool hc104)) rfl (Exec.gtr rfl rfl rfl ?_)
       refine WL_step rfl rfl (Exec.pick_f (v := Value.bool (decide (4096 < (x64.Costs.length : Int)))) rfl (congrArg Value.bool hc104) rfl ?_)
       refine WL_step rfl rfl (Exec.move (v := Value.bool (decide (4096 < (x64.Costs.length : Int)))) rfl rfl ?_)
       by_cases hc105 : (decide (4096 < (x64.Costs.length : Int))) = true
       ·refine WL_pass rfl (yield_of rfl (congrArg Value.bool hc105)) rfl rfl ?_
        refine WL_pass rfl (yield_of rfl (congrArg Value.bool hc105)) rfl rfl ?_
        refine WL_pass rfl (yield_of rfl (congrArg Value.bool hc105)) rfl rfl ?_
        refine WL_pass rfl (yield_of rfl (congrArg Value.bool hc105)) rfl rfl ?_
        refine WL_step rfl rfl (Exec.pick_t (v := Value.bool (true)) rfl (congrArg Value.bool hc105) rfl ?_)
        refine WL_nil (at_normal ?_)
        exact ⟨s, (PHeap.le_refl _), hS100, rfl, (congrArg Value.bool (Eq.trans (or_f hc100) (Eq.trans (or_f hc101) (Eq.trans (or_f hc102) (Eq.trans (or_f hc103) (Eq.trans (or_f hc104) (or_t hc105))))))).symm⟩
       ·replace hc105 := not_true hc105
        refine WL_run rfl (yield_of rfl (congrArg Value.bool hc105)) rfl (Exec.field F26_3 rfl rfl rfl ?_)
        refine WL_run rfl (yield_of rfl (congrArg Value.bool hc105)) rfl (Exec.load_box (hS100) A23 rfl rfl rfl ?_)
        refine WL_run rfl (yield_of rfl (congrArg Value.bool hc105)) rfl (Exec.len_rep S23 rfl rfl a68 ?_)
        refine WL_run rfl (yield_of rfl (congrArg Value.bool hc105)) rfl (Exec.gtr rfl rfl rfl ?_)
        refine WL_step rfl rfl (Exec.pick_f (v := Value.bool (decide (65536 < (x64.Edges.length : Int)))) rfl (congrArg Value.bool hc105) rfl ?_)
        refine WL_nil (at_normal ?_)
        exact ⟨s, (PHeap.le_refl _), hS100, rfl, (congrArg Value.bool (Eq.trans (or_f hc100) (Eq.trans (or_f hc101) (Eq.trans (or_f hc102) (Eq.trans (or_f hc103) (Eq.trans (or_f hc104) (or_f hc105))))))).symm⟩
 ·intro f100 w101 hM100
  obtain ⟨s102, l100, hS101, p100, p101⟩ := hM100
  refine (at_normal ?_)
  rcases ite_some hm with ⟨hc106, hm⟩ | ⟨hc106, hm⟩
  ·refine W_cond_t p101 hc106 ?_
   refine W_seq ?_
   refine W_region ?_
   refine WL_step rfl rfl (Exec.assign (v := Value.bool (false)) rfl rfl ?_)
   refine WL_nil (at_normal ?_)
   refine W_ret (at_ret ?_)
   have e100 := Option.some.inj hm
   subst r
   refine ⟨_, ret1 rfl, ?_⟩
   have hS102 := (hS101).drop
   exact ⟨s102, l100, hS102, rfl⟩
  ·refine W_cond_f p101 hc106 ?_
   replace hc106 := not_true hc106
   refine W_skip (at_normal ?_)
   refine W_seq ?_
   refine W_seq ?_
   refine W_region ?_
   refine WL_step rfl rfl (Exec.field F26_2 rfl p100 rfl ?_)
   refine WL_step rfl rfl (Exec.load_box (hS101) A22 rfl rfl rfl ?_)
   refine WL_step rfl rfl (Exec.len_rep S22 rfl rfl (a66.mono l100) ?_)
   refine WL_step rfl rfl (Exec.move (v := Value.int .i64 (0)) rfl rfl ?_)
   refine WL_nil (at_normal ?_)
   obtain ⟨c100, hB100, hr100, hn100, hb100⟩ := ctl_some hm
   refine W_mid (M := fun f' w' => ∃ s', (c100 = .next s' ∨ c100 = .brk s') ∧ (fun (_ : Unit) => ∃ (s103 : PHeap) , PHeap.le s102 s103 ∧ St w0 s103 (Res.box b100 26 [Value.int .i64 (x64.States), Value.int .i64 (x64.Init), v65, v67, v69] :: H) w' ∧ f' 1 = Value.pointer (some ⟨b100, 0, none⟩) ∧ f' 48 = v65 ∧ f' 49 = Value.int .i64 ((x64.Costs.length : Int))) s') ?_ ?_
   ·refine W_block (W_forC (fun k' s' f' w' => (fun (_ : Unit) => ∃ (s104 : PHeap) , PHeap.le s102 s104 ∧ St w0 s104 (Res.box b100 26 [Value.int .i64 (x64.States), Value.int .i64 (x64.Init), v65, v67, v69] :: H) w' ∧ f' 1 = Value.pointer (some ⟨b100, 0, none⟩) ∧ f' 48 = v65 ∧ f' 49 = Value.int .i64 ((x64.Costs.length : Int)) ∧ f' 50 = Value.int .i64 (k' : Int)) s') hB100 ?_ ?_ ?_)
    ·exact ⟨s102, (PHeap.le_refl _), hS101, p100, rfl, rfl, rfl⟩
    ·intro i100 t100 c101 f101 w102 hi100 hI100 hm100 hres100
     obtain ⟨s105, l101, hS103, p102, p103, p104, x100⟩ := hI100
     refine W_seq ?_
     refine W_region ?_
     refine WL_step rfl rfl (Exec.lss rfl x100 p104 ?_)
     refine WL_nil (at_normal ?_)
     refine W_seq ?_
     refine W_true (congrArg Value.bool (decide_eq_true (by omega))) ?_
     refine W_skip (at_normal ?_)
     refine W_seq ?_
     refine W_block ?_
     refine W_seq ?_
     refine W_region ?_
     obtain ⟨x101, q100, hm100⟩ := bind_some hm100
     refine WL_step rfl rfl (Exec.index_rep S22 rfl p103 x100 (a66.mono (PHeap.le.trans l100 l101)) q100 ?_)
     intro b101 o100 a100
     refine WL_step rfl rfl (Exec.load_at (E := (encInt .i64)) hS103 A3 rfl rfl rfl a100 ?_)
     intro v100 q101
     obtain rfl := encInt_val.1 q101
     refine WL_step rfl rfl (Exec.assign (v := Value.int .i64 (x101)) rfl rfl ?_)
     refine WL_nil (at_normal ?_)
     refine W_seq ?_
     refine W_mid (M := fun f' w' => ∃ (s106 : PHeap) , PHeap.le s105 s106 ∧ St w0 s106 (Res.box b100 26 [Value.int .i64 (x64.States), Value.int .i64 (x64.Init), v65, v67, v69] :: H) w' ∧ f' 1 = Value.pointer (some ⟨b100, 0, none⟩) ∧ f' 48 = v65 ∧ f' 49 = Value.int .i64 ((x64.Costs.length : Int)) ∧ f' 50 = Value.int .i64 ((i100 : Int)) ∧ f' 59 = Value.bool (((decide (x101 < 0)) || decide (1048576 < x101)))) ?_ ?_
     ·refine W_region ?_
      refine WL_step rfl rfl (Exec.move (v := Value.int .i64 (x101)) rfl rfl ?_)
      refine WL_step rfl rfl (Exec.lss rfl rfl rfl ?_)
      refine WL_step rfl rfl (Exec.move (v := Value.bool (decide (x101 < 0))) rfl rfl ?_)
      by_cases hc107 : (decide (x101 < 0)) = true
      ·refine WL_pass rfl (yield_of rfl (congrArg Value.bool hc107)) rfl rfl ?_
       refine WL_pass rfl (yield_of rfl (congrArg Value.bool hc107)) rfl rfl ?_
       refine WL_step rfl rfl (Exec.pick_t (v := Value.bool (true)) rfl (congrArg Value.bool hc107) rfl ?_)
       refine WL_nil (at_normal ?_)
       exact ⟨s105, (PHeap.le_refl _), hS103, p102, p103, p104, x100, (congrArg Value.bool (or_t hc107)).symm⟩
      ·replace hc107 := not_true hc107
       refine WL_run rfl (yield_of rfl (congrArg Value.bool hc107)) rfl (Exec.move (v := Value.int .i64 (x101)) rfl rfl ?_)
       refine WL_run rfl (yield_of rfl (congrArg Value.bool hc107)) rfl (Exec.gtr rfl rfl rfl ?_)
       refine WL_step rfl rfl (Exec.pick_f (v := Value.bool (decide (1048576 < x101))) rfl (congrArg Value.bool hc107) rfl ?_)
       refine WL_nil (at_normal ?_)
       exact ⟨s105, (PHeap.le_refl _), hS103, p102, p103, p104, x100, (congrArg Value.bool (or_f hc107)).symm⟩
     ·intro f102 w103 hM101
      obtain ⟨s107, l102, hS104, p105, p106, p107, p108, p109⟩ := hM101
      refine (at_normal ?_)
      rcases ite_some hm100 with ⟨hc108, hm100⟩ | ⟨hc108, hm100⟩
      ·refine W_cond_t p109 hc108 ?_
       refine W_seq ?_
       refine W_region ?_
       refine WL_step rfl rfl (Exec.assign (v := Value.bool (false)) rfl rfl ?_)
       refine WL_nil (at_normal ?_)
       refine W_ret (ib_ret (at_ret (at_ret (ib_ret (at_ret (at_ret ?_))))))
       have e101 := Option.some.inj hm100
       subst c101
       have hq100 := hr100 _ (hres100 (by intro _ h; cases h))
       have e102 := Option.some.inj hq100
       subst r
       refine ⟨_, ret1 rfl, ?_⟩
       have hS105 := (hS104).drop
       exact ⟨s107, (PHeap.le.trans (PHeap.le.trans l100 l101) l102), hS105, rfl⟩
      ·refine W_cond_f p109 hc108 ?_
       replace hc108 := not_true hc108
       refine W_skip (ib_normal (at_normal ?_))
       refine W_region ?_
       refine WL_step rfl rfl (Exec.add rfl p108 rfl ?_)
       refine WL_step rfl rfl (Exec.move (v := Value.int .i64 (IntKind.i64.wrap ((i100 : Int) + 1))) rfl rfl ?_)
       refine WL_nil (at_normal ?_)
       have e103 := Option.some.inj hm100
       subst c101
       refine ⟨_, rfl, ?_⟩; exact ⟨s107, (PHeap.le.trans l101 l102), hS104, p105, p106, p107, (Eq.trans rfl (wrap_up hi100 (SliceRep.le (a66.mono l100))))⟩
    ·intro t101 f103 w104 hI101 hres101
     obtain ⟨s108, l103, hS106, p110, p111, p112, x102⟩ := hI101
     refine W_seq ?_
     refine W_region ?_
     refine WL_step rfl rfl (Exec.lss rfl x102 p112 ?_)
     refine WL_nil (at_normal ?_)
     refine W_seq ?_
     refine W_false (congrArg Value.bool (decide_eq_false (by omega))) ?_
     refine W_exit (at_exit (at_exit (ib_here (at_normal ?_))))
     refine ⟨_, .inl hres101, ?_⟩; exact ⟨s108, l103, hS106, p110, p111, p112⟩
   ·rintro f104 w105 ⟨t102, hc109, hM102⟩
    have hm := hc109.elim (hn100 _) (hb100 _)
    clear hc109
    obtain ⟨s109, l104, hS107, p113, p114, p115⟩ := hM102
    refine (at_normal ?_)
    refine W_seq ?_
    refine W_seq ?_
    refine W_region ?_
    refine WL_step rfl rfl (Exec.field F26_3 rfl p113 rfl ?_)
    refine WL_step rfl rfl (Exec.load_box (hS107) A23 rfl rfl rfl ?_)
    refine WL_step rfl rfl (Exec.len_rep S23 rfl rfl (a68.mono (PHeap.le.trans l100 l104)) ?_)
    refine WL_step rfl rfl (Exec.move (v := Value.int .i64 (0)) rfl rfl ?_)
    refine WL_nil (at_normal ?_)
    obtain ⟨c102, hB101, hr101, hn101, hb101⟩ := ctl_some hm
    refine W_mid (M := fun f' w' => ∃ s', (c102 = .next s' ∨ c102 = .brk s') ∧ (fun (_ : Unit) => ∃ (s110 : PHeap) , PHeap.le s109 s110 ∧ St w0 s110 (Res.box b100 26 [Value.int .i64 (x64.States), Value.int .i64 (x64.Init), v65, v67, v69] :: H) w' ∧ f' 1 = Value.pointer (some ⟨b100, 0, none⟩) ∧ f' 62 = v67 ∧ f' 63 = Value.int .i64 ((x64.Edges.length : Int))) s') ?_ ?_
    ·refine W_block (W_forC (fun k' s' f' w' => (fun (_ : Unit) => ∃ (s111 : PHeap) , PHeap.le s109 s111 ∧ St w0 s111 (Res.box b100 26 [Value.int .i64 (x64.States), Value.int .i64 (x64.Init), v65, v67, v69] :: H) w' ∧ f' 1 = Value.pointer (some ⟨b100, 0, none⟩) ∧ f' 62 = v67 ∧ f' 63 = Value.int .i64 ((x64.Edges.length : Int)) ∧ f' 64 = Value.int .i64 (k' : Int)) s') hB101 ?_ ?_ ?_)
     ·exact ⟨s109, (PHeap.le_refl _), hS107, p113, rfl, rfl, rfl⟩
     ·intro i101 t103 c103 f105 w106 hi101 hI102 hm101 hres102
      obtain ⟨s112, l105, hS108, p116, p117, p118, x103⟩ := hI102
      refine W_seq ?_
      refine W_region ?_
      refine WL_step rfl rfl (Exec.lss rfl x103 p118 ?_)
      refine WL_nil (at_normal ?_)
      refine W_seq ?_
      refine W_true (congrArg Value.bool (decide_eq_true (by omega))) ?_
      refine W_skip (at_normal ?_)
      refine W_seq ?_
      refine W_block ?_
      refine W_seq ?_
      refine W_region ?_
      refine WL_step rfl rfl (Exec.move (v := Value.int .i64 ((i101 : Int))) rfl x103 ?_)
      obtain ⟨x104, q102, hm101⟩ := bind_some hm101
      refine WL_step rfl rfl (Exec.index_rep S23 rfl p117 x103 (a68.mono (PHeap.le.trans (PHeap.le.trans l100 l104) l105)) q102 ?_)
      intro b102 o101 a101
      refine WL_step rfl rfl (Exec.load_at (E := encEdge) hS108 A53 rfl rfl rfl a101 ?_)
      intro v101 q103
      obtain rfl := encEdge_val.1 q103
      refine WL_step rfl rfl (Exec.alloc (cs := [Value.int .i64 (0), Value.int .i64 (0), Value.int .i64 (0)]) hS108 Z53 rfl rfl ?_)
      intro b103 w107 hS109
      refine WL_step rfl rfl (Exec.assign (v := Value.int .i64 ((i101 : Int))) rfl rfl ?_)
      refine WL_step rfl rfl (Exec.store_box (ds := [Value.int .i64 (x104.From), Value.int .i64 (x104.Label), Value.int .i64 (x104.To)]) (es := [Value.int .i64 (x104.From), Value.int .i64 (x104.Label), Value.int .i64 (x104.To)]) hS109 A53 rfl rfl rfl rfl (one_cons rfl (one_cons rfl (one_cons rfl one_nil))) (Nat.le_of_ble_eq_true rfl) rfl ?_)
      intro w108 hS110
      refine WL_nil (at_normal ?_)
      refine W_seq ?_
      obtain ⟨z100, ht100, hm101⟩ := bind_some hm101
      refine W_mid (M := fun f' w' => (fun (z100 : Bool) => ∃ (s113 : PHeap) , PHeap.le s112 s113 ∧ St w0 s113 (Res.box b100 26 [Value.int .i64 (x64.States), Value.int .i64 (x64.Init), v65, v67, v69] :: H) w' ∧ f' 1 = Value.pointer (some ⟨b100, 0, none⟩) ∧ f' 62 = v67 ∧ f' 63 = Value.int .i64 ((x64.Edges.length : Int)) ∧ f' 64 = Value.int .i64 ((i101 : Int)) ∧ f' 118 = Value.bool (z100)) z100) ?_ ?_
      ·refine W_dl (n0 := 50) (.q 0 (.q 1 (.q 2 (.q 3 (.q 4 (.q 5 (.q 6 (.q 7 (.q 8 (.q 9 (.q 10 (.q 11 (.q 12 (.q 13 (.q 14 (.q 15 (.q 16 (.q 17 (.q 18 (.q 19 (.q 20 (.q 21 (.q 22 (.q 23 (.q 24 (.q 25 (.q 26 (.q 27 (.q 28 (.q 29 (.q 30 (.q 31 (.q 32 (.q 33 (.q 34 (.q 35 (.q 36 (.q 37 (.q 38 (.q 39 (.q 40 (.q 41 (.q 42 (.q 43 (.q 44 (.q 45 (.e 46 [] (.q 47 (.q 48 (.q 49 .done)))))))))))))))))))))))))))))))))))))))))))))))))) hmix (by kernel_rfl) (by kernel_rfl) ?_
       have hS111 := hS110.drew
       refine DL_q rfl rfl (Exec.field F53_0 rfl rfl rfl ⟨rfl, ?_⟩)
       refine DL_q rfl rfl (Exec.load_box (hS111) A3 rfl rfl rfl ⟨rfl, ?_⟩)
       refine DL_q rfl rfl (Exec.lss rfl rfl rfl ⟨rfl, ?_⟩)
       refine DL_q rfl rfl (Exec.move (v := Value.bool (decide (x104.From < 0))) rfl rfl ⟨rfl, ?_⟩)
       rcases ite_some ht100 with ⟨hc110, ht100⟩ | ⟨hc110, ht100⟩
       ·refine DL_qp rfl rfl (yield_of rfl (congrArg Value.bool hc110)) rfl ?_
        refine DL_qp rfl rfl (yield_of rfl (congrArg Value.bool hc110)) rfl ?_
        refine DL_qp rfl rfl (yield_of rfl (congrArg Value.bool hc110)) rfl ?_
        refine DL_qp rfl rfl (yield_of rfl (congrArg Value.bool hc110)) rfl ?_
        refine DL_qp rfl rfl (yield_of rfl (congrArg Value.bool hc110)) rfl ?_
        refine DL_q rfl rfl (Exec.pick_t (v := Value.bool (true)) rfl (congrArg Value.bool hc110) rfl ⟨rfl, ?_⟩)
        refine DL_q rfl rfl (Exec.move (v := Value.bool (true)) rfl rfl ⟨rfl, ?_⟩)
        refine DL_qp rfl rfl (yield_of rfl rfl) rfl ?_
        refine DL_qp rfl rfl (yield_of rfl rfl) rfl ?_
        refine DL_qp rfl rfl (yield_of rfl rfl) rfl ?_
        refine DL_q rfl rfl (Exec.pick_t (v := Value.bool (true)) rfl rfl rfl ⟨rfl, ?_⟩)
        refine DL_q rfl rfl (Exec.move (v := Value.bool (true)) rfl rfl ⟨rfl, ?_⟩)
        refine DL_qp rfl rfl (yield_of rfl rfl) rfl ?_
        refine DL_qp rfl rfl (yield_of rfl rfl) rfl ?_
        refine DL_qp rfl rfl (yield_of rfl rfl) rfl ?_
        refine DL_qp rfl rfl (yield_of rfl rfl) rfl ?_
        refine DL_qp rfl rfl (yield_of rfl rfl) rfl ?_
        refine DL_q rfl rfl (Exec.pick_t (v := Value.bool (true)) rfl rfl rfl ⟨rfl, ?_⟩)
        refine DL_q rfl rfl (Exec.move (v := Value.bool (true)) rfl rfl ⟨rfl, ?_⟩)
        refine DL_qp rfl rfl (yield_of rfl rfl) rfl ?_
        refine DL_qp rfl rfl (yield_of rfl rfl) rfl ?_
        refine DL_qp rfl rfl (yield_of rfl rfl) rfl ?_
        refine DL_q rfl rfl (Exec.pick_t (v := Value.bool (true)) rfl rfl rfl ⟨rfl, ?_⟩)
        refine DL_q rfl rfl (Exec.move (v := Value.bool (true)) rfl rfl ⟨rfl, ?_⟩)
        refine DL_qp rfl rfl (yield_of rfl rfl) rfl ?_
        refine DL_qp rfl rfl (yield_of rfl rfl) rfl ?_
        refine DL_qp rfl rfl (yield_of rfl rfl) rfl ?_
        refine DL_qp rfl rfl (yield_of rfl rfl) rfl ?_
        refine DL_qp rfl rfl (yield_of rfl rfl) rfl ?_
        refine DL_qp rfl rfl (yield_of rfl rfl) rfl ?_
        refine DL_q rfl rfl (Exec.pick_t (v := Value.bool (true)) rfl rfl rfl ⟨rfl, ?_⟩)
        refine DL_q rfl rfl (Exec.move (v := Value.bool (true)) rfl rfl ⟨rfl, ?_⟩)
        refine DL_qp rfl rfl (yield_of rfl rfl) rfl ?_
        refine DL_qp rfl rfl (yield_of rfl rfl) rfl ?_
        refine DL_qp rfl rfl (yield_of rfl rfl) rfl ?_
        refine DL_qn rfl rfl (yield_undef rfl rfl) ?_
        refine DL_qn rfl rfl (yield_undef rfl rfl) ?_
        refine DL_qn rfl rfl (yield_undef rfl rfl) ?_
        refine DL_qn rfl rfl (yield_undef rfl rfl) ?_
        refine DL_qn rfl rfl (yield_undef rfl rfl) ?_
        refine DL_qn rfl rfl (yield_undef rfl rfl) ?_
        refine DL_qn rfl rfl (yield_undef rfl rfl) ?_
        refine DL_en rfl rfl (yield_undef rfl rfl) ?_
        refine DL_qn rfl rfl (yield_undef rfl rfl) ?_
        refine DL_qp rfl rfl (yield_of rfl rfl) rfl ?_
        refine DL_q rfl rfl (Exec.pick_t (v := Value.bool (true)) rfl rfl rfl ⟨rfl, ?_⟩)
        refine DL_done ?_
        refine WL_nil (at_normal ?_)
        have e104 := Option.some.inj ht100
        subst z100
        have hS112 := (hS111).drop
        exact ⟨s112, (PHeap.le_refl _), hS112, p116, p117, p118, x103, rfl⟩
       ·replace hc110 := not_true hc110
        refine DL_qg rfl rfl (yield_of rfl (congrArg Value.bool hc110)) (Exec.field F53_0 rfl rfl rfl ⟨rfl, ?_⟩)
        refine DL_qg rfl rfl (yield_of rfl (congrArg Value.bool hc110)) (Exec.load_box (hS111) A3 rfl rfl rfl ⟨rfl, ?_⟩)
        refine DL_qg rfl rfl (yield_of rfl (congrArg Value.bool hc110)) (Exec.field F26_0 rfl p116 rfl ⟨rfl, ?_⟩)
        refine DL_qg rfl rfl (yield_of rfl (congrArg Value.bool hc110)) (Exec.load_box ((hS111).f1) A3 rfl rfl rfl ⟨rfl, ?_⟩)
        refine DL_qg rfl rfl (yield_of rfl (congrArg Value.bool hc110)) (Exec.geq rfl rfl rfl ⟨rfl, ?_⟩)
        refine DL_q rfl rfl (Exec.pick_f (v := Value.bool (decide (x64.States ≤ x104.From))) rfl (congrArg Value.bool hc110) rfl ⟨rfl, ?_⟩)
        refine DL_q rfl rfl (Exec.move (v := Value.bool (decide (x64.States ≤ x104.From))) rfl rfl ⟨rfl, ?_⟩)
        rcases ite_some ht100 with ⟨hc111, ht100⟩ | ⟨hc111, ht100⟩
        ·refine DL_qp rfl rfl (yield_of rfl (congrArg Value.bool hc111)) rfl ?_
         refine DL_qp rfl rfl (yield_of rfl (congrArg Value.bool hc111)) rfl ?_
         refine DL_qp rfl rfl (yield_of rfl (congrArg Value.bool hc111)) rfl ?_
         refine DL_q rfl rfl (Exec.pick_t (v := Value.bool (true)) rfl (congrArg Value.bool hc111) rfl ⟨rfl, ?_⟩)
         refine DL_q rfl rfl (Exec.move (v := Value.bool (true)) rfl rfl ⟨rfl, ?_⟩)
         refine DL_qp rfl rfl (yield_of rfl rfl) rfl ?_
         refine DL_qp rfl rfl (yield_of rfl rfl) rfl ?_
         refine DL_qp rfl rfl (yield_of rfl rfl) rfl ?_
         refine DL_qp rfl rfl (yield_of rfl rfl) rfl ?_
         refine DL_qp rfl rfl (yield_of rfl rfl) rfl ?_
         refine DL_q rfl rfl (Exec.pick_t (v := Value.bool (true)) rfl rfl rfl ⟨rfl, ?_⟩)
         refine DL_q rfl rfl (Exec.move (v := Value.bool (true)) rfl rfl ⟨rfl, ?_⟩)
         refine DL_qp rfl rfl (yield_of rfl rfl) rfl ?_
         refine DL_qp rfl rfl (yield_of rfl rfl) rfl ?_
         refine DL_qp rfl rfl (yield_of rfl rfl) rfl ?_
         refine DL_q rfl rfl (Exec.pick_t (v := Value.bool (true)) rfl rfl rfl ⟨rfl, ?_⟩)
         refine DL_q rfl rfl (Exec.move (v := Value.bool (true)) rfl rfl ⟨rfl, ?_⟩)
         refine DL_qp rfl rfl (yield_of rfl rfl) rfl ?_
         refine DL_qp rfl rfl (yield_of rfl rfl) rfl ?_
         refine DL_qp rfl rfl (yield_of rfl rfl) rfl ?_
         refine DL_qp rfl rfl (yield_of rfl rfl) rfl ?_
         refine DL_qp rfl rfl (yield_of rfl rfl) rfl ?_
         refine DL_qp rfl rfl (yield_of rfl rfl) rfl ?_
         refine DL_q rfl rfl (Exec.pick_t (v := Value.bool (true)) rfl rfl rfl ⟨rfl, ?_⟩)
         refine DL_q rfl rfl (Exec.move (v := Value.bool (true)) rfl rfl ⟨rfl, ?_⟩)
         refine DL_qp rfl rfl (yield_of rfl rfl) rfl ?_
         refine DL_qp rfl rfl (yield_of rfl rfl) rfl ?_
         refine DL_qp rfl rfl (yield_of rfl rfl) rfl ?_
         refine DL_qn rfl rfl (yield_undef rfl rfl) ?_
         refine DL_qn rfl rfl (yield_undef rfl rfl) ?_
         refine DL_qn rfl rfl (yield_undef rfl rfl) ?_
         refine DL_qn rfl rfl (yield_undef rfl rfl) ?_
         refine DL_qn rfl rfl (yield_undef rfl rfl) ?_
         refine DL_qn rfl rfl (yield_undef rfl rfl) ?_
         refine DL_qn rfl rfl (yield_undef rfl rfl) ?_
         refine DL_en rfl rfl (yield_undef rfl rfl) ?_
         refine DL_qn rfl rfl (yield_undef rfl rfl) ?_
         refine DL_qp rfl rfl (yield_of rfl rfl) rfl ?_
         refine DL_q rfl rfl (Exec.pick_t (v := Value.bool (true)) rfl rfl rfl ⟨rfl, ?_⟩)
         refine DL_done ?_
         refine WL_nil (at_normal ?_)
         have e105 := Option.some.inj ht100
         subst z100
         have hS113 := (hS111).drop
         exact ⟨s112, (PHeap.le_refl _), hS113, p116, p117, p118, x103, rfl⟩
        ·replace hc111 := not_true hc111
         refine DL_qg rfl rfl (yield_of rfl (congrArg Value.bool hc111)) (Exec.field F53_2 rfl rfl rfl ⟨rfl, ?_⟩)
         refine DL_qg rfl rfl (yield_of rfl (congrArg Value.bool hc111)) (Exec.load_box (hS111) A3 rfl rfl rfl ⟨rfl, ?_⟩)
         refine DL_qg rfl rfl (yield_of rfl (congrArg Value.bool hc111)) (Exec.lss rfl rfl rfl ⟨rfl, ?_⟩)
         refine DL_q rfl rfl (Exec.pick_f (v := Value.bool (decide (x104.To < 0))) rfl (congrArg Value.bool hc111) rfl ⟨rfl, ?_⟩)
         refine DL_q rfl rfl (Exec.move (v := Value.bool (decide (x104.To < 0))) rfl rfl ⟨rfl, ?_⟩)
         rcases ite_some ht100 with ⟨hc112, ht100⟩ | ⟨hc112, ht100⟩
         ·refine DL_qp rfl rfl (yield_of rfl (congrArg Value.bool hc112)) rfl ?_
          refine DL_qp rfl rfl (yield_of rfl (congrArg Value.bool hc112)) rfl ?_
          refine DL_qp rfl rfl (yield_of rfl (congrArg Value.bool hc112)) rfl ?_
          refine DL_qp rfl rfl (yield_of rfl (congrArg Value.bool hc112)) rfl ?_
          refine DL_qp rfl rfl (yield_of rfl (congrArg Value.bool hc112)) rfl ?_
          refine DL_q rfl rfl (Exec.pick_t (v := Value.bool (true)) rfl (congrArg Value.bool hc112) rfl ⟨rfl, ?_⟩)
          refine DL_q rfl rfl (Exec.move (v := Value.bool (true)) rfl rfl ⟨rfl, ?_⟩)
          refine DL_qp rfl rfl (yield_of rfl rfl) rfl ?_
          refine DL_qp rfl rfl (yield_of rfl rfl) rfl ?_
          refine DL_qp rfl rfl (yield_of rfl rfl) rfl ?_
          refine DL_q rfl rfl (Exec.pick_t (v := Value.bool (true)) rfl rfl rfl ⟨rfl, ?_⟩)
          refine DL_q rfl rfl (Exec.move (v := Value.bool (true)) rfl rfl ⟨rfl, ?_⟩)
          refine DL_qp rfl rfl (yield_of rfl rfl) rfl ?_
          refine DL_qp rfl rfl (yield_of rfl rfl) rfl ?_
          refine DL_qp rfl rfl (yield_of rfl rfl) rfl ?_
          refine DL_qp rfl rfl (yield_of rfl rfl) rfl ?_
          refine DL_qp rfl rfl (yield_of rfl rfl) rfl ?_
          refine DL_qp rfl rfl (yield_of rfl rfl) rfl ?_
          refine DL_q rfl rfl (Exec.pick_t (v := Value.bool (true)) rfl rfl rfl ⟨rfl, ?_⟩)
          refine DL_q rfl rfl (Exec.move (v := Value.bool (true)) rfl rfl ⟨rfl, ?_⟩)
          refine DL_qp rfl rfl (yield_of rfl rfl) rfl ?_
          refine DL_qp rfl rfl (yield_of rfl rfl) rfl ?_
          refine DL_qp rfl rfl (yield_of rfl rfl) rfl ?_
          refine DL_qn rfl rfl (yield_undef rfl rfl) ?_
          refine DL_qn rfl rfl (yield_undef rfl rfl) ?_
          refine DL_qn rfl rfl (yield_undef rfl rfl) ?_
          refine DL_qn rfl rfl (yield_undef rfl rfl) ?_
          refine DL_qn rfl rfl (yield_undef rfl rfl) ?_
          refine DL_qn rfl rfl (yield_undef rfl rfl) ?_
          refine DL_qn rfl rfl (yield_undef rfl rfl) ?_
          refine DL_en rfl rfl (yield_undef rfl rfl) ?_
          refine DL_qn rfl rfl (yield_undef rfl rfl) ?_
          refine DL_qp rfl rfl (yield_of rfl rfl) rfl ?_
          refine DL_q rfl rfl (Exec.pick_t (v := Value.bool (true)) rfl rfl rfl ⟨rfl, ?_⟩)
          refine DL_done ?_
          refine WL_nil (at_normal ?_)
          have e106 := Option.some.inj ht100
          subst z100
          have hS114 := (hS111).drop
          exact ⟨s112, (PHeap.le_refl _), hS114, p116, p117, p118, x103, rfl⟩
         ·replace hc112 := not_true hc112
          refine DL_qg rfl rfl (yield_of rfl (congrArg Value.bool hc112)) (Exec.field F53_2 rfl rfl rfl ⟨rfl, ?_⟩)
          refine DL_qg rfl rfl (yield_of rfl (congrArg Value.bool hc112)) (Exec.load_box (hS111) A3 rfl rfl rfl ⟨rfl, ?_⟩)
          refine DL_qg rfl rfl (yield_of rfl (congrArg Value.bool hc112)) (Exec.field F26_0 rfl p116 rfl ⟨rfl, ?_⟩)
          refine DL_qg rfl rfl (yield_of rfl (congrArg Value.bool hc112)) (Exec.load_box ((hS111).f1) A3 rfl rfl rfl ⟨rfl, ?_⟩)
          refine DL_qg rfl rfl (yield_of rfl (congrArg Value.bool hc112)) (Exec.geq rfl rfl rfl ⟨rfl, ?_⟩)
          refine DL_q rfl rfl (Exec.pick_f (v := Value.bool (decide (x64.States ≤ x104.To))) rfl (congrArg Value.bool hc112) rfl ⟨rfl, ?_⟩)
          refine DL_q rfl rfl (Exec.move (v := Value.bool (decide (x64.States ≤ x104.To))) rfl rfl ⟨rfl, ?_⟩)
          rcases ite_some ht100 with ⟨hc113, ht100⟩ | ⟨hc113, ht100⟩
          ·refine DL_qp rfl rfl (yield_of rfl (congrArg Value.bool hc113)) rfl ?_
           refine DL_qp rfl rfl (yield_of rfl (congrArg Value.bool hc113)) rfl ?_
           refine DL_qp rfl rfl (yield_of rfl (congrArg Value.bool hc113)) rfl ?_
           refine DL_q rfl rfl (Exec.pick_t (v := Value.bool (true)) rfl (congrArg Value.bool hc113) rfl ⟨rfl, ?_⟩)
           refine DL_q rfl rfl (Exec.move (v := Value.bool (true)) rfl rfl ⟨rfl, ?_⟩)
           refine DL_qp rfl rfl (yield_of rfl rfl) rfl ?_
           refine DL_qp rfl rfl (yield_of rfl rfl) rfl ?_
           refine DL_qp rfl rfl (yield_of rfl rfl) rfl ?_
           refine DL_qp rfl rfl (yield_of rfl rfl) rfl ?_
           refine DL_qp rfl rfl (yield_of rfl rfl) rfl ?_
           refine DL_qp rfl rfl (yield_of rfl rfl) rfl ?_
           refine DL_q rfl rfl (Exec.pick_t (v := Value.bool (true)) rfl rfl rfl ⟨rfl, ?_⟩)
           refine DL_q rfl rfl (Exec.move (v := Value.bool (true)) rfl rfl ⟨rfl, ?_⟩)
           refine DL_qp rfl rfl (yield_of rfl rfl) rfl ?_
           refine DL_qp rfl rfl (yield_of rfl rfl) rfl ?_
           refine DL_qp rfl rfl (yield_of rfl rfl) rfl ?_
           refine DL_qn rfl rfl (yield_undef rfl rfl) ?_
           refine DL_qn rfl rfl (yield_undef rfl rfl) ?_
           refine DL_qn rfl rfl (yield_undef rfl rfl) ?_
           refine DL_qn rfl rfl (yield_undef rfl rfl) ?_
           refine DL_qn rfl rfl (yield_undef rfl rfl) ?_
           refine DL_qn rfl rfl (yield_undef rfl rfl) ?_
           refine DL_qn rfl rfl (yield_undef rfl rfl) ?_
           refine DL_en rfl rfl (yield_undef rfl rfl) ?_
           refine DL_qn rfl rfl (yield_undef rfl rfl) ?_
           refine DL_qp rfl rfl (yield_of rfl rfl) rfl ?_
           refine DL_q rfl rfl (Exec.pick_t (v := Value.bool (true)) rfl rfl rfl ⟨rfl, ?_⟩)
           refine DL_done ?_
           refine WL_nil (at_normal ?_)
           have e107 := Option.some.inj ht100
           subst z100
           have hS115 := (hS111).drop
           exact ⟨s112, (PHeap.le_refl _), hS115, p116, p117, p118, x103, rfl⟩
          ·replace hc113 := not_true hc113
           refine DL_qg rfl rfl (yield_of rfl (congrArg Value.bool hc113)) (Exec.field F53_1 rfl rfl rfl ⟨rfl, ?_⟩)
           refine DL_qg rfl rfl (yield_of rfl (congrArg Value.bool hc113)) (Exec.load_box (hS111) A3 rfl rfl rfl ⟨rfl, ?_⟩)
           refine DL_qg rfl rfl (yield_of rfl (congrArg Value.bool hc113)) (Exec.lss rfl rfl rfl ⟨rfl, ?_⟩)
           refine DL_q rfl rfl (Exec.pick_f (v := Value.bool (decide (x104.Label < 0))) rfl (congrArg Value.bool hc113) rfl ⟨rfl, ?_⟩)
           refine DL_q rfl rfl (Exec.move (v := Value.bool (decide (x104.Label < 0))) rfl rfl ⟨rfl, ?_⟩)
           rcases ite_some ht100 with ⟨hc114, ht100⟩ | ⟨hc114, ht100⟩
           ·refine DL_qp rfl rfl (yield_of rfl (congrArg Value.bool hc114)) rfl ?_
            refine DL_qp rfl rfl (yield_of rfl (congrArg Value.bool hc114)) rfl ?_
            refine DL_qp rfl rfl (yield_of rfl (congrArg Value.bool hc114)) rfl ?_
            refine DL_qp rfl rfl (yield_of rfl (congrArg Value.bool hc114)) rfl ?_
            refine DL_qp rfl rfl (yield_of rfl (congrArg Value.bool hc114)) rfl ?_
            refine DL_qp rfl rfl (yield_of rfl (congrArg Value.bool hc114)) rfl ?_
            refine DL_q rfl rfl (Exec.pick_t (v := Value.bool (true)) rfl (congrArg Value.bool hc114) rfl ⟨rfl, ?_⟩)
            refine DL_q rfl rfl (Exec.move (v := Value.bool (true)) rfl rfl ⟨rfl, ?_⟩)
            refine DL_qp rfl rfl (yield_of rfl rfl) rfl ?_
            refine DL_qp rfl rfl (yield_of rfl rfl) rfl ?_
            refine DL_qp rfl rfl (yield_of rfl rfl) rfl ?_
            refine DL_qn rfl rfl (yield_undef rfl rfl) ?_
            refine DL_qn rfl rfl (yield_undef rfl rfl) ?_
            refine DL_qn rfl rfl (yield_undef rfl rfl) ?_
            refine DL_qn rfl rfl (yield_undef rfl rfl) ?_
            refine DL_qn rfl rfl (yield_undef rfl rfl) ?_
            refine DL_qn rfl rfl (yield_undef rfl rfl) ?_
            refine DL_qn rfl rfl (yield_undef rfl rfl) ?_
            refine DL_en rfl rfl (yield_undef rfl rfl) ?_
            refine DL_qn rfl rfl (yield_undef rfl rfl) ?_
            refine DL_qp rfl rfl (yield_of rfl rfl) rfl ?_
            refine DL_q rfl rfl (Exec.pick_t (v := Value.bool (true)) rfl rfl rfl ⟨rfl, ?_⟩)
            refine DL_done ?_
            refine WL_nil (at_normal ?_)
            have e108 := Option.some.inj ht100
            subst z100
            have hS116 := (hS111).drop
            exact ⟨s112, (PHeap.le_refl _), hS116, p116, p117, p118, x103, rfl⟩
           ·replace hc114 := not_true hc114
            refine DL_qg rfl rfl (yield_of rfl (congrArg Value.bool hc114)) (Exec.field F53_1 rfl rfl rfl ⟨rfl, ?_⟩)
            refine DL_qg rfl rfl (yield_of rfl (congrArg Value.bool hc114)) (Exec.load_box (hS111) A3 rfl rfl rfl ⟨rfl, ?_⟩)
            refine DL_qg rfl rfl (yield_of rfl (congrArg Value.bool hc114)) (Exec.field F26_2 rfl p116 rfl ⟨rfl, ?_⟩)
            refine DL_qg rfl rfl (yield_of rfl (congrArg Value.bool hc114)) (Exec.load_box ((hS111).f1) A22 rfl rfl rfl ⟨rfl, ?_⟩)
            refine DL_qg rfl rfl (yield_of rfl (congrArg Value.bool hc114)) (Exec.len_rep S22 rfl rfl (a66.mono (PHeap.le.trans (PHeap.le.trans l100 l104) l105)) ⟨rfl, ?_⟩)
            refine DL_qg rfl rfl (yield_of rfl (congrArg Value.bool hc114)) (Exec.geq rfl rfl rfl ⟨rfl, ?_⟩)
            refine DL_q rfl rfl (Exec.pick_f (v := Value.bool (decide ((x64.Costs.length : Int) ≤ x104.Label))) rfl (congrArg Value.bool hc114) rfl ⟨rfl, ?_⟩)
            refine DL_q rfl rfl (Exec.move (v := Value.bool (decide ((x64.Costs.length : Int) ≤ x104.Label))) rfl rfl ⟨rfl, ?_⟩)
            rcases ite_some ht100 with ⟨hc115, ht100⟩ | ⟨hc115, ht100⟩
            ·refine DL_qp rfl rfl (yield_of rfl (congrArg Value.bool hc115)) rfl ?_
             refine DL_qp rfl rfl (yield_of rfl (congrArg Value.bool hc115)) rfl ?_
             refine DL_qp rfl rfl (yield_of rfl (congrArg Value.bool hc115)) rfl ?_
             refine DL_qn rfl rfl (yield_undef rfl rfl) ?_
             refine DL_qn rfl rfl (yield_undef rfl rfl) ?_
             refine DL_qn rfl rfl (yield_undef rfl rfl) ?_
             refine DL_qn rfl rfl (yield_undef rfl rfl) ?_
             refine DL_qn rfl rfl (yield_undef rfl rfl) ?_
             refine DL_qn rfl rfl (yield_undef rfl rfl) ?_
             refine DL_qn rfl rfl (yield_undef rfl rfl) ?_
             refine DL_en rfl rfl (yield_undef rfl rfl) ?_
             refine DL_qn rfl rfl (yield_undef rfl rfl) ?_
             refine DL_qp rfl rfl (yield_of rfl (congrArg Value.bool hc115)) rfl ?_
             refine DL_q rfl rfl (Exec.pick_t (v := Value.bool (true)) rfl (congrArg Value.bool hc115) rfl ⟨rfl, ?_⟩)
             refine DL_done ?_
             refine WL_nil (at_normal ?_)
             have e109 := Option.some.inj ht100
             subst z100
             have hS117 := (hS111).drop
             exact ⟨s112, (PHeap.le_refl _), hS117, p116, p117, p118, x103, rfl⟩
            ·replace hc115 := not_true hc115
             refine DL_qg rfl rfl (yield_of rfl (congrArg Value.bool hc115)) (Exec.move (v := Value.int .i64 ((i101 : Int))) rfl rfl ⟨rfl, ?_⟩)
             refine DL_qg rfl rfl (yield_of rfl (congrArg Value.bool hc115)) (Exec.gtr rfl rfl rfl ⟨rfl, ?_⟩)
             refine DL_qg rfl rfl (yield_of rfl (congrArg Value.bool hc115)) (Exec.move (v := Value.bool (decide (0 < (i101 : Int)))) rfl rfl ⟨rfl, ?_⟩)
             rcases ite_some ht100 with ⟨hc116, ht100⟩ | ⟨hc116, ht100⟩
             ·refine DL_qg rfl rfl (yield_of rfl (congrArg Value.bool hc116)) (Exec.field F26_3 rfl p116 rfl ⟨rfl, ?_⟩)
              refine DL_qg rfl rfl (yield_of rfl (congrArg Value.bool hc116)) (Exec.load_box ((hS111).f1) A23 rfl rfl rfl ⟨rfl, ?_⟩)
              refine DL_qg rfl rfl (yield_of rfl (congrArg Value.bool hc116)) (Exec.move (v := Value.int .i64 ((i101 : Int))) rfl rfl ⟨rfl, ?_⟩)
              refine DL_qg rfl rfl (yield_of rfl (congrArg Value.bool hc116)) (Exec.sub rfl rfl rfl ⟨rfl, ?_⟩)
              obtain ⟨x105, q104, ht100⟩ := bind_some ht100
              refine DL_qg rfl rfl (yield_of rfl (congrArg Value.bool hc116)) (Exec.index_repE S23 rfl rfl rfl (a68.mono (PHeap.le.trans (PHeap.le.trans l100 l104) l105)) q104 ?_)
              intro b104 o102 a102 e110
              refine ⟨rfl, ?_⟩
              refine DL_qg rfl rfl (yield_of rfl (congrArg Value.bool hc116)) (Exec.load_at (E := encEdge) hS111 A53 rfl rfl rfl a102 ?_)
              intro v102 q105
              obtain rfl := encEdge_val.1 q105
              refine ⟨rfl, ?_⟩
              refine DL_qg rfl rfl (yield_of rfl (congrArg Value.bool hc116)) (Exec.load_box_agg (ds := [Value.int .i64 (x104.From), Value.int .i64 (x104.Label), Value.int .i64 (x104.To)]) (hS111) A53 rfl rfl rfl ⟨rfl, ?_⟩)
              obtain ⟨y101, q106, ht100⟩ := bind_some ht100
              refine DL_eg rfl rfl (yield_of rfl (congrArg Value.bool hc116)) (Exec.call rfl rfl Tryd.func44 rfl N44 (args_cons rfl (args_cons rfl args_nil)) ((transys_compare_sim q106 hS111 ).mono ?_))
              rintro _ w109 ⟨_, rfl, ⟨s114, l106, hS118, rfl⟩⟩
              refine ⟨_, rfl, ?_⟩
              refine ⟨ag_nil, ?_⟩
              refine DL_qg rfl rfl (yield_of rfl (congrArg Value.bool hc116)) (Exec.geq rfl rfl rfl ⟨rfl, ?_⟩)
              refine DL_qg rfl rfl (yield_of rfl (congrArg Value.bool hc115)) (Exec.pick_t (v := Value.bool (decide (0 ≤ y101))) rfl (congrArg Value.bool hc116) rfl ⟨rfl, ?_⟩)
              refine DL_q rfl rfl (Exec.pick_f (v := Value.bool (decide (0 ≤ y101))) rfl (congrArg Value.bool hc115) rfl ⟨rfl, ?_⟩)
              refine DL_done ?_
              refine WL_nil (at_normal ?_)
              have e111 := Option.some.inj ht100
              subst z100
              have hS119 := (hS118).drop
              exact ⟨s114, l106, hS119, p116, p117, p118, x103, rfl⟩
             ·replace hc116 := not_true hc116
              refine DL_qp rfl rfl (yield_of rfl (congrArg Value.bool hc116)) rfl ?_
              refine DL_qp rfl rfl (yield_of rfl (congrArg Value.bool hc116)) rfl ?_
              refine DL_qp rfl rfl (yield_of rfl (congrArg Value.bool hc116)) rfl ?_
              refine DL_qp rfl rfl (yield_of rfl (congrArg Value.bool hc116)) rfl ?_
              refine DL_qp rfl rfl (yield_of rfl (congrArg Value.bool hc116)) rfl ?_
              refine DL_qp rfl rfl (yield_of rfl (congrArg Value.bool hc116)) rfl ?_
              refine DL_qp rfl rfl (yield_of rfl (congrArg Value.bool hc116)) rfl ?_
              refine DL_ep rfl rfl (yield_of rfl (congrArg Value.bool hc116)) rfl ?_
              refine DL_qp rfl rfl (yield_of rfl (congrArg Value.bool hc116)) rfl ?_
              refine DL_qg rfl rfl (yield_of rfl (congrArg Value.bool hc115)) (Exec.pick_f (v := Value.bool (false)) rfl (congrArg Value.bool hc116) rfl ⟨rfl, ?_⟩)
              refine DL_q rfl rfl (Exec.pick_f (v := Value.bool (false)) rfl (congrArg Value.bool hc115) rfl ⟨rfl, ?_⟩)
              refine DL_done ?_
              refine WL_nil (at_normal ?_)
              have e112 := Option.some.inj ht100
              subst z100
              have hS120 := (hS111).drop
              exact ⟨s112, (PHeap.le_refl _), hS120, p116, p117, p118, x103, rfl⟩
      ·intro f106 w110 hM103
       obtain ⟨s115, l107, hS121, p119, p120, p121, p122, p123⟩ := hM103
       refine (at_normal ?_)
       rcases ite_some hm101 with ⟨hc117, hm101⟩ | ⟨hc117, hm101⟩
       ·refine W_cond_t p123 hc117 ?_
        refine W_seq ?_
        refine W_region ?_
        refine WL_step rfl rfl (Exec.assign (v := Value.bool (false)) rfl rfl ?_)
        refine WL_nil (at_normal ?_)
        refine W_ret (ib_ret (at_ret (at_ret (ib_ret (at_ret (at_ret ?_))))))
        have e113 := Option.some.inj hm101
        subst c103
        have hq101 := hr101 _ (hres102 (by intro _ h; cases h))
        have e114 := Option.some.inj hq101
        subst r
        refine ⟨_, ret1 rfl, ?_⟩
        have hS122 := (hS121).drop
        exact ⟨s115, (PHeap.le.trans (PHeap.le.trans (PHeap.le.trans l100 l104) l105) l107), hS122, rfl⟩
       ·refine W_cond_f p123 hc117 ?_
        replace hc117 := not_true hc117
        refine W_skip (ib_normal (at_normal ?_))
        refine W_region ?_
        refine WL_step rfl rfl (Exec.add rfl p122 rfl ?_)
        refine WL_step rfl rfl (Exec.move (v := Value.int .i64 (IntKind.i64.wrap ((i101 : Int) + 1))) rfl rfl ?_)
        refine WL_nil (at_normal ?_)
        have e115 := Option.some.inj hm101
        subst c103
        refine ⟨_, rfl, ?_⟩; exact ⟨s115, (PHeap.le.trans l105 l107), hS121, p119, p120, p121, (Eq.trans rfl (wrap_up hi101 (SliceRep.le (a68.mono (PHeap.le.trans l100 l104)))))⟩
     ·intro t104 f107 w111 hI103 hres103
      obtain ⟨s116, l108, hS123, p124, p125, p126, x106⟩ := hI103
      refine W_seq ?_
      refine W_region ?_
      refine WL_step rfl rfl (Exec.lss rfl x106 p126 ?_)
      refine WL_nil (at_normal ?_)
      refine W_seq ?_
      refine W_false (congrArg Value.bool (decide_eq_false (by omega))) ?_
      refine W_exit (at_exit (at_exit (ib_here (at_normal ?_))))
      refine ⟨_, .inl hres103, ?_⟩; exact ⟨s116, l108, hS123, p124, p125, p126⟩
    ·rintro f108 w112 ⟨t105, hc118, hM104⟩
     have hm := hc118.elim (hn101 _) (hb101 _)
     clear hc118
     obtain ⟨s117, l109, hS124, p127, p128, p129⟩ := hM104
     refine (at_normal ?_)
     refine W_seq ?_
     refine W_region ?_
     refine WL_step rfl rfl (Exec.assign (v := Value.bool (true)) rfl rfl ?_)
     refine WL_nil (at_normal ?_)
     refine W_ret ?_
     have e116 := Option.some.inj hm
     subst r
     refine ⟨_, ret1 rfl, ?_⟩
     have hS125 := (hS124).drop
     exact ⟨s117, (PHeap.le.trans (PHeap.le.trans l100 l104) l109), hS125, rfl⟩

theorem C34 : Tryd.prog.concrete 34 = true := by kernel_rfl

theorem S54 : tySlice Tryd.prog 54 = some (9, 1, 16) := by kernel_rfl

theorem Z9 : tyZero Tryd.prog 9 = some (Value.string ⟨#[]⟩) := by kernel_rfl

theorem A4 : tyAgg Tryd.prog 4 = some (false, 1) := by kernel_rfl

theorem N55 : (Tryd.f55.name == "runtime.NumGoroutine") = false := by kernel_rfl

theorem strconv_FormatBool_55_sim {w0 w : World} {s : PHeap} {H : List Res} {b100 : Bool}  {r : ByteArray} (hm : strconv_FormatBool_55_p b100 = some r) (hS : St w0 s (H) w)  :
  Calls Tryd.prog 55 #[Value.bool (b100)] w fun e w' => ∃ v, e = .returned v ∧ ((fun (y100 : ByteArray) => ∃ (s100 : PHeap) , PHeap.le s s100 ∧ St w0 s100 (H) w' ∧ v = Value.string (y100)) r) := by
 unfold strconv_FormatBool_55_p at hm
 refine calls_of_W Tryd.func55 rfl rfl ?_
 refine W_seq ?_
 refine W_region ?_
 refine WL_step rfl rfl (Exec.assign (v := Value.string (⟨#[]⟩)) rfl rfl ?_)
 refine WL_nil (at_normal ?_)
 refine W_seq ?_
 refine W_seq ?_
 refine W_region ?_
 refine WL_step rfl rfl (Exec.move (v := Value.bool (b100)) rfl rfl ?_)
 refine WL_nil (at_normal ?_)
 rcases ite_some hm with ⟨hc100, hm⟩ | ⟨hc100, hm⟩
 ·refine W_cond_t rfl hc100 ?_
  refine W_seq ?_
  refine W_region ?_
  refine WL_step rfl rfl (Exec.assign (v := Value.string (⟨#[116, 114, 117, 101]⟩)) rfl rfl ?_)
  refine WL_nil (at_normal ?_)
  refine W_ret (at_ret ?_)
  have e100 := Option.some.inj hm
  subst r
  refine ⟨_, ret1 rfl, ?_⟩
  exact ⟨s, (PHeap.le_refl _), hS, rfl⟩
 ·refine W_cond_f rfl hc100 ?_
  replace hc100 := not_true hc100
  refine W_skip (at_normal ?_)
  refine W_seq ?_
  refine W_region ?_
  refine WL_step rfl rfl (Exec.assign (v := Value.string (⟨#[102, 97, 108, 115, 101]⟩)) rfl rfl ?_)
  refine WL_nil (at_normal ?_)
  refine W_ret ?_
  have e101 := Option.some.inj hm
  subst r
  refine ⟨_, ret1 rfl, ?_⟩
  exact ⟨s, (PHeap.le_refl _), hS, rfl⟩

theorem N29 : (Tryd.f29.name == "runtime.NumGoroutine") = false := by kernel_rfl

theorem strconv_FormatBool_sim {w0 w : World} {s : PHeap} {H : List Res} {b100 : Bool}  {r : ByteArray} (hm : strconv_FormatBool_p b100 = some r) (hS : St w0 s (H) w)  :
  Calls Tryd.prog 29 #[Value.bool (b100)] w fun e w' => ∃ v, e = .returned v ∧ ((fun (y100 : ByteArray) => ∃ (s100 : PHeap) , PHeap.le s s100 ∧ St w0 s100 (H) w' ∧ v = Value.string (y100)) r) := by
 unfold strconv_FormatBool_p at hm
 refine calls_of_W Tryd.func29 rfl rfl ?_
 refine W_seq ?_
 refine W_region ?_
 refine WL_step rfl rfl (Exec.assign (v := Value.string (⟨#[]⟩)) rfl rfl ?_)
 refine WL_nil (at_normal ?_)
 refine W_seq ?_
 refine W_region ?_
 refine WL_step rfl rfl (Exec.move (v := Value.bool (b100)) rfl rfl ?_)
 refine WL_step rfl rfl (Exec.call rfl rfl Tryd.func55 rfl N55 (args_cons rfl args_nil) ((strconv_FormatBool_55_sim (strconv_FormatBool_55_tot b100) hS ).mono ?_))
 rintro _ w100 ⟨_, rfl, ⟨s101, l100, hS100, rfl⟩⟩
 refine ⟨_, rfl, ?_⟩
 refine WL_step rfl rfl (Exec.assign (v := Value.string ((strconv_FormatBool_55_t b100))) rfl rfl ?_)
 refine WL_nil (at_normal ?_)
 refine W_ret ?_
 have e100 := Option.some.inj hm
 subst r
 refine ⟨_, ret1 rfl, ?_⟩
 exact ⟨s101, l100, hS100, rfl⟩

theorem A9 : tyAgg Tryd.prog 9 = some (false, 1) := by kernel_rfl

theorem Z3 : tyZero Tryd.prog 3 = some (Value.int .i64 (0)) := by kernel_rfl

theorem N30 : (Tryd.f30.name == "runtime.NumGoroutine") = false := by kernel_rfl

theorem shrink_numbered_o_sim {w0 w : World} {s : PHeap} {H : List Res} {l100 : (List ByteArray)} {v100 : Value} {r : (List Int) × Int} (hm : shrink_numbered_o_p l100 = some r) (hS : St w0 s (Res.arr encStr 9 v100 l100 :: H) w)  :
  Calls Tryd.prog 30 #[v100] w fun e w' => ∃ v, e = .returned v ∧ ((un2 fun (y100 : (List Int)) (y101 : Int) => ∃ (s100 : PHeap) (v101 : Value), PHeap.le s s100 ∧ St w0 s100 (Res.arr encStr 9 v100 l100 :: Res.arr (encInt .i64) 3 v101 y100 :: H) w' ∧ v = Value.tuple #[v101, Value.int .i64 (y101)]) r) := by
 unfold shrink_numbered_o_p at hm
 refine calls_of_W Tryd.func30 rfl rfl ?_
 refine W_seq ?_
 refine W_region ?_
 refine WL_step rfl rfl (Exec.assign (v := Value.slice none 0 0) rfl rfl ?_)
 refine WL_step rfl rfl (Exec.assign (v := Value.int .i64 (0)) rfl rfl ?_)
 refine WL_nil (at_normal ?_)
 refine W_seq ?_
 refine W_region ?_
 refine WL_step rfl rfl (Exec.make_map (k := 9) (e := 3) hS rfl ?_)
 intro b100 w100 hS100
 refine WL_step rfl rfl (Exec.assign (v := Value.map (some b100)) rfl rfl ?_)
 refine WL_nil (at_normal ?_)
 refine W_seq ?_
 refine W_region ?_
 refine WL_step rfl rfl (Exec.assign (v := Value.slice none 0 0) rfl rfl ?_)
 refine WL_nil (at_normal ?_)
 refine W_seq ?_
 refine W_seq ?_
 refine W_region ?_
 refine WL_step rfl rfl (Exec.move (v := v100) rfl rfl ?_)
 refine WL_step rfl rfl (Exec.len_arr ((hS100).f1) S54 rfl rfl ?_)
 refine WL_step rfl rfl (Exec.move (v := Value.int .i64 (0)) rfl rfl ?_)
 refine WL_nil (at_normal ?_)
 obtain ⟨t100, hB100, hm⟩ := bind_some hm
 refine W_block (W_forS (fun k' s' f' w' => (un2 fun (out100 : (List Int)) (l101 : SMap) => ∃ (s101 : PHeap) (v102 : Value), PHeap.le s s101 ∧ St w0 s101 (Res.arr encStr 9 v100 l100 :: Res.smap Tryd.prog 9 3 b100 l101 :: Res.arr (encInt .i64) 3 v102 out100 :: H) w' ∧ f' 4 = Value.map (some b100) ∧ f' 5 = v102 ∧ f' 11 = v100 ∧ f' 12 = Value.int .i64 ((l100.length : Int)) ∧ f' 13 = Value.int .i64 (k' : Int)) s') hB100 ?_ ?_ ?_)
 ·have hS101 := hS100.nilArr (encInt .i64) 3
  have hS102 := (hS101).f1
  have hS103 := (hS102).f2
  exact ⟨s, (Value.slice none 0 0), (PHeap.le_refl _), hS103, rfl, rfl, rfl, rfl, rfl⟩
 ·intro i100 t101 s102 f100 w101 hi100 hI100 hm100
  obtain ⟨out100, l101⟩ := t101
  replace hm100 := un2_eq hm100
  obtain ⟨s103, v102, l102, hS104, p100, p101, p102, p103, x100⟩ := hI100
  refine W_seq ?_
  refine W_region ?_
  refine WL_step rfl rfl (Exec.lss rfl x100 p103 ?_)
  refine WL_nil (at_normal ?_)
  refine W_seq ?_
  refine W_true (congrArg Value.bool (decide_eq_true (by omega))) ?_
  refine W_skip (at_normal ?_)
  refine W_seq ?_
  refine W_block ?_
  refine W_seq ?_
  refine W_region ?_
  obtain ⟨x101, q100, hm100⟩ := bind_some hm100
  obtain ⟨g100, c100, e100⟩ := (hS104).arr_at q100
  refine WL_step rfl rfl (Exec.index_slice S54 rfl (Eq.trans p102 e100) x100 (idx_some q100).1 (idx_some q100).2.1 ?_)
  refine WL_step rfl rfl (Exec.load_arr (F := encStr) (hS104) e100 A9 rfl rfl rfl q100 (Sub.refl _) ?_)
  intro v103 q101
  obtain rfl := encStr_val.1 q101
  refine WL_step rfl rfl (Exec.assign (v := Value.string (x101)) rfl rfl ?_)
  refine WL_nil (at_normal ?_)
  refine W_seq ?_
  refine W_region ?_
  refine WL_step rfl rfl (Exec.move (v := Value.map (some b100)) rfl p100 ?_)
  refine WL_step rfl rfl (Exec.move (v := Value.string (x101)) rfl rfl ?_)
  obtain ⟨q102, q103, hm100⟩ := bind_some hm100
  refine WL_step rfl rfl (Exec.map_get ((hS104).f1) ⟨Tryd.underlying89, Tryd.underlying9, Tryd.underlying3⟩ Z3 rfl rfl rfl q103 ?_)
  refine WL_step rfl rfl (Exec.move (v := Value.tuple #[Value.int .i64 (q102.1), Value.bool (q102.2)]) rfl rfl ?_)
  refine WL_step rfl rfl (Exec.extract (v := Value.int .i64 (q102.1)) rfl rfl rfl ?_)
  refine WL_step rfl rfl (Exec.extract (v := Value.bool (q102.2)) rfl rfl rfl ?_)
  refine WL_step rfl rfl (Exec.assign (v := Value.int .i64 (q102.1)) rfl rfl ?_)
  refine WL_step rfl rfl (Exec.assign (v := Value.bool (q102.2)) rfl rfl ?_)
  refine WL_nil (at_normal ?_)
  refine W_seq ?_
  refine W_seq ?_
  refine W_region ?_
  refine WL_step rfl rfl (Exec.move (v := Value.bool (q102.2)) rfl rfl ?_)
  refine WL_step rfl rfl (Exec.not rfl rfl ?_)
  refine WL_nil (at_normal ?_)
  obtain ⟨t102, ht100, hm100⟩ := bind_some hm100
  refine W_mid (M := fun f' w' => (un2 fun (k100 : Int) (l103 : SMap) => ∃ (s104 : PHeap) , PHeap.le s103 s104 ∧ St w0 s104 (Res.arr encStr 9 v100 l100 :: Res.smap Tryd.prog 9 3 b100 l103 :: Res.arr (encInt .i64) 3 v102 out100 :: H) w' ∧ f' 4 = Value.map (some b100) ∧ f' 5 = v102 ∧ f' 8 = Value.int .i64 (k100) ∧ f' 11 = v100 ∧ f' 12 = Value.int .i64 ((l100.length : Int)) ∧ f' 13 = Value.int .i64 ((i100 : Int))) t102) ?_ ?_
  ·rcases ite_some ht100 with ⟨hc100, ht100⟩ | ⟨hc100, ht100⟩
   ·refine W_cond_t rfl hc100 ?_
    refine W_seq ?_
    refine W_region ?_
    refine WL_step rfl rfl (Exec.move (v := Value.map (some b100)) rfl p100 ?_)
    refine WL_step rfl rfl (Exec.map_len ((hS104).f1) ⟨Tryd.underlying89, Tryd.underlying9, Tryd.underlying3⟩ rfl rfl ?_)
    refine WL_step rfl rfl (Exec.assign (v := Value.int .i64 ((l101.length : Int))) rfl rfl ?_)
    refine WL_nil (at_normal ?_)
    refine W_region ?_
    refine WL_step rfl rfl (Exec.move (v := Value.map (some b100)) rfl p100 ?_)
    refine WL_step rfl rfl (Exec.move (v := Value.string (x101)) rfl rfl ?_)
    refine WL_step rfl rfl (Exec.move (v := Value.int .i64 ((l101.length : Int))) rfl rfl ?_)
    obtain ⟨m100, q104, ht100⟩ := bind_some ht100
    have hS105 := (hS104).f1
    refine WL_step rfl rfl (Exec.map_put hS105 ⟨Tryd.underlying89, Tryd.underlying9, Tryd.underlying3⟩ rfl rfl rfl rfl q104 ?_)
    intro w102 hS106
    refine WL_nil (at_normal ?_)
    have e101 := Option.some.inj ht100
    subst t102
    have hS107 := (hS106).f2
    have hS108 := (hS107).f1
    have hS109 := (hS108).f2
    exact ⟨s103, (PHeap.le_refl _), hS109, p100, p101, rfl, p102, p103, x100⟩
   ·refine W_cond_f rfl hc100 ?_
    replace hc100 := not_true hc100
    refine W_skip (at_normal ?_)
    have e102 := Option.some.inj ht100
    subst t102
    have hS110 := (hS104).f2
    have hS111 := (hS110).f2
    have hS112 := (hS111).f2
    exact ⟨s103, (PHeap.le_refl _), hS112, p100, p101, rfl, p102, p103, x100⟩
  ·intro f101 w103 hM100
   obtain ⟨k100, l103⟩ := t102
   replace hm100 := un2_eq hm100
   obtain ⟨s105, l104, hS113, p104, p105, p106, p107, p108, p109⟩ := hM100
   refine (at_normal ?_)
   refine W_region ?_
   refine WL_step rfl rfl (Exec.move (v := v102) rfl p105 ?_)
   refine WL_step rfl rfl (Exec.move (v := Value.int .i64 (k100)) rfl p106 ?_)
   refine WL_step rfl rfl (Exec.buildSlice (Te := 3) (cs := [Value.int .i64 (k100)]) hS113 rfl (parts_cons (c := [Value.int .i64 (k100)]) (cells_of rfl rfl) parts_nil) (fun _ => by kernel_rfl) ?_)
   intro b101 w104 hS114
   obtain ⟨l105, q105, hm100⟩ := bind_some hm100
   have hS115 := (hS114).f3
   refine WL_step rfl rfl (Exec.append_box (E := (encInt .i64)) (ys := [k100]) hS115 S22 Z3 rfl (by decide) rfl rfl rfl rfl ⟨[Value.int .i64 (k100)], [], rfl, rfl, rfl⟩ rfl q105 ?_)
   intro v104 w105 hS116
   refine WL_step rfl rfl (Exec.assign (v := v104) rfl rfl ?_)
   refine WL_nil (ib_normal (at_normal ?_))
   refine W_region ?_
   refine WL_step rfl rfl (Exec.add rfl p109 rfl ?_)
   refine WL_step rfl rfl (Exec.move (v := Value.int .i64 (IntKind.i64.wrap ((i100 : Int) + 1))) rfl rfl ?_)
   refine WL_nil (at_normal ?_)
   have e103 := Option.some.inj hm100
   subst s102
   have hS117 := (hS116).f2
   have hS118 := (hS117).f2
   exact ⟨s105, v104, (PHeap.le.trans l102 l104), hS118, p104, rfl, p107, p108, (Eq.trans rfl (wrap_up hi100 ((hS100).f1).arr_le))⟩
 ·intro f102 w106 hI101
  obtain ⟨out100, l101⟩ := t100
  replace hm := un2_eq hm
  obtain ⟨s106, v102, l106, hS119, p110, p111, p112, p113, x102⟩ := hI101
  refine W_seq ?_
  refine W_region ?_
  refine WL_step rfl rfl (Exec.lss rfl x102 p113 ?_)
  refine WL_nil (at_normal ?_)
  refine W_seq ?_
  refine W_false (congrArg Value.bool (decide_eq_false (by omega))) ?_
  refine W_exit (at_exit (at_exit (ib_here (at_normal ?_))))
  refine W_seq ?_
  refine W_region ?_
  refine WL_step rfl rfl (Exec.move (v := v102) rfl p111 ?_)
  refine WL_step rfl rfl (Exec.move (v := Value.map (some b100)) rfl p110 ?_)
  refine WL_step rfl rfl (Exec.map_len ((hS119).f1) ⟨Tryd.underlying89, Tryd.underlying9, Tryd.underlying3⟩ rfl rfl ?_)
  refine WL_step rfl rfl (Exec.assign (v := v102) rfl rfl ?_)
  refine WL_step rfl rfl (Exec.assign (v := Value.int .i64 ((l101.length : Int))) rfl rfl ?_)
  refine WL_nil (at_normal ?_)
  refine W_ret ?_
  have e104 := Option.some.inj hm
  subst r
  refine ⟨_, ret2 rfl, ?_⟩
  have hS120 := ((hS119).f1).drop
  have hS121 := (hS120).f1
  have hS122 := (hS121).f1
  exact ⟨s106, v102, l106, hS122, (tup2 rfl rfl)⟩

theorem S90 : tySlice Tryd.prog 90 = some (91, 1, 24) := by kernel_rfl

theorem Z91 : tyZero Tryd.prog 91 = some (Value.slice none 0 0) := by kernel_rfl

theorem A91 : tyAgg Tryd.prog 91 = some (false, 1) := by kernel_rfl

theorem S91 : tySlice Tryd.prog 91 = some (92, 2, 16) := by kernel_rfl

theorem Z92 : tyZero Tryd.prog 92 = some (Value.agg #[Value.int .i64 (0), Value.int .i64 (0)]) := by kernel_rfl

theorem N57 : (Tryd.f57.name == "runtime.NumGoroutine") = false := by kernel_rfl

theorem shrink_refine_c1_sim {w0 w : World} {s : PHeap} {H : List Res} {a100 : Arr2_int} {b100 : Arr2_int}  {r : Int} (hm : shrink_refine_c1_p a100 b100 = some r) (hS : St w0 s (H) w)  :
  Calls Tryd.prog 57 #[Value.agg #[Value.int .i64 (a100.a0), Value.int .i64 (a100.a1)], Value.agg #[Value.int .i64 (b100.a0), Value.int .i64 (b100.a1)]] w fun e w' => ∃ v, e = .returned v ∧ ((fun (y100 : Int) => ∃ (s100 : PHeap) , PHeap.le s s100 ∧ St w0 s100 (H) w' ∧ v = Value.int .i64 (y100)) r) := by
 unfold shrink_refine_c1_p at hm
 refine calls_of_W Tryd.func57 rfl rfl ?_
 refine W_seq ?_
 refine W_region ?_
 refine WL_step rfl rfl (Exec.box (cs := [Value.int .i64 (a100.a0), Value.int .i64 (a100.a1)]) hS rfl rfl rfl ?_)
 intro b101 w100 hS100
 refine WL_step rfl rfl (Exec.box (cs := [Value.int .i64 (b100.a0), Value.int .i64 (b100.a1)]) hS100 rfl rfl rfl ?_)
 intro b102 w101 hS101
 refine WL_step rfl rfl (Exec.assign (v := Value.int .i64 (0)) rfl rfl ?_)
 refine WL_nil (at_normal ?_)
 refine W_seq ?_
 refine W_dl (n0 := 12) (.q 0 (.q 1 (.q 2 (.q 3 (.q 5 (.q 6 (.q 7 (.q 8 (.e 4 [5, 6, 7, 8] (.e 9 [] (.e 10 [] (.e 11 [] .done)))))))))))) hmix (by kernel_rfl) (by kernel_rfl) ?_
 have hS102 := hS101.drew
 refine DL_q rfl rfl (Exec.index_parr Tryd.underlying92 A3 rfl rfl rfl (by decide) rfl ⟨rfl, ?_⟩)
 refine DL_q rfl rfl (Exec.load_box ((hS102).f1) A3 rfl rfl rfl ⟨rfl, ?_⟩)
 refine DL_q rfl rfl (Exec.index_parr Tryd.underlying92 A3 rfl rfl rfl (by decide) rfl ⟨rfl, ?_⟩)
 refine DL_q rfl rfl (Exec.load_box (hS102) A3 rfl rfl rfl ⟨rfl, ?_⟩)
 refine DL_q rfl rfl (Exec.index_parr Tryd.underlying92 A3 rfl rfl rfl (by decide) rfl ⟨rfl, ?_⟩)
 refine DL_q rfl rfl (Exec.load_box ((hS102).f1) A3 rfl rfl rfl ⟨rfl, ?_⟩)
 refine DL_q rfl rfl (Exec.index_parr Tryd.underlying92 A3 rfl rfl rfl (by decide) rfl ⟨rfl, ?_⟩)
 refine DL_q rfl rfl (Exec.load_box (hS102) A3 rfl rfl rfl ⟨rfl, ?_⟩)
 refine DL_e rfl rfl (Exec.call rfl rfl Tryd.func59 rfl N59 (args_cons rfl (args_cons rfl args_nil)) ((cmp_Compare_int__sim (cmp_Compare_int__tot a100.a0 b100.a0) hS102 ).mono ?_))
 rintro _ w102 ⟨_, rfl, ⟨s101, l100, hS103, rfl⟩⟩
 refine ⟨_, rfl, ?_⟩
 refine ⟨(ag_cons (ag_r rfl rfl (Exec.index_parr Tryd.underlying92 A3 rfl rfl rfl (by decide) rfl ⟨rfl, rfl⟩)) (ag_cons (ag_r rfl rfl (Exec.load_box ((hS103).f1) A3 rfl rfl rfl ⟨rfl, rfl⟩)) (ag_cons (ag_r rfl rfl (Exec.index_parr Tryd.underlying92 A3 rfl rfl rfl (by decide) rfl ⟨rfl, rfl⟩)) (ag_cons (ag_r rfl rfl (Exec.load_box (hS103) A3 rfl rfl rfl ⟨rfl, rfl⟩)) ag_nil)))), ?_⟩
 refine DL_e rfl rfl (Exec.call rfl rfl Tryd.func59 rfl N59 (args_cons rfl (args_cons rfl args_nil)) ((cmp_Compare_int__sim (cmp_Compare_int__tot a100.a1 b100.a1) hS103 ).mono ?_))
 rintro _ w103 ⟨_, rfl, ⟨s102, l101, hS104, rfl⟩⟩
 refine ⟨_, rfl, ?_⟩
 refine ⟨ag_nil, ?_⟩
 refine DL_e rfl rfl (Exec.buildSlice (Te := 3) (cs := [Value.int .i64 ((cmp_Compare_int__t a100.a0 b100.a0)), Value.int .i64 ((cmp_Compare_int__t a100.a1 b100.a1))]) hS104 rfl (parts_cons (c := [Value.int .i64 ((cmp_Compare_int__t a100.a0 b100.a0))]) (cells_of rfl rfl) (parts_cons (c := [Value.int .i64 ((cmp_Compare_int__t a100.a1 b100.a1))]) (cells_of rfl rfl) parts_nil)) (fun _ => by kernel_rfl) ?_)
 intro b103 w104 hS105
 refine ⟨ag_nil, ?_⟩
 have hS106 := St.boxArr (E := (encInt .i64)) (xs := [(cmp_Compare_int__t a100.a0 b100.a0), (cmp_Compare_int__t a100.a1 b100.a1)]) hS105 ⟨[Value.int .i64 ((cmp_Compare_int__t a100.a0 b100.a0))], [Value.int .i64 ((cmp_Compare_int__t a100.a1 b100.a1))], rfl, rfl, ⟨[Value.int .i64 ((cmp_Compare_int__t a100.a1 b100.a1))], [], rfl, rfl, rfl⟩⟩ (by simp [maxLen])
 obtain ⟨s103, l102, hS107, r100⟩ := hS106.freezeArr
 obtain ⟨y101, q100, hm⟩ := bind_some hm
 refine DL_e rfl rfl (Exec.call rfl rfl Tryd.func58 rfl N58 (args_cons rfl args_nil) ((cmp_Or_int__sim q100 hS107 r100).mono ?_))
 rintro _ w105 ⟨_, rfl, ⟨s104, l103, hS108, rfl⟩⟩
 refine ⟨_, rfl, ?_⟩
 refine ⟨ag_nil, ?_⟩
 refine DL_done ?_
 refine WL_step rfl rfl (Exec.assign (v := Value.int .i64 (y101)) rfl rfl ?_)
 refine WL_nil (at_normal ?_)
 refine W_ret ?_
 have e100 := Option.some.inj hm
 subst r
 refine ⟨_, ret1 rfl, ?_⟩
 have hS109 := (hS108).drop
 have hS110 := (hS109).drop
 exact ⟨s104, (PHeap.le.trans (PHeap.le.trans (PHeap.le.trans l100 l101) l102) l103), hS110, rfl⟩

theorem N56 : (Tryd.f56.name == "runtime.NumGoroutine") = false := by kernel_rfl

end Go.Pw
