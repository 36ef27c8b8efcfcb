/-
  The walks (printed by my generator).
-/
import Derived.Test.YtagooehmocpcjaaDoorSt0
import Derived.Test.YtagooehmocpcjaaDoorStZ
set_option maxRecDepth 100000
set_option maxHeartbeats 4000000
set_option linter.unusedVariables false
namespace Go.Pw
open Go.Proofs
theorem Z71 : tyZero Tryd.prog 71 = some (Value.agg #[Value.pointer none, Value.slice none 0 0]) := by kernel_rfl

theorem N90 : (Tryd.f90.name == "runtime.NumGoroutine") = false := by kernel_rfl

theorem strconv_small_sim {w0 w : World} {s : PHeap} {H : List Res} {i100 : Int}  {r : ByteArray} (hm : strconv_small_p i100 = some r) (hS : St w0 s (H) w)  :
  Calls Tryd.prog 90 #[Value.int .i64 (i100)] w fun e w' => ∃ v, e = .returned v ∧ ((fun (y100 : ByteArray) => ∃ (s100 : PHeap) , PHeap.le s s100 ∧ St w0 s100 (H) w' ∧ v = Value.string (y100)) r) := by
 unfold strconv_small_p at hm
 refine calls_of_W Tryd.func90 rfl rfl ?_
 refine W_seq ?_
 refine W_region ?_
 refine WL_step rfl rfl (Exec.assign (v := Value.string (⟨#[]⟩)) rfl rfl ?_)
 refine WL_nil (at_normal ?_)
 refine W_seq ?_
 refine W_seq ?_
 refine W_region ?_
 refine WL_step rfl rfl (Exec.move (v := Value.int .i64 (i100)) rfl rfl ?_)
 refine WL_step rfl rfl (Exec.lss rfl rfl rfl ?_)
 refine WL_nil (at_normal ?_)
 rcases ite_some hm with ⟨hc100, hm⟩ | ⟨hc100, hm⟩
 ·refine W_cond_t rfl hc100 ?_
  refine W_seq ?_
  refine W_region ?_
  refine WL_step rfl rfl (Exec.move (v := Value.int .i64 (i100)) rfl rfl ?_)
  refine WL_step rfl rfl (Exec.move (v := Value.int .i64 (i100)) rfl rfl ?_)
  refine WL_step rfl rfl (Exec.add rfl rfl rfl ?_)
  obtain ⟨c100, q100, hm⟩ := bind_some hm
  refine WL_step rfl rfl (Exec.slice_str Tryd.underlying9 rfl rfl rfl rfl q100 ?_)
  refine WL_step rfl rfl (Exec.assign (v := Value.string (c100)) rfl rfl ?_)
  refine WL_nil (at_normal ?_)
  refine W_ret (at_ret ?_)
  have e100 := Option.some.inj hm
  subst r
  refine ⟨_, ret1 rfl, ?_⟩
  exact ⟨s, (PHeap.le_refl _), hS, rfl⟩
 ·refine W_cond_f rfl hc100 ?_
  replace hc100 := not_true hc100
  refine W_skip (at_normal ?_)
  refine W_seq ?_
  refine W_region ?_
  refine WL_step rfl rfl (Exec.move (v := Value.int .i64 (i100)) rfl rfl ?_)
  refine WL_step rfl rfl (Exec.mul rfl rfl rfl ?_)
  refine WL_step rfl rfl (Exec.move (v := Value.int .i64 (i100)) rfl rfl ?_)
  refine WL_step rfl rfl (Exec.mul rfl rfl rfl ?_)
  refine WL_step rfl rfl (Exec.add rfl rfl rfl ?_)
  obtain ⟨c101, q101, hm⟩ := bind_some hm
  refine WL_step rfl rfl (Exec.slice_str Tryd.underlying9 rfl rfl rfl rfl q101 ?_)
  refine WL_step rfl rfl (Exec.assign (v := Value.string (c101)) rfl rfl ?_)
  refine WL_nil (at_normal ?_)
  refine W_ret ?_
  have e101 := Option.some.inj hm
  subst r
  refine ⟨_, ret1 rfl, ?_⟩
  exact ⟨s, (PHeap.le_refl _), hS, rfl⟩

theorem N71 : (Tryd.f71.name == "runtime.NumGoroutine") = false := by kernel_rfl

theorem strconv_FormatInt_sim {w0 w : World} {s : PHeap} {H : List Res} {i100 : Int} {base100 : Int}  {r : ByteArray} (hm : strconv_FormatInt_p i100 base100 = some r) (hS : St w0 s (H) w)  :
  Calls Tryd.prog 71 #[Value.int .i64 (i100), Value.int .i64 (base100)] w fun e w' => ∃ v, e = .returned v ∧ ((fun (y100 : ByteArray) => ∃ (s100 : PHeap) , PHeap.le s s100 ∧ St w0 s100 (H) w' ∧ v = Value.string (y100)) r) := by
 unfold strconv_FormatInt_p at hm
 refine calls_of_W Tryd.func71 rfl rfl ?_
 refine W_seq ?_
 refine W_region ?_
 refine WL_step rfl rfl (Exec.assign (v := Value.string (⟨#[]⟩)) rfl rfl ?_)
 refine WL_nil (at_normal ?_)
 refine W_seq ?_
 refine W_seq ?_
 refine W_region ?_
 refine WL_step rfl rfl (Exec.move (v := Value.int .i64 (base100)) rfl rfl ?_)
 refine WL_step rfl rfl (Exec.eql rfl rfl rfl ?_)
 refine WL_nil (at_normal ?_)
 rcases ite_some hm with ⟨hc100, hm⟩ | ⟨hc100, hm⟩
 ·refine W_cond_t rfl hc100 ?_
  refine W_seq ?_
  refine W_seq ?_
  refine W_mid (M := fun f' w' => ∃ (s101 : PHeap) , PHeap.le s s101 ∧ St w0 s101 (H) w' ∧ f' 0 = Value.int .i64 (i100) ∧ f' 17 = Value.bool (((decide (0 ≤ i100)) && decide (i100 < 100)))) ?_ ?_
  ·refine W_region ?_
   refine WL_step rfl rfl (Exec.move (v := Value.int .i64 (i100)) rfl rfl ?_)
   refine WL_step rfl rfl (Exec.leq rfl rfl rfl ?_)
   refine WL_step rfl rfl (Exec.move (v := Value.bool (decide (0 ≤ i100))) rfl rfl ?_)
   by_cases hc101 : (decide (0 ≤ i100)) = true
   ·refine WL_run rfl (yield_of rfl (congrArg Value.bool hc101)) rfl (Exec.move (v := Value.int .i64 (i100)) rfl rfl ?_)
    refine WL_run rfl (yield_of rfl (congrArg Value.bool hc101)) rfl (Exec.lss rfl rfl rfl ?_)
    refine WL_step rfl rfl (Exec.pick_t (v := Value.bool (decide (i100 < 100))) rfl (congrArg Value.bool hc101) rfl ?_)
    refine WL_nil (at_normal ?_)
    exact ⟨s, (PHeap.le_refl _), hS, rfl, (congrArg Value.bool (and_t hc101)).symm⟩
   ·replace hc101 := not_true hc101
    refine WL_pass rfl (yield_of rfl (congrArg Value.bool hc101)) rfl rfl ?_
    refine WL_pass rfl (yield_of rfl (congrArg Value.bool hc101)) rfl rfl ?_
    refine WL_step rfl rfl (Exec.pick_f (v := Value.bool (false)) rfl (congrArg Value.bool hc101) rfl ?_)
    refine WL_nil (at_normal ?_)
    exact ⟨s, (PHeap.le_refl _), hS, rfl, (congrArg Value.bool (and_f hc101)).symm⟩
  ·intro f100 w100 hM100
   obtain ⟨s102, l100, hS100, p100, p101⟩ := hM100
   refine (at_normal ?_)
   rcases ite_some hm with ⟨hc102, hm⟩ | ⟨hc102, hm⟩
   ·refine W_cond_t p101 hc102 ?_
    refine W_seq ?_
    refine W_region ?_
    refine WL_step rfl rfl (Exec.move (v := Value.int .i64 (i100)) rfl p100 ?_)
    obtain ⟨y101, q100, hm⟩ := bind_some hm
    refine WL_step rfl rfl (Exec.call rfl rfl Tryd.func90 rfl N90 (args_cons rfl args_nil) ((strconv_small_sim q100 hS100 ).mono ?_))
    rintro _ w101 ⟨_, rfl, ⟨s103, l101, hS101, rfl⟩⟩
    refine ⟨_, rfl, ?_⟩
    refine WL_step rfl rfl (Exec.assign (v := Value.string (y101)) rfl rfl ?_)
    refine WL_nil (at_normal ?_)
    refine W_ret (at_ret (at_ret ?_))
    have e100 := Option.some.inj hm
    subst r
    refine ⟨_, ret1 rfl, ?_⟩
    exact ⟨s103, (PHeap.le.trans l100 l101), hS101, rfl⟩
   ·refine W_cond_f p101 hc102 ?_
    replace hc102 := not_true hc102
    refine W_skip (at_normal ?_)
    refine W_seq ?_
    cases hm
 ·refine W_cond_f rfl hc100 ?_
  replace hc100 := not_true hc100
  refine W_skip (at_normal ?_)
  refine W_seq ?_
  cases hm

theorem N62 : (Tryd.f62.name == "runtime.NumGoroutine") = false := by kernel_rfl

theorem strconv_Itoa_62_sim {w0 w : World} {s : PHeap} {H : List Res} {i100 : Int}  {r : ByteArray} (hm : strconv_Itoa_62_p i100 = some r) (hS : St w0 s (H) w)  :
  Calls Tryd.prog 62 #[Value.int .i64 (i100)] w fun e w' => ∃ v, e = .returned v ∧ ((fun (y100 : ByteArray) => ∃ (s100 : PHeap) , PHeap.le s s100 ∧ St w0 s100 (H) w' ∧ v = Value.string (y100)) r) := by
 unfold strconv_Itoa_62_p at hm
 refine calls_of_W Tryd.func62 rfl rfl ?_
 refine W_seq ?_
 refine W_region ?_
 refine WL_step rfl rfl (Exec.assign (v := Value.string (⟨#[]⟩)) rfl rfl ?_)
 refine WL_nil (at_normal ?_)
 refine W_seq ?_
 refine W_region ?_
 refine WL_step rfl rfl (Exec.move (v := Value.int .i64 (i100)) rfl rfl ?_)
 obtain ⟨y101, q100, hm⟩ := bind_some hm
 refine WL_step rfl rfl (Exec.call rfl rfl Tryd.func71 rfl N71 (args_cons rfl (args_cons rfl args_nil)) ((strconv_FormatInt_sim q100 hS ).mono ?_))
 rintro _ w100 ⟨_, rfl, ⟨s101, l100, hS100, rfl⟩⟩
 refine ⟨_, rfl, ?_⟩
 refine WL_step rfl rfl (Exec.assign (v := Value.string (y101)) rfl rfl ?_)
 refine WL_nil (at_normal ?_)
 refine W_ret ?_
 have e100 := Option.some.inj hm
 subst r
 refine ⟨_, ret1 rfl, ?_⟩
 exact ⟨s101, l100, hS100, rfl⟩

theorem N41 : (Tryd.f41.name == "runtime.NumGoroutine") = false := by kernel_rfl

theorem strconv_Itoa_sim {w0 w : World} {s : PHeap} {H : List Res} {i100 : Int}  {r : ByteArray} (hm : strconv_Itoa_p i100 = some r) (hS : St w0 s (H) w)  :
  Calls Tryd.prog 41 #[Value.int .i64 (i100)] w fun e w' => ∃ v, e = .returned v ∧ ((fun (y100 : ByteArray) => ∃ (s100 : PHeap) , PHeap.le s s100 ∧ St w0 s100 (H) w' ∧ v = Value.string (y100)) r) := by
 unfold strconv_Itoa_p at hm
 refine calls_of_W Tryd.func41 rfl rfl ?_
 refine W_seq ?_
 refine W_region ?_
 refine WL_step rfl rfl (Exec.assign (v := Value.string (⟨#[]⟩)) rfl rfl ?_)
 refine WL_nil (at_normal ?_)
 refine W_seq ?_
 refine W_region ?_
 refine WL_step rfl rfl (Exec.move (v := Value.int .i64 (i100)) rfl rfl ?_)
 obtain ⟨y101, q100, hm⟩ := bind_some hm
 refine WL_step rfl rfl (Exec.call rfl rfl Tryd.func62 rfl N62 (args_cons rfl args_nil) ((strconv_Itoa_62_sim q100 hS ).mono ?_))
 rintro _ w100 ⟨_, rfl, ⟨s101, l100, hS100, rfl⟩⟩
 refine ⟨_, rfl, ?_⟩
 refine WL_step rfl rfl (Exec.assign (v := Value.string (y101)) rfl rfl ?_)
 refine WL_nil (at_normal ?_)
 refine W_ret ?_
 have e100 := Option.some.inj hm
 subst r
 refine ⟨_, ret1 rfl, ?_⟩
 exact ⟨s101, l100, hS100, rfl⟩

theorem N40 : (Tryd.f40.name == "runtime.NumGoroutine") = false := by kernel_rfl

end Go.Pw
