/-
  The walks (printed by my generator).
-/
import Derived.Test.YtagooehmocpcjaaDoorMg0
import Derived.Test.YtagooehmocpcjaaDoorMgZ
set_option maxRecDepth 100000
set_option maxHeartbeats 4000000
set_option linter.unusedVariables false
namespace Go.Pw
open Go.Proofs
theorem Z71 : tyZero Tryd.prog 71 = some (Value.agg #[Value.pointer none, Value.slice none 0 0]) := by kernel_rfl

theorem N90 : (Tryd.f90.name == "runtime.NumGoroutine") = false := by kernel_rfl

theorem strconv_small_sim {w0 w : World} {s : PHeap} {H : List Res} {i3633 : Int}  {r : ByteArray} (hm : strconv_small_p i3633 = some r) (hS : St w0 s (H) w)  :
    Calls Tryd.prog 90 #[Value.int .i64 (i3633)] w fun e w' => ∃ v, e = .returned v ∧ ((fun (y3644 : ByteArray) => ∃ (s3645 : PHeap) , PHeap.le s s3645 ∧ St w0 s3645 (H) w' ∧ v = Value.string (y3644)) r) := by
  unfold strconv_small_p at hm
  refine calls_of_W Tryd.func90 rfl rfl ?_
  refine W_seq ?_
  refine W_region ?_
  refine WL_step rfl rfl (Exec.assign (v := Value.string (⟨#[]⟩)) rfl rfl ?_)
  refine WL_nil (at_normal ?_)
  refine W_seq ?_
  refine W_seq ?_
  refine W_region ?_
  refine WL_step rfl rfl (Exec.move (v := Value.int .i64 (i3633)) rfl rfl ?_)
  refine WL_step rfl rfl (Exec.lss rfl rfl rfl ?_)
  refine WL_nil (at_normal ?_)
  rcases ite_some hm with ⟨hc3646, hm⟩ | ⟨hc3646, hm⟩
  · refine W_cond_t rfl hc3646 ?_
    refine W_seq ?_
    refine W_region ?_
    refine WL_step rfl rfl (Exec.move (v := Value.int .i64 (i3633)) rfl rfl ?_)
    refine WL_step rfl rfl (Exec.move (v := Value.int .i64 (i3633)) rfl rfl ?_)
    refine WL_step rfl rfl (Exec.add rfl rfl rfl ?_)
    obtain ⟨c3649, q3650, hm⟩ := bind_some hm
    refine WL_step rfl rfl (Exec.slice_str Tryd.underlying9 rfl rfl rfl rfl q3650 ?_)
    refine WL_step rfl rfl (Exec.assign (v := Value.string (c3649)) rfl rfl ?_)
    refine WL_nil (at_normal ?_)
    refine W_ret (at_ret ?_)
    have e3652 := Option.some.inj hm
    subst r
    refine ⟨_, ret1 rfl, ?_⟩
    exact ⟨s, (PHeap.le_refl _), hS, rfl⟩
  · refine W_cond_f rfl hc3646 ?_
    replace hc3646 := not_true hc3646
    refine W_skip (at_normal ?_)
    refine W_seq ?_
    refine W_region ?_
    refine WL_step rfl rfl (Exec.move (v := Value.int .i64 (i3633)) rfl rfl ?_)
    refine WL_step rfl rfl (Exec.mul rfl rfl rfl ?_)
    refine WL_step rfl rfl (Exec.move (v := Value.int .i64 (i3633)) rfl rfl ?_)
    refine WL_step rfl rfl (Exec.mul rfl rfl rfl ?_)
    refine WL_step rfl rfl (Exec.add rfl rfl rfl ?_)
    obtain ⟨c3655, q3656, hm⟩ := bind_some hm
    refine WL_step rfl rfl (Exec.slice_str Tryd.underlying9 rfl rfl rfl rfl q3656 ?_)
    refine WL_step rfl rfl (Exec.assign (v := Value.string (c3655)) rfl rfl ?_)
    refine WL_nil (at_normal ?_)
    refine W_ret ?_
    have e3658 := Option.some.inj hm
    subst r
    refine ⟨_, ret1 rfl, ?_⟩
    exact ⟨s, (PHeap.le_refl _), hS, rfl⟩

theorem N71 : (Tryd.f71.name == "runtime.NumGoroutine") = false := by kernel_rfl

theorem strconv_FormatInt_sim {w0 w : World} {s : PHeap} {H : List Res} {i3618 : Int} {base3619 : Int}  {r : ByteArray} (hm : strconv_FormatInt_p i3618 base3619 = some r) (hS : St w0 s (H) w)  :
    Calls Tryd.prog 71 #[Value.int .i64 (i3618), Value.int .i64 (base3619)] w fun e w' => ∃ v, e = .returned v ∧ ((fun (y3674 : ByteArray) => ∃ (s3675 : PHeap) , PHeap.le s s3675 ∧ St w0 s3675 (H) w' ∧ v = Value.string (y3674)) r) := by
  unfold strconv_FormatInt_p at hm
  refine calls_of_W Tryd.func71 rfl rfl ?_
  refine W_seq ?_
  refine W_region ?_
  refine WL_step rfl rfl (Exec.assign (v := Value.string (⟨#[]⟩)) rfl rfl ?_)
  refine WL_nil (at_normal ?_)
  refine W_seq ?_
  refine W_seq ?_
  refine W_region ?_
  refine WL_step rfl rfl (Exec.move (v := Value.int .i64 (base3619)) rfl rfl ?_)
  refine WL_step rfl rfl (Exec.eql rfl rfl rfl ?_)
  refine WL_nil (at_normal ?_)
  rcases ite_some hm with ⟨hc3676, hm⟩ | ⟨hc3676, hm⟩
  · refine W_cond_t rfl hc3676 ?_
    refine W_seq ?_
    refine W_seq ?_
    refine W_mid (M := fun f' w' => ∃ (s3678 : PHeap) , PHeap.le s s3678 ∧ St w0 s3678 (H) w' ∧ f' 0 = Value.int .i64 (i3618) ∧ f' 17 = Value.bool (((decide (0 ≤ i3618)) && decide (i3618 < 100)))) ?_ ?_
    · refine W_region ?_
      refine WL_step rfl rfl (Exec.move (v := Value.int .i64 (i3618)) rfl rfl ?_)
      refine WL_step rfl rfl (Exec.leq rfl rfl rfl ?_)
      refine WL_step rfl rfl (Exec.move (v := Value.bool (decide (0 ≤ i3618))) rfl rfl ?_)
      by_cases hc3679 : (decide (0 ≤ i3618)) = true
      · refine WL_run rfl (yield_of rfl (congrArg Value.bool hc3679)) rfl (Exec.move (v := Value.int .i64 (i3618)) rfl rfl ?_)
        refine WL_run rfl (yield_of rfl (congrArg Value.bool hc3679)) rfl (Exec.lss rfl rfl rfl ?_)
        refine WL_step rfl rfl (Exec.pick_t (v := Value.bool (decide (i3618 < 100))) rfl (congrArg Value.bool hc3679) rfl ?_)
        refine WL_nil (at_normal ?_)
        exact ⟨s, (PHeap.le_refl _), hS, rfl, (congrArg Value.bool (and_t hc3679)).symm⟩
      · replace hc3679 := not_true hc3679
        refine WL_pass rfl (yield_of rfl (congrArg Value.bool hc3679)) rfl rfl ?_
        refine WL_pass rfl (yield_of rfl (congrArg Value.bool hc3679)) rfl rfl ?_
        refine WL_step rfl rfl (Exec.pick_f (v := Value.bool (false)) rfl (congrArg Value.bool hc3679) rfl ?_)
        refine WL_nil (at_normal ?_)
        exact ⟨s, (PHeap.le_refl _), hS, rfl, (congrArg Value.bool (and_f hc3679)).symm⟩
    · intro f3680 w3681 hM3682
      obtain ⟨s3683, l3684, hS3685, p3686, p3687⟩ := hM3682
      refine (at_normal ?_)
      rcases ite_some hm with ⟨hc3688, hm⟩ | ⟨hc3688, hm⟩
      · refine W_cond_t p3687 hc3688 ?_
        refine W_seq ?_
        refine W_region ?_
        refine WL_step rfl rfl (Exec.move (v := Value.int .i64 (i3618)) rfl p3686 ?_)
        obtain ⟨y3698, q3697, hm⟩ := bind_some hm
        refine WL_step rfl rfl (Exec.call rfl rfl Tryd.func90 rfl N90 (args_cons rfl args_nil) ((strconv_small_sim q3697 hS3685 ).mono ?_))
        rintro _ w3699 ⟨_, rfl, ⟨s3700, l3701, hS3702, rfl⟩⟩
        refine ⟨_, rfl, ?_⟩
        refine WL_step rfl rfl (Exec.assign (v := Value.string (y3698)) rfl rfl ?_)
        refine WL_nil (at_normal ?_)
        refine W_ret (at_ret (at_ret ?_))
        have e3704 := Option.some.inj hm
        subst r
        refine ⟨_, ret1 rfl, ?_⟩
        exact ⟨s3700, (PHeap.le.trans l3684 l3701), hS3702, rfl⟩
      · refine W_cond_f p3687 hc3688 ?_
        replace hc3688 := not_true hc3688
        refine W_skip (at_normal ?_)
        refine W_seq ?_
        cases hm
  · refine W_cond_f rfl hc3676 ?_
    replace hc3676 := not_true hc3676
    refine W_skip (at_normal ?_)
    refine W_seq ?_
    cases hm

theorem N62 : (Tryd.f62.name == "runtime.NumGoroutine") = false := by kernel_rfl

theorem strconv_Itoa_62_sim {w0 w : World} {s : PHeap} {H : List Res} {i3617 : Int}  {r : ByteArray} (hm : strconv_Itoa_62_p i3617 = some r) (hS : St w0 s (H) w)  :
    Calls Tryd.prog 62 #[Value.int .i64 (i3617)] w fun e w' => ∃ v, e = .returned v ∧ ((fun (y3720 : ByteArray) => ∃ (s3721 : PHeap) , PHeap.le s s3721 ∧ St w0 s3721 (H) w' ∧ v = Value.string (y3720)) r) := by
  unfold strconv_Itoa_62_p at hm
  refine calls_of_W Tryd.func62 rfl rfl ?_
  refine W_seq ?_
  refine W_region ?_
  refine WL_step rfl rfl (Exec.assign (v := Value.string (⟨#[]⟩)) rfl rfl ?_)
  refine WL_nil (at_normal ?_)
  refine W_seq ?_
  refine W_region ?_
  refine WL_step rfl rfl (Exec.move (v := Value.int .i64 (i3617)) rfl rfl ?_)
  obtain ⟨y3731, q3730, hm⟩ := bind_some hm
  refine WL_step rfl rfl (Exec.call rfl rfl Tryd.func71 rfl N71 (args_cons rfl (args_cons rfl args_nil)) ((strconv_FormatInt_sim q3730 hS ).mono ?_))
  rintro _ w3732 ⟨_, rfl, ⟨s3733, l3734, hS3735, rfl⟩⟩
  refine ⟨_, rfl, ?_⟩
  refine WL_step rfl rfl (Exec.assign (v := Value.string (y3731)) rfl rfl ?_)
  refine WL_nil (at_normal ?_)
  refine W_ret ?_
  have e3737 := Option.some.inj hm
  subst r
  refine ⟨_, ret1 rfl, ?_⟩
  exact ⟨s3733, l3734, hS3735, rfl⟩

theorem N41 : (Tryd.f41.name == "runtime.NumGoroutine") = false := by kernel_rfl

theorem strconv_Itoa_sim {w0 w : World} {s : PHeap} {H : List Res} {i3616 : Int}  {r : ByteArray} (hm : strconv_Itoa_p i3616 = some r) (hS : St w0 s (H) w)  :
    Calls Tryd.prog 41 #[Value.int .i64 (i3616)] w fun e w' => ∃ v, e = .returned v ∧ ((fun (y3753 : ByteArray) => ∃ (s3754 : PHeap) , PHeap.le s s3754 ∧ St w0 s3754 (H) w' ∧ v = Value.string (y3753)) r) := by
  unfold strconv_Itoa_p at hm
  refine calls_of_W Tryd.func41 rfl rfl ?_
  refine W_seq ?_
  refine W_region ?_
  refine WL_step rfl rfl (Exec.assign (v := Value.string (⟨#[]⟩)) rfl rfl ?_)
  refine WL_nil (at_normal ?_)
  refine W_seq ?_
  refine W_region ?_
  refine WL_step rfl rfl (Exec.move (v := Value.int .i64 (i3616)) rfl rfl ?_)
  obtain ⟨y3764, q3763, hm⟩ := bind_some hm
  refine WL_step rfl rfl (Exec.call rfl rfl Tryd.func62 rfl N62 (args_cons rfl args_nil) ((strconv_Itoa_62_sim q3763 hS ).mono ?_))
  rintro _ w3765 ⟨_, rfl, ⟨s3766, l3767, hS3768, rfl⟩⟩
  refine ⟨_, rfl, ?_⟩
  refine WL_step rfl rfl (Exec.assign (v := Value.string (y3764)) rfl rfl ?_)
  refine WL_nil (at_normal ?_)
  refine W_ret ?_
  have e3770 := Option.some.inj hm
  subst r
  refine ⟨_, ret1 rfl, ?_⟩
  exact ⟨s3766, l3767, hS3768, rfl⟩

theorem N40 : (Tryd.f40.name == "runtime.NumGoroutine") = false := by kernel_rfl

end Go.Pw
