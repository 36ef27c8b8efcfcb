/-
  The walks (printed by my generator).
-/
import Derived.Test.YtdhfofhginfdnaaFo1
set_option maxRecDepth 100000
set_option maxHeartbeats 4000000
set_option linter.unusedVariables false
namespace Go.Pw
open Go.Proofs
theorem law44_large_sim {w0 w : World} {s : PHeap} {H : List Res} {x25720 : System} {v25721 : Value} {v25723 : Value} {v25725 : Value} {r : Bool} (hm : law44_large_p x25720 = some r) (hS : St w0 s (H) w) (a25722 : SliceRep (encInt .i64) s v25721 x25720.Costs) (a25724 : SliceRep encEdge s v25723 x25720.Edges) (a25726 : SliceRep encBool s v25725 x25720.Goals) :
    Calls Try.prog 11 #[Value.agg #[Value.int .i64 (x25720.States), Value.int .i64 (x25720.Init), v25721, v25723, v25725]] w fun e w' => ∃ v, e = .returned v ∧ ((fun (y27093 : Bool) => ∃ (s27094 : PHeap) , PHeap.le s s27094 ∧ St w0 s27094 (H) w' ∧ v = Value.bool (y27093)) r) := by
  unfold law44_large_p at hm
  refine calls_of_W Try.func11 rfl rfl ?_
  refine W_seq ?_
  refine W_region ?_
  refine WL_step rfl rfl (Exec.box (cs := [Value.int .i64 (x25720.States), Value.int .i64 (x25720.Init), v25721, v25723, v25725]) hS rfl rfl rfl ?_)
  intro b27098 w27099 hS27100
  refine WL_step rfl rfl (Exec.assign (v := Value.bool (false)) rfl rfl ?_)
  refine WL_nil (at_normal ?_)
  refine W_seq ?_
  obtain ⟨z27114, ht27115, hm⟩ := bind_some hm
  refine W_mid (M := fun f' w' => (fun (z27114 : Bool) => ∃ (s27116 : PHeap) , PHeap.le s s27116 ∧ St w0 s27116 (H) w' ∧ f' 2 = Value.bool (z27114)) z27114) ?_ ?_
  · refine W_region ?_
    refine WL_step rfl rfl (Exec.field F26_0 rfl rfl rfl ?_)
    refine WL_step rfl rfl (Exec.load_box (hS27100) A3 rfl rfl rfl ?_)
    refine WL_step rfl rfl (Exec.gtr rfl rfl rfl ?_)
    refine WL_step rfl rfl (Exec.move (v := Value.bool (decide (40 < x25720.States))) rfl rfl ?_)
    rcases ite_some ht27115 with ⟨hc27117, ht27115⟩ | ⟨hc27117, ht27115⟩
    · refine WL_run rfl (yield_of rfl (congrArg Value.bool hc27117)) rfl (Exec.load_box_agg (ds := [Value.int .i64 (x25720.States), Value.int .i64 (x25720.Init), v25721, v25723, v25725]) (hS27100) A26 rfl rfl rfl ?_)
      obtain ⟨y27120, q27119, ht27115⟩ := bind_some ht27115
      refine WL_run rfl (yield_of rfl (congrArg Value.bool hc27117)) rfl (Exec.call rfl rfl Try.func17 rfl N17 (args_cons rfl args_nil) ((ref44_Valid_sim q27119 hS27100 a25722 a25724 a25726).mono ?_))
      rintro _ w27121 ⟨_, rfl, ⟨s27122, l27123, hS27124, rfl⟩⟩
      refine ⟨_, rfl, ?_⟩
      refine WL_step rfl rfl (Exec.pick_t (v := Value.bool (y27120)) rfl (congrArg Value.bool hc27117) rfl ?_)
      refine WL_step rfl rfl (Exec.move (v := Value.bool (y27120)) rfl rfl ?_)
      rcases ite_some ht27115 with ⟨hc27125, ht27115⟩ | ⟨hc27125, ht27115⟩
      · refine WL_pass rfl (yield_of rfl (congrArg Value.bool hc27125)) rfl rfl ?_
        refine WL_pass rfl (yield_of rfl (congrArg Value.bool hc27125)) rfl rfl ?_
        refine WL_pass rfl (yield_of rfl (congrArg Value.bool hc27125)) rfl rfl ?_
        refine WL_pass rfl (yield_of rfl (congrArg Value.bool hc27125)) rfl rfl ?_
        refine WL_step rfl rfl (Exec.pick_t (v := Value.bool (true)) rfl (congrArg Value.bool hc27125) rfl ?_)
        refine WL_step rfl rfl (Exec.move (v := Value.bool (true)) rfl rfl ?_)
        refine WL_pass rfl (yield_of rfl rfl) rfl rfl ?_
        refine WL_pass rfl (yield_of rfl rfl) rfl rfl ?_
        refine WL_pass rfl (yield_of rfl rfl) rfl rfl ?_
        refine WL_pass rfl (yield_of rfl rfl) rfl rfl ?_
        refine WL_step rfl rfl (Exec.pick_t (v := Value.bool (true)) rfl rfl rfl ?_)
        refine WL_step rfl rfl (Exec.move (v := Value.bool (true)) rfl rfl ?_)
        refine WL_pass rfl (yield_of rfl rfl) rfl rfl ?_
        refine WL_pass rfl (yield_of rfl rfl) rfl rfl ?_
        refine WL_pass rfl (yield_of rfl rfl) rfl rfl ?_
        refine WL_pass rfl (yield_of rfl rfl) rfl rfl ?_
        refine WL_step rfl rfl (Exec.pick_t (v := Value.bool (true)) rfl rfl rfl ?_)
        refine WL_step rfl rfl (Exec.assign (v := Value.bool (true)) rfl rfl ?_)
        refine WL_nil (at_normal ?_)
        have e27126 := Option.some.inj ht27115
        subst z27114
        have hS27127 := (hS27124).drop
        exact ⟨s27122, l27123, hS27127, rfl⟩
      · replace hc27125 := not_true hc27125
        refine WL_run rfl (yield_of rfl (congrArg Value.bool hc27125)) rfl (Exec.field F26_4 rfl rfl rfl ?_)
        refine WL_run rfl (yield_of rfl (congrArg Value.bool hc27125)) rfl (Exec.load_box (hS27124) A24 rfl rfl rfl ?_)
        refine WL_run rfl (yield_of rfl (congrArg Value.bool hc27125)) rfl (Exec.len_rep S24 rfl rfl (a25726.mono l27123) ?_)
        refine WL_run rfl (yield_of rfl (congrArg Value.bool hc27125)) rfl (Exec.gtr rfl rfl rfl ?_)
        refine WL_step rfl rfl (Exec.pick_f (v := Value.bool (decide (5000 < (x25720.Goals.length : Int)))) rfl (congrArg Value.bool hc27125) rfl ?_)
        refine WL_step rfl rfl (Exec.move (v := Value.bool (decide (5000 < (x25720.Goals.length : Int)))) rfl rfl ?_)
        rcases ite_some ht27115 with ⟨hc27128, ht27115⟩ | ⟨hc27128, ht27115⟩
        · refine WL_pass rfl (yield_of rfl (congrArg Value.bool hc27128)) rfl rfl ?_
          refine WL_pass rfl (yield_of rfl (congrArg Value.bool hc27128)) rfl rfl ?_
          refine WL_pass rfl (yield_of rfl (congrArg Value.bool hc27128)) rfl rfl ?_
          refine WL_pass rfl (yield_of rfl (congrArg Value.bool hc27128)) rfl rfl ?_
          refine WL_step rfl rfl (Exec.pick_t (v := Value.bool (true)) rfl (congrArg Value.bool hc27128) rfl ?_)
          refine WL_step rfl rfl (Exec.move (v := Value.bool (true)) rfl rfl ?_)
          refine WL_pass rfl (yield_of rfl rfl) rfl rfl ?_
          refine WL_pass rfl (yield_of rfl rfl) rfl rfl ?_
          refine WL_pass rfl (yield_of rfl rfl) rfl rfl ?_
          refine WL_pass rfl (yield_of rfl rfl) rfl rfl ?_
          refine WL_step rfl rfl (Exec.pick_t (v := Value.bool (true)) rfl rfl rfl ?_)
          refine WL_step rfl rfl (Exec.assign (v := Value.bool (true)) rfl rfl ?_)
          refine WL_nil (at_normal ?_)
          have e27129 := Option.some.inj ht27115
          subst z27114
          have hS27130 := (hS27124).drop
          exact ⟨s27122, l27123, hS27130, rfl⟩
        · replace hc27128 := not_true hc27128
          refine WL_run rfl (yield_of rfl (congrArg Value.bool hc27128)) rfl (Exec.field F26_3 rfl rfl rfl ?_)
          refine WL_run rfl (yield_of rfl (congrArg Value.bool hc27128)) rfl (Exec.load_box (hS27124) A23 rfl rfl rfl ?_)
          refine WL_run rfl (yield_of rfl (congrArg Value.bool hc27128)) rfl (Exec.len_rep S23 rfl rfl (a25724.mono l27123) ?_)
          refine WL_run rfl (yield_of rfl (congrArg Value.bool hc27128)) rfl (Exec.gtr rfl rfl rfl ?_)
          refine WL_step rfl rfl (Exec.pick_f (v := Value.bool (decide (150 < (x25720.Edges.length : Int)))) rfl (congrArg Value.bool hc27128) rfl ?_)
          refine WL_step rfl rfl (Exec.move (v := Value.bool (decide (150 < (x25720.Edges.length : Int)))) rfl rfl ?_)
          rcases ite_some ht27115 with ⟨hc27131, ht27115⟩ | ⟨hc27131, ht27115⟩
          · refine WL_pass rfl (yield_of rfl (congrArg Value.bool hc27131)) rfl rfl ?_
            refine WL_pass rfl (yield_of rfl (congrArg Value.bool hc27131)) rfl rfl ?_
            refine WL_pass rfl (yield_of rfl (congrArg Value.bool hc27131)) rfl rfl ?_
            refine WL_pass rfl (yield_of rfl (congrArg Value.bool hc27131)) rfl rfl ?_
            refine WL_step rfl rfl (Exec.pick_t (v := Value.bool (true)) rfl (congrArg Value.bool hc27131) rfl ?_)
            refine WL_step rfl rfl (Exec.assign (v := Value.bool (true)) rfl rfl ?_)
            refine WL_nil (at_normal ?_)
            have e27132 := Option.some.inj ht27115
            subst z27114
            have hS27133 := (hS27124).drop
            exact ⟨s27122, l27123, hS27133, rfl⟩
          · replace hc27131 := not_true hc27131
            refine WL_run rfl (yield_of rfl (congrArg Value.bool hc27131)) rfl (Exec.field F26_2 rfl rfl rfl ?_)
            refine WL_run rfl (yield_of rfl (congrArg Value.bool hc27131)) rfl (Exec.load_box (hS27124) A22 rfl rfl rfl ?_)
            refine WL_run rfl (yield_of rfl (congrArg Value.bool hc27131)) rfl (Exec.len_rep S22 rfl rfl (a25722.mono l27123) ?_)
            refine WL_run rfl (yield_of rfl (congrArg Value.bool hc27131)) rfl (Exec.gtr rfl rfl rfl ?_)
            refine WL_step rfl rfl (Exec.pick_f (v := Value.bool (decide (40 < (x25720.Costs.length : Int)))) rfl (congrArg Value.bool hc27131) rfl ?_)
            refine WL_step rfl rfl (Exec.assign (v := Value.bool (decide (40 < (x25720.Costs.length : Int)))) rfl rfl ?_)
            refine WL_nil (at_normal ?_)
            have e27134 := Option.some.inj ht27115
            subst z27114
            have hS27135 := (hS27124).drop
            exact ⟨s27122, l27123, hS27135, rfl⟩
    · replace hc27117 := not_true hc27117
      refine WL_pass rfl (yield_of rfl (congrArg Value.bool hc27117)) rfl rfl ?_
      refine WL_pass rfl (yield_of rfl (congrArg Value.bool hc27117)) rfl rfl ?_
      refine WL_step rfl rfl (Exec.pick_f (v := Value.bool (false)) rfl (congrArg Value.bool hc27117) rfl ?_)
      refine WL_step rfl rfl (Exec.move (v := Value.bool (false)) rfl rfl ?_)
      refine WL_run rfl (yield_of rfl rfl) rfl (Exec.field F26_4 rfl rfl rfl ?_)
      refine WL_run rfl (yield_of rfl rfl) rfl (Exec.load_box (hS27100) A24 rfl rfl rfl ?_)
      refine WL_run rfl (yield_of rfl rfl) rfl (Exec.len_rep S24 rfl rfl a25726 ?_)
      refine WL_run rfl (yield_of rfl rfl) rfl (Exec.gtr rfl rfl rfl ?_)
      refine WL_step rfl rfl (Exec.pick_f (v := Value.bool (decide (5000 < (x25720.Goals.length : Int)))) rfl rfl rfl ?_)
      refine WL_step rfl rfl (Exec.move (v := Value.bool (decide (5000 < (x25720.Goals.length : Int)))) rfl rfl ?_)
      rcases ite_some ht27115 with ⟨hc27136, ht27115⟩ | ⟨hc27136, ht27115⟩
      · refine WL_pass rfl (yield_of rfl (congrArg Value.bool hc27136)) rfl rfl ?_
        refine WL_pass rfl (yield_of rfl (congrArg Value.bool hc27136)) rfl rfl ?_
        refine WL_pass rfl (yield_of rfl (congrArg Value.bool hc27136)) rfl rfl ?_
        refine WL_pass rfl (yield_of rfl (congrArg Value.bool hc27136)) rfl rfl ?_
        refine WL_step rfl rfl (Exec.pick_t (v := Value.bool (true)) rfl (congrArg Value.bool hc27136) rfl ?_)
        refine WL_step rfl rfl (Exec.move (v := Value.bool (true)) rfl rfl ?_)
        refine WL_pass rfl (yield_of rfl rfl) rfl rfl ?_
        refine WL_pass rfl (yield_of rfl rfl) rfl rfl ?_
        refine WL_pass rfl (yield_of rfl rfl) rfl rfl ?_
        refine WL_pass rfl (yield_of rfl rfl) rfl rfl ?_
        refine WL_step rfl rfl (Exec.pick_t (v := Value.bool (true)) rfl rfl rfl ?_)
        refine WL_step rfl rfl (Exec.assign (v := Value.bool (true)) rfl rfl ?_)
        refine WL_nil (at_normal ?_)
        have e27137 := Option.some.inj ht27115
        subst z27114
        have hS27138 := (hS27100).drop
        exact ⟨s, (PHeap.le_refl _), hS27138, rfl⟩
      · replace hc27136 := not_true hc27136
        refine WL_run rfl (yield_of rfl (congrArg Value.bool hc27136)) rfl (Exec.field F26_3 rfl rfl rfl ?_)
        refine WL_run rfl (yield_of rfl (congrArg Value.bool hc27136)) rfl (Exec.load_box (hS27100) A23 rfl rfl rfl ?_)
        refine WL_run rfl (yield_of rfl (congrArg Value.bool hc27136)) rfl (Exec.len_rep S23 rfl rfl a25724 ?_)
        refine WL_run rfl (yield_of rfl (congrArg Value.bool hc27136)) rfl (Exec.gtr rfl rfl rfl ?_)
        refine WL_step rfl rfl (Exec.pick_f (v := Value.bool (decide (150 < (x25720.Edges.length : Int)))) rfl (congrArg Value.bool hc27136) rfl ?_)
        refine WL_step rfl rfl (Exec.move (v := Value.bool (decide (150 < (x25720.Edges.length : Int)))) rfl rfl ?_)
        rcases ite_some ht27115 with ⟨hc27139, ht27115⟩ | ⟨hc27139, ht27115⟩
        · refine WL_pass rfl (yield_of rfl (congrArg Value.bool hc27139)) rfl rfl ?_
          refine WL_pass rfl (yield_of rfl (congrArg Value.bool hc27139)) rfl rfl ?_
          refine WL_pass rfl (yield_of rfl (congrArg Value.bool hc27139)) rfl rfl ?_
          refine WL_pass rfl (yield_of rfl (congrArg Value.bool hc27139)) rfl rfl ?_
          refine WL_step rfl rfl (Exec.pick_t (v := Value.bool (true)) rfl (congrArg Value.bool hc27139) rfl ?_)
          refine WL_step rfl rfl (Exec.assign (v := Value.bool (true)) rfl rfl ?_)
          refine WL_nil (at_normal ?_)
          have e27140 := Option.some.inj ht27115
          subst z27114
          have hS27141 := (hS27100).drop
          exact ⟨s, (PHeap.le_refl _), hS27141, rfl⟩
        · replace hc27139 := not_true hc27139
          refine WL_run rfl (yield_of rfl (congrArg Value.bool hc27139)) rfl (Exec.field F26_2 rfl rfl rfl ?_)
          refine WL_run rfl (yield_of rfl (congrArg Value.bool hc27139)) rfl (Exec.load_box (hS27100) A22 rfl rfl rfl ?_)
          refine WL_run rfl (yield_of rfl (congrArg Value.bool hc27139)) rfl (Exec.len_rep S22 rfl rfl a25722 ?_)
          refine WL_run rfl (yield_of rfl (congrArg Value.bool hc27139)) rfl (Exec.gtr rfl rfl rfl ?_)
          refine WL_step rfl rfl (Exec.pick_f (v := Value.bool (decide (40 < (x25720.Costs.length : Int)))) rfl (congrArg Value.bool hc27139) rfl ?_)
          refine WL_step rfl rfl (Exec.assign (v := Value.bool (decide (40 < (x25720.Costs.length : Int)))) rfl rfl ?_)
          refine WL_nil (at_normal ?_)
          have e27142 := Option.some.inj ht27115
          subst z27114
          have hS27143 := (hS27100).drop
          exact ⟨s, (PHeap.le_refl _), hS27143, rfl⟩
  · intro f27144 w27145 hM27146
    obtain ⟨s27147, l27148, hS27149, p27150⟩ := hM27146
    refine (at_normal ?_)
    refine W_ret ?_
    have e27152 := Option.some.inj hm
    subst r
    refine ⟨_, ret1 rfl, ?_⟩
    exact ⟨s27147, l27148, hS27149, p27150⟩

theorem N19 : (Try.f19.name == "runtime.NumGoroutine") = false := by kernel_rfl

theorem transys_Costs_sim {w0 w : World} {s : PHeap} {H : List Res} {x27436 : System} {v27437 : Value} {v27439 : Value} {v27441 : Value} {r : (List Int) × (Option Int)} (hm : transys_Costs_p x27436 = some r) (hS : St w0 s (H) w) (a27438 : SliceRep (encInt .i64) s v27437 x27436.Costs) (a27440 : SliceRep encEdge s v27439 x27436.Edges) (a27442 : SliceRep encBool s v27441 x27436.Goals) :
    Calls Try.prog 19 #[Value.agg #[Value.int .i64 (x27436.States), Value.int .i64 (x27436.Init), v27437, v27439, v27441]] w fun e w' => ∃ v, e = .returned v ∧ ((un2 fun (y27499 : (List Int)) (y27500 : (Option Int)) => ∃ (s27502 : PHeap) (v27501 : Value), PHeap.le s s27502 ∧ St w0 s27502 (H) w' ∧ v = Value.tuple #[v27501, errV 39 (y27500)] ∧ SliceRep (encInt .i64) s27502 v27501 y27499) r) := by
  unfold transys_Costs_p at hm
  refine calls_of_W Try.func19 rfl rfl ?_
  refine W_seq ?_
  refine W_region ?_
  refine WL_step rfl rfl (Exec.box (cs := [Value.int .i64 (x27436.States), Value.int .i64 (x27436.Init), v27437, v27439, v27441]) hS rfl rfl rfl ?_)
  intro b27506 w27507 hS27508
  refine WL_step rfl rfl (Exec.assign (v := Value.slice none 0 0) rfl rfl ?_)
  refine WL_step rfl rfl (Exec.assign (v := errV 39 (none)) rfl rfl ?_)
  refine WL_nil (at_normal ?_)
  refine W_seq ?_
  refine W_seq ?_
  refine W_region ?_
  refine WL_step rfl rfl (Exec.load_box_agg (ds := [Value.int .i64 (x27436.States), Value.int .i64 (x27436.Init), v27437, v27439, v27441]) (hS27508) A26 rfl rfl rfl ?_)
  obtain ⟨y27518, q27517, hm⟩ := bind_some hm
  refine WL_step rfl rfl (Exec.call rfl rfl Try.func25 rfl N25 (args_cons rfl args_nil) ((transys_Valid_sim q27517 hS27508 a27438 a27440 a27442).mono ?_))
  rintro _ w27519 ⟨_, rfl, ⟨s27520, l27521, hS27522, rfl⟩⟩
  refine ⟨_, rfl, ?_⟩
  refine WL_step rfl rfl (Exec.not rfl rfl ?_)
  refine WL_nil (at_normal ?_)
  rcases ite_some hm with ⟨hc27523, hm⟩ | ⟨hc27523, hm⟩
  · refine W_cond_t rfl hc27523 ?_
    refine W_seq ?_
    refine W_region ?_
    refine WL_step rfl rfl (Exec.makeInterface C39 rfl rfl ?_)
    refine WL_step rfl rfl (Exec.assign (v := Value.slice none 0 0) rfl rfl ?_)
    refine WL_step rfl rfl (Exec.assign (v := errV 39 (some 2)) rfl rfl ?_)
    refine WL_nil (at_normal ?_)
    refine W_ret (at_ret ?_)
    have e27525 := Option.some.inj hm
    subst r
    refine ⟨_, ret2 rfl, ?_⟩
    have hS27526 := (hS27522).drop
    exact ⟨s27520, (Value.slice none 0 0), l27521, hS27526, (tup2 rfl rfl), (SliceRep.nil _ _)⟩
  · refine W_cond_f rfl hc27523 ?_
    replace hc27523 := not_true hc27523
    refine W_skip (at_normal ?_)
    refine W_seq ?_
    refine W_region ?_
    refine WL_step rfl rfl (Exec.load_box_agg (ds := [Value.int .i64 (x27436.States), Value.int .i64 (x27436.Init), v27437, v27439, v27441]) (hS27522) A26 rfl rfl rfl ?_)
    refine WL_step rfl rfl (Exec.field F26_1 rfl rfl rfl ?_)
    refine WL_step rfl rfl (Exec.load_box (hS27522) A3 rfl rfl rfl ?_)
    refine WL_step rfl rfl (Exec.buildSlice (Te := 3) (cs := [Value.int .i64 (x27436.Init)]) hS27522 rfl (parts_cons (c := [Value.int .i64 (x27436.Init)]) (cells_of rfl rfl) parts_nil) (fun _ => by kernel_rfl) ?_)
    intro b27544 w27545 hS27546
    have hS27547 := St.boxArr (E := (encInt .i64)) (xs := [x27436.Init]) hS27546 ⟨[Value.int .i64 (x27436.Init)], [], rfl, rfl, rfl⟩ (by simp [maxLen])
    obtain ⟨s27548, l27549, hS27550, r27551⟩ := hS27547.freezeArr
    obtain ⟨y27554, q27553, hm⟩ := bind_some hm
    refine WL_step rfl rfl (Exec.call rfl rfl Try.func42 rfl N42 (args_cons rfl (args_cons rfl (args_cons rfl args_nil))) ((transys_shortest_sim q27553 hS27550 (a27438.mono (PHeap.le.trans l27521 l27549)) (a27440.mono (PHeap.le.trans l27521 l27549)) (a27442.mono (PHeap.le.trans l27521 l27549)) r27551).mono ?_))
    rintro _ w27555 ⟨v27559, rfl, ⟨s27556, _, l27557, hS27558, rfl, r27560⟩⟩
    refine ⟨_, rfl, ?_⟩
    refine WL_step rfl rfl (Exec.assign (v := v27559) rfl rfl ?_)
    refine WL_step rfl rfl (Exec.assign (v := errV 39 (none)) rfl rfl ?_)
    refine WL_nil (at_normal ?_)
    refine W_ret ?_
    have e27562 := Option.some.inj hm
    subst r
    refine ⟨_, ret2 rfl, ?_⟩
    have hS27563 := (hS27558).drop
    exact ⟨s27556, v27559, (PHeap.le.trans (PHeap.le.trans l27521 l27549) l27557), hS27563, (tup2 rfl rfl), r27560⟩

theorem N23 : (Try.f23.name == "runtime.NumGoroutine") = false := by kernel_rfl

theorem transys_Trim_sim {w0 w : World} {s : PHeap} {H : List Res} {x27584 : System} {v27585 : Value} {v27587 : Value} {v27589 : Value} {r : (List Int) × (Option Int) × System} (hm : transys_Trim_p x27584 = some r) (hS : St w0 s (H) w) (a27586 : SliceRep (encInt .i64) s v27585 x27584.Costs) (a27588 : SliceRep encEdge s v27587 x27584.Edges) (a27590 : SliceRep encBool s v27589 x27584.Goals) :
    Calls Try.prog 23 #[Value.agg #[Value.int .i64 (x27584.States), Value.int .i64 (x27584.Init), v27585, v27587, v27589]] w fun e w' => ∃ v, e = .returned v ∧ ((un3 fun (y29948 : (List Int)) (y29949 : (Option Int)) (y29947 : System) => ∃ (s29974 : PHeap) (v29970 : Value) (v29971 : Value) (v29972 : Value) (v29973 : Value), PHeap.le s s29974 ∧ St w0 s29974 (H) w' ∧ v = Value.tuple #[Value.agg #[Value.int .i64 (y29947.States), Value.int .i64 (y29947.Init), v29971, v29972, v29973], v29970, errV 39 (y29949)] ∧ SliceRep (encInt .i64) s29974 v29970 y29948 ∧ SliceRep (encInt .i64) s29974 v29971 y29947.Costs ∧ SliceRep encEdge s29974 v29972 y29947.Edges ∧ SliceRep encBool s29974 v29973 y29947.Goals) r) := by
  unfold transys_Trim_p at hm
  refine calls_of_W Try.func23 rfl rfl ?_
  refine W_seq ?_
  refine W_region ?_
  refine WL_step rfl rfl (Exec.box (cs := [Value.int .i64 (x27584.States), Value.int .i64 (x27584.Init), v27585, v27587, v27589]) hS rfl rfl rfl ?_)
  intro b29981 w29982 hS29983
  refine WL_step rfl rfl (Exec.alloc (cs := [Value.int .i64 (0), Value.int .i64 (0), Value.slice none 0 0, Value.slice none 0 0, Value.slice none 0 0]) hS29983 Z26 rfl rfl ?_)
  intro b29984 w29985 hS29986
  refine WL_step rfl rfl (Exec.assign (v := Value.slice none 0 0) rfl rfl ?_)
  refine WL_step rfl rfl (Exec.assign (v := errV 39 (none)) rfl rfl ?_)
  refine WL_nil (at_normal ?_)
  refine W_seq ?_
  refine W_seq ?_
  refine W_region ?_
  refine WL_step rfl rfl (Exec.load_box_agg (ds := [Value.int .i64 (x27584.States), Value.int .i64 (x27584.Init), v27585, v27587, v27589]) ((hS29986).f1) A26 rfl rfl rfl ?_)
  obtain ⟨y29996, q29995, hm⟩ := bind_some hm
  refine WL_step rfl rfl (Exec.call rfl rfl Try.func25 rfl N25 (args_cons rfl args_nil) ((transys_Valid_sim q29995 hS29986 a27586 a27588 a27590).mono ?_))
  rintro _ w29997 ⟨_, rfl, ⟨s29998, l29999, hS30000, rfl⟩⟩
  refine ⟨_, rfl, ?_⟩
  refine WL_step rfl rfl (Exec.not rfl rfl ?_)
  refine WL_nil (at_normal ?_)
  rcases ite_some hm with ⟨hc30001, hm⟩ | ⟨hc30001, hm⟩
  · refine W_cond_t rfl hc30001 ?_
    refine W_seq ?_
    refine W_region ?_
    refine WL_step rfl rfl (Exec.build rfl parts_nil (v := Value.agg #[Value.int .i64 (0), Value.int .i64 (0), Value.slice none 0 0, Value.slice none 0 0, Value.slice none 0 0]) (fun _ => by kernel_rfl) ?_)
    refine WL_step rfl rfl (Exec.makeInterface C39 rfl rfl ?_)
    refine WL_step rfl rfl (Exec.store_box (ds := [Value.int .i64 (0), Value.int .i64 (0), Value.slice none 0 0, Value.slice none 0 0, Value.slice none 0 0]) (es := [Value.int .i64 (0), Value.int .i64 (0), Value.slice none 0 0, Value.slice none 0 0, Value.slice none 0 0]) hS30000 A26 rfl rfl rfl rfl (one_cons rfl (one_cons rfl (one_cons rfl (one_cons rfl (one_cons rfl one_nil))))) (Nat.le_of_ble_eq_true rfl) rfl ?_)
    intro w30004 hS30005
    refine WL_step rfl rfl (Exec.assign (v := Value.slice none 0 0) rfl rfl ?_)
    refine WL_step rfl rfl (Exec.assign (v := errV 39 (some 2)) rfl rfl ?_)
    refine WL_nil (at_normal ?_)
    refine W_ret (at_ret ?_)
    have e30007 := Option.some.inj hm
    subst r
    refine ⟨_, retG3 rfl ⟨_, _, rfl, cellRes (hS30005) A26⟩ rfl rfl, ?_⟩
    have hS30008 := (hS30005).drop
    have hS30009 := (hS30008).drop
    exact ⟨s29998, (Value.slice none 0 0), (Value.slice none 0 0), (Value.slice none 0 0), (Value.slice none 0 0), l29999, hS30009, (tup3 rfl rfl rfl), (SliceRep.nil _ _), (SliceRep.nil _ _), (SliceRep.nil _ _), (SliceRep.nil _ _)⟩
  · refine W_cond_f rfl hc30001 ?_
    replace hc30001 := not_true hc30001
    refine W_skip (at_normal ?_)
    refine W_seq ?_
    refine W_dl (n0 := 10) (.q 0 (.q 1 (.q 2 (.q 5 (.q 6 (.e 3 [0, 5, 6] (.e 4 [5, 6] (.e 7 [5] (.e 8 [] (.q 9 .done)))))))))) hmix (by kernel_rfl) (by kernel_rfl) ?_
    have hS30118 := hS30000.drew
    refine DL_q rfl rfl (Exec.load_box_agg (ds := [Value.int .i64 (x27584.States), Value.int .i64 (x27584.Init), v27585, v27587, v27589]) ((hS30118).f1) A26 rfl rfl rfl ⟨rfl, ?_⟩)
    refine DL_q rfl rfl (Exec.field F26_1 rfl rfl rfl ⟨rfl, ?_⟩)
    refine DL_q rfl rfl (Exec.load_box ((hS30118).f1) A3 rfl rfl rfl ⟨rfl, ?_⟩)
    refine DL_q rfl rfl (Exec.load_box_agg (ds := [Value.int .i64 (x27584.States), Value.int .i64 (x27584.Init), v27585, v27587, v27589]) ((hS30118).f1) A26 rfl rfl rfl ⟨rfl, ?_⟩)
    refine DL_q rfl rfl (Exec.load_box_agg (ds := [Value.int .i64 (x27584.States), Value.int .i64 (x27584.Init), v27585, v27587, v27589]) ((hS30118).f1) A26 rfl rfl rfl ⟨rfl, ?_⟩)
    refine DL_e rfl rfl (Exec.buildSlice (Te := 3) (cs := [Value.int .i64 (x27584.Init)]) hS30118 rfl (parts_cons (c := [Value.int .i64 (x27584.Init)]) (cells_of rfl rfl) parts_nil) (fun _ => by kernel_rfl) ?_)
    intro b30119 w30120 hS30121
    refine ⟨(ag_cons (ag_r rfl rfl (Exec.load_box_agg (ds := [Value.int .i64 (x27584.States), Value.int .i64 (x27584.Init), v27585, v27587, v27589]) ((hS30121).f2) A26 rfl rfl rfl ⟨rfl, rfl⟩)) (ag_cons (ag_r rfl rfl (Exec.load_box_agg (ds := [Value.int .i64 (x27584.States), Value.int .i64 (x27584.Init), v27585, v27587, v27589]) ((hS30121).f2) A26 rfl rfl rfl ⟨rfl, rfl⟩)) (ag_cons (ag_r rfl rfl (Exec.load_box_agg (ds := [Value.int .i64 (x27584.States), Value.int .i64 (x27584.Init), v27585, v27587, v27589]) ((hS30121).f2) A26 rfl rfl rfl ⟨rfl, rfl⟩)) ag_nil))), ?_⟩
    have hS30122 := St.boxArr (E := (encInt .i64)) (xs := [x27584.Init]) hS30121 ⟨[Value.int .i64 (x27584.Init)], [], rfl, rfl, rfl⟩ (by simp [maxLen])
    obtain ⟨s30123, l30124, hS30125, r30126⟩ := hS30122.freezeArr
    obtain ⟨y30129, q30128, hm⟩ := bind_some hm
    refine DL_e rfl rfl (Exec.call rfl rfl Try.func42 rfl N42 (args_cons rfl (args_cons rfl (args_cons rfl args_nil))) ((transys_shortest_sim q30128 hS30125 (a27586.mono (PHeap.le.trans l29999 l30124)) (a27588.mono (PHeap.le.trans l29999 l30124)) (a27590.mono (PHeap.le.trans l29999 l30124)) r30126).mono ?_))
    rintro _ w30130 ⟨v30134, rfl, ⟨s30131, _, l30132, hS30133, rfl, r30135⟩⟩
    refine ⟨_, rfl, ?_⟩
    refine ⟨(ag_cons (ag_r rfl rfl (Exec.load_box_agg (ds := [Value.int .i64 (x27584.States), Value.int .i64 (x27584.Init), v27585, v27587, v27589]) ((hS30133).f1) A26 rfl rfl rfl ⟨rfl, rfl⟩)) (ag_cons (ag_r rfl rfl (Exec.load_box_agg (ds := [Value.int .i64 (x27584.States), Value.int .i64 (x27584.Init), v27585, v27587, v27589]) ((hS30133).f1) A26 rfl rfl rfl ⟨rfl, rfl⟩)) ag_nil)), ?_⟩
    obtain ⟨y30138, q30137, hm⟩ := bind_some hm
    refine DL_e rfl rfl (Exec.call rfl rfl Try.func43 rfl N43 (args_cons rfl args_nil) ((transys_goals_sim q30137 hS30133 (a27586.mono (PHeap.le.trans (PHeap.le.trans l29999 l30124) l30132)) (a27588.mono (PHeap.le.trans (PHeap.le.trans l29999 l30124) l30132)) (a27590.mono (PHeap.le.trans (PHeap.le.trans l29999 l30124) l30132))).mono ?_))
    rintro _ w30139 ⟨v30143, rfl, ⟨s30140, _, l30141, hS30142, rfl, r30144⟩⟩
    refine ⟨_, rfl, ?_⟩
    refine ⟨(ag_cons (ag_r rfl rfl (Exec.load_box_agg (ds := [Value.int .i64 (x27584.States), Value.int .i64 (x27584.Init), v27585, v27587, v27589]) ((hS30142).f1) A26 rfl rfl rfl ⟨rfl, rfl⟩)) ag_nil), ?_⟩
    obtain ⟨y30147, q30146, hm⟩ := bind_some hm
    refine DL_e rfl rfl (Exec.call rfl rfl Try.func42 rfl N42 (args_cons rfl (args_cons rfl (args_cons rfl args_nil))) ((transys_shortest_sim q30146 hS30142 (a27586.mono (PHeap.le.trans (PHeap.le.trans (PHeap.le.trans l29999 l30124) l30132) l30141)) (a27588.mono (PHeap.le.trans (PHeap.le.trans (PHeap.le.trans l29999 l30124) l30132) l30141)) (a27590.mono (PHeap.le.trans (PHeap.le.trans (PHeap.le.trans l29999 l30124) l30132) l30141)) r30144).mono ?_))
    rintro _ w30148 ⟨v30152, rfl, ⟨s30149, _, l30150, hS30151, rfl, r30153⟩⟩
    refine ⟨_, rfl, ?_⟩
    refine ⟨ag_nil, ?_⟩
    refine DL_q rfl rfl (Exec.assign (v := v30134) rfl rfl ⟨rfl, ?_⟩)
    refine DL_done ?_
    refine WL_step rfl rfl (Exec.assign (v := v30152) rfl rfl ?_)
    refine WL_nil (at_normal ?_)
    refine W_seq ?_
    refine W_region ?_
    refine WL_step rfl rfl (Exec.field F26_2 rfl rfl rfl ?_)
    refine WL_step rfl rfl (Exec.load_box ((hS30151).f1) A22 rfl rfl rfl ?_)
    obtain ⟨y30169, q30168, hm⟩ := bind_some hm
    refine WL_step rfl rfl (Exec.call rfl rfl Try.func36 rfl N36 (args_cons rfl args_nil) ((slices_Clone___int_int__sim q30168 hS30151 (a27586.mono (PHeap.le.trans (PHeap.le.trans (PHeap.le.trans (PHeap.le.trans l29999 l30124) l30132) l30141) l30150))).mono ?_))
    rintro _ w30170 ⟨v30174, rfl, ⟨s30171, _, l30172, hS30173, rfl⟩⟩
    refine ⟨_, rfl, ?_⟩
    refine WL_step rfl rfl (Exec.build rfl (parts_cons (c := [v30174]) (cells_of rfl (cells_one (hS30173).arr_one)) parts_nil) (v := Value.agg #[Value.int .i64 (0), Value.int .i64 (0), v30174, Value.slice none 0 0, Value.slice none 0 0]) (fun _ => by kernel_rfl) ?_)
    refine WL_step rfl rfl (Exec.alloc (cs := [Value.int .i64 (0), Value.int .i64 (0), Value.slice none 0 0, Value.slice none 0 0, Value.slice none 0 0]) hS30173 Z26 rfl rfl ?_)
    intro b30175 w30176 hS30177
    refine WL_step rfl rfl (Exec.store_box (ds := [Value.int .i64 (0), Value.int .i64 (0), v30174, Value.slice none 0 0, Value.slice none 0 0]) (es := [Value.int .i64 (0), Value.int .i64 (0), v30174, Value.slice none 0 0, Value.slice none 0 0]) hS30177 A26 rfl rfl rfl rfl (one_cons rfl (one_cons rfl (one_cons ((hS30177).f1).arr_one (one_cons rfl (one_cons rfl one_nil))))) (Nat.le_of_ble_eq_true rfl) rfl ?_)
    intro w30178 hS30179
    refine WL_nil (at_normal ?_)
    refine W_seq ?_
    refine W_region ?_
    refine WL_step rfl rfl (Exec.field F26_0 rfl rfl rfl ?_)
    refine WL_step rfl rfl (Exec.load_box ((hS30179).f3) A3 rfl rfl rfl ?_)
    obtain ⟨l30185, q30186, hm⟩ := bind_some hm
    refine WL_step rfl rfl (Exec.make (E := (encInt .i64)) hS30179 S22 Z3 rfl rfl rfl rfl q30186 ?_)
    intro v30187 w30188 hS30189
    refine WL_step rfl rfl (Exec.assign (v := v30187) rfl rfl ?_)
    refine WL_nil (at_normal ?_)
    refine W_seq ?_
    refine W_seq ?_
    refine W_region ?_
    refine WL_step rfl rfl (Exec.move (v := v30187) rfl rfl ?_)
    refine WL_step rfl rfl (Exec.len_arr (hS30189) S22 rfl rfl ?_)
    refine WL_step rfl rfl (Exec.move (v := Value.int .i64 (0)) rfl rfl ?_)
    refine WL_nil (at_normal ?_)
    obtain ⟨t30886, hB30887, hm⟩ := bind_some hm
    refine W_block (W_forS (fun k' s' f' w' => (un3 fun (z30541 : Int) (z30542 : (List Bool)) (l30544 : (List Int)) => ∃ (s30888 : PHeap) (v30543 : Value), PHeap.le s30171 s30888 ∧ St w0 s30888 (Res.box b29981 26 [Value.int .i64 (x27584.States), Value.int .i64 (x27584.Init), v27585, v27587, v27589] :: Res.box b29984 26 [Value.int .i64 (0), Value.int .i64 (0), Value.slice none 0 0, Value.slice none 0 0, Value.slice none 0 0] :: Res.box b30175 26 [Value.int .i64 (z30541), Value.int .i64 (0), v30174, Value.slice none 0 0, v30543] :: Res.arr (encInt .i64) 3 v30187 l30544 :: Res.arr (encInt .i64) 3 v30174 y30169 :: Res.arr encBool 4 v30543 z30542 :: H) w' ∧ f' 1 = Value.pointer (some ⟨b29981, 0, none⟩) ∧ f' 2 = Value.pointer (some ⟨b29984, 0, none⟩) ∧ f' 5 = v30134 ∧ f' 6 = v30152 ∧ f' 7 = Value.pointer (some ⟨b30175, 0, none⟩) ∧ f' 8 = v30187 ∧ f' 34 = Value.int .i64 ((l30185.length : Int)) ∧ f' 35 = Value.int .i64 (k' : Int)) s') hB30887 ?_ ?_ ?_)
    · have hS30889 := hS30189.nilArr encBool 4
      have hS30890 := (hS30889).f3
      have hS30891 := (hS30890).f2
      have hS30892 := (hS30891).f3
      have hS30893 := (hS30892).f4
      have hS30894 := (hS30893).f5
      exact ⟨s30171, (Value.slice none 0 0), (PHeap.le_refl _), hS30894, rfl, rfl, rfl, rfl, rfl, rfl, rfl, rfl⟩
    · intro i30190 t30902 s30896 f30897 w30898 hi30899 hI30900 hm30901
      obtain ⟨z30541, z30542, l30544⟩ := t30902
      replace hm30901 := un3_eq hm30901
      obtain ⟨s30903, v30543, l30904, hS30905, p30906, p30907, p30908, p30909, p30910, p30911, p30912, x30913⟩ := hI30900
      refine W_seq ?_
      refine W_region ?_
      refine WL_step rfl rfl (Exec.lss rfl x30913 p30912 ?_)
      refine WL_nil (at_normal ?_)
      refine W_seq ?_
      refine W_true (congrArg Value.bool (decide_eq_true (by omega))) ?_
      refine W_skip (at_normal ?_)
      refine W_seq ?_
      refine W_block ?_
      refine W_seq ?_
      refine W_region ?_
      refine WL_step rfl rfl (Exec.move (v := Value.int .i64 ((i30190 : Int))) rfl x30913 ?_)
      refine WL_step rfl rfl (Exec.assign (v := Value.int .i64 ((i30190 : Int))) rfl rfl ?_)
      refine WL_nil (at_normal ?_)
      refine W_seq ?_
      refine W_region ?_
      refine WL_step rfl rfl (Exec.move (v := v30187) rfl p30911 ?_)
      refine WL_step rfl rfl (Exec.move (v := Value.int .i64 ((i30190 : Int))) rfl rfl ?_)
      obtain ⟨x30924, q30925, hm30901⟩ := bind_some hm30901
      obtain ⟨g30926, c30927, e30928⟩ := ((hS30905).f3).arr_at q30925
      refine WL_step rfl rfl (Exec.index_slice S22 rfl e30928 rfl (idx_some q30925).1 (idx_some q30925).2.1 ?_)
      obtain ⟨l30929, q30930, hm30901⟩ := bind_some hm30901
      have hS30931 := (hS30905).f3
      refine WL_step rfl rfl (Exec.store_arr hS30931 e30928 A3 rfl rfl rfl rfl (encInt_val.2 rfl) q30930 ?_)
      intro w30932 hS30933
      refine WL_nil (at_normal ?_)
      refine W_seq ?_
      obtain ⟨z30950, ht30951, hm30901⟩ := bind_some hm30901
      refine W_mid (M := fun f' w' => (fun (z30950 : Bool) => ∃ (s30952 : PHeap) , PHeap.le s30903 s30952 ∧ St w0 s30952 (Res.box b29981 26 [Value.int .i64 (x27584.States), Value.int .i64 (x27584.Init), v27585, v27587, v27589] :: Res.box b29984 26 [Value.int .i64 (0), Value.int .i64 (0), Value.slice none 0 0, Value.slice none 0 0, Value.slice none 0 0] :: Res.box b30175 26 [Value.int .i64 (z30541), Value.int .i64 (0), v30174, Value.slice none 0 0, v30543] :: Res.arr (encInt .i64) 3 v30187 l30929 :: Res.arr (encInt .i64) 3 v30174 y30169 :: Res.arr encBool 4 v30543 z30542 :: H) w' ∧ f' 1 = Value.pointer (some ⟨b29981, 0, none⟩) ∧ f' 2 = Value.pointer (some ⟨b29984, 0, none⟩) ∧ f' 5 = v30134 ∧ f' 6 = v30152 ∧ f' 7 = Value.pointer (some ⟨b30175, 0, none⟩) ∧ f' 8 = v30187 ∧ f' 9 = Value.int .i64 ((i30190 : Int)) ∧ f' 34 = Value.int .i64 ((l30185.length : Int)) ∧ f' 35 = Value.int .i64 ((i30190 : Int)) ∧ f' 58 = Value.bool (z30950)) z30950) ?_ ?_
      · refine W_region ?_
        refine WL_step rfl rfl (Exec.move (v := Value.int .i64 ((i30190 : Int))) rfl rfl ?_)
        refine WL_step rfl rfl (Exec.field F26_1 rfl p30906 rfl ?_)
        refine WL_step rfl rfl (Exec.load_box ((hS30933).f1) A3 rfl rfl rfl ?_)
        refine WL_step rfl rfl (Exec.eql rfl rfl rfl ?_)
        refine WL_step rfl rfl (Exec.move (v := Value.bool (decide ((i30190 : Int) = x27584.Init))) rfl rfl ?_)
        rcases ite_some ht30951 with ⟨hc30953, ht30951⟩ | ⟨hc30953, ht30951⟩
        · refine WL_pass rfl (yield_of rfl (congrArg Value.bool hc30953)) rfl rfl ?_
          refine WL_pass rfl (yield_of rfl (congrArg Value.bool hc30953)) rfl rfl ?_
          refine WL_pass rfl (yield_of rfl (congrArg Value.bool hc30953)) rfl rfl ?_
          refine WL_pass rfl (yield_of rfl (congrArg Value.bool hc30953)) rfl rfl ?_
          refine WL_pass rfl (yield_of rfl (congrArg Value.bool hc30953)) rfl rfl ?_
          refine WL_pass rfl (yield_of rfl (congrArg Value.bool hc30953)) rfl rfl ?_
          refine WL_pass_none rfl (yield_undef rfl rfl) rfl ?_
          refine WL_pass_none rfl (yield_undef rfl rfl) rfl ?_
          refine WL_pass_none rfl (yield_undef rfl rfl) rfl ?_
          refine WL_pass_none rfl (yield_undef rfl rfl) rfl ?_
          refine WL_pass_none rfl (yield_undef rfl rfl) rfl ?_
          refine WL_pass rfl (yield_of rfl (congrArg Value.bool hc30953)) rfl rfl ?_
          refine WL_step rfl rfl (Exec.pick_t (v := Value.bool (true)) rfl (congrArg Value.bool hc30953) rfl ?_)
          refine WL_nil (at_normal ?_)
          have e30954 := Option.some.inj ht30951
          subst z30950
          have hS30955 := (hS30933).f5
          have hS30956 := (hS30955).f5
          have hS30957 := (hS30956).f2
          have hS30958 := (hS30957).f5
          have hS30959 := (hS30958).f5
          have hS30960 := (hS30959).f5
          exact ⟨s30903, (PHeap.le_refl _), hS30960, p30906, p30907, p30908, p30909, p30910, p30911, rfl, p30912, x30913, rfl⟩
        · replace hc30953 := not_true hc30953
          refine WL_run rfl (yield_of rfl (congrArg Value.bool hc30953)) rfl (Exec.move (v := v30134) rfl p30908 ?_)
          refine WL_run rfl (yield_of rfl (congrArg Value.bool hc30953)) rfl (Exec.move (v := Value.int .i64 ((i30190 : Int))) rfl rfl ?_)
          obtain ⟨x30961, q30962, ht30951⟩ := bind_some ht30951
          refine WL_run rfl (yield_of rfl (congrArg Value.bool hc30953)) rfl (Exec.index_rep S22 rfl rfl rfl (r30135.mono (PHeap.le.trans (PHeap.le.trans (PHeap.le.trans l30141 l30150) l30172) l30904)) q30962 ?_)
          intro b30963 o30964 a30965
          refine WL_run rfl (yield_of rfl (congrArg Value.bool hc30953)) rfl (Exec.load_at (E := (encInt .i64)) hS30933 A3 rfl rfl rfl a30965 ?_)
          intro v30966 q30967
          obtain rfl := encInt_val.1 q30967
          refine WL_run rfl (yield_of rfl (congrArg Value.bool hc30953)) rfl (Exec.lss rfl rfl rfl ?_)
          refine WL_run rfl (yield_of rfl (congrArg Value.bool hc30953)) rfl (Exec.move (v := Value.bool (decide (x30961 < 1125899906842624))) rfl rfl ?_)
          rcases ite_some ht30951 with ⟨hc30968, ht30951⟩ | ⟨hc30968, ht30951⟩
          · refine WL_run rfl (yield_of rfl (congrArg Value.bool hc30968)) rfl (Exec.move (v := v30152) rfl p30909 ?_)
            refine WL_run rfl (yield_of rfl (congrArg Value.bool hc30968)) rfl (Exec.move (v := Value.int .i64 ((i30190 : Int))) rfl rfl ?_)
            obtain ⟨x30969, q30970, ht30951⟩ := bind_some ht30951
            refine WL_run rfl (yield_of rfl (congrArg Value.bool hc30968)) rfl (Exec.index_rep S22 rfl rfl rfl (r30153.mono (PHeap.le.trans l30172 l30904)) q30970 ?_)
            intro b30971 o30972 a30973
            refine WL_run rfl (yield_of rfl (congrArg Value.bool hc30968)) rfl (Exec.load_at (E := (encInt .i64)) hS30933 A3 rfl rfl rfl a30973 ?_)
            intro v30974 q30975
            obtain rfl := encInt_val.1 q30975
            refine WL_run rfl (yield_of rfl (congrArg Value.bool hc30968)) rfl (Exec.lss rfl rfl rfl ?_)
            refine WL_run rfl (yield_of rfl (congrArg Value.bool hc30953)) rfl (Exec.pick_t (v := Value.bool (decide (x30969 < 1125899906842624))) rfl (congrArg Value.bool hc30968) rfl ?_)
            refine WL_step rfl rfl (Exec.pick_f (v := Value.bool (decide (x30969 < 1125899906842624))) rfl (congrArg Value.bool hc30953) rfl ?_)
            refine WL_nil (at_normal ?_)
            have e30976 := Option.some.inj ht30951
            subst z30950
            have hS30977 := (hS30933).f5
            have hS30978 := (hS30977).f5
            have hS30979 := (hS30978).f2
            have hS30980 := (hS30979).f5
            have hS30981 := (hS30980).f5
            have hS30982 := (hS30981).f5
            exact ⟨s30903, (PHeap.le_refl _), hS30982, p30906, p30907, p30908, p30909, p30910, p30911, rfl, p30912, x30913, rfl⟩
          · replace hc30968 := not_true hc30968
            refine WL_pass rfl (yield_of rfl (congrArg Value.bool hc30968)) rfl rfl ?_
            refine WL_pass rfl (yield_of rfl (congrArg Value.bool hc30968)) rfl rfl ?_
            refine WL_pass rfl (yield_of rfl (congrArg Value.bool hc30968)) rfl rfl ?_
            refine WL_pass rfl (yield_of rfl (congrArg Value.bool hc30968)) rfl rfl ?_
            refine WL_pass rfl (yield_of rfl (congrArg Value.bool hc30968)) rfl rfl ?_
            refine WL_run rfl (yield_of rfl (congrArg Value.bool hc30953)) rfl (Exec.pick_f (v := Value.bool (false)) rfl (congrArg Value.bool hc30968) rfl ?_)
            refine WL_step rfl rfl (Exec.pick_f (v := Value.bool (false)) rfl (congrArg Value.bool hc30953) rfl ?_)
            refine WL_nil (at_normal ?_)
            have e30983 := Option.some.inj ht30951
            subst z30950
            have hS30984 := (hS30933).f5
            have hS30985 := (hS30984).f5
            have hS30986 := (hS30985).f2
            have hS30987 := (hS30986).f5
            have hS30988 := (hS30987).f5
            have hS30989 := (hS30988).f5
            exact ⟨s30903, (PHeap.le_refl _), hS30989, p30906, p30907, p30908, p30909, p30910, p30911, rfl, p30912, x30913, rfl⟩
      · intro f30990 w30991 hM30992
        obtain ⟨s30993, l30994, hS30995, p30996, p30997, p30998, p30999, p31000, p31001, p31002, p31003, p31004, p31005⟩ := hM30992
        refine (at_normal ?_)
        obtain ⟨t31114, ht31115, hm30901⟩ := bind_some hm30901
        refine W_mid (M := fun f' w' => (un3 fun (z31110 : Int) (l31111 : (List Int)) (l31112 : (List Bool)) => ∃ (s31116 : PHeap) (v31113 : Value), PHeap.le s30993 s31116 ∧ St w0 s31116 (Res.box b29981 26 [Value.int .i64 (x27584.States), Value.int .i64 (x27584.Init), v27585, v27587, v27589] :: Res.box b29984 26 [Value.int .i64 (0), Value.int .i64 (0), Value.slice none 0 0, Value.slice none 0 0, Value.slice none 0 0] :: Res.box b30175 26 [Value.int .i64 (z31110), Value.int .i64 (0), v30174, Value.slice none 0 0, v31113] :: Res.arr (encInt .i64) 3 v30187 l31111 :: Res.arr (encInt .i64) 3 v30174 y30169 :: Res.arr encBool 4 v31113 l31112 :: H) w' ∧ f' 1 = Value.pointer (some ⟨b29981, 0, none⟩) ∧ f' 2 = Value.pointer (some ⟨b29984, 0, none⟩) ∧ f' 5 = v30134 ∧ f' 6 = v30152 ∧ f' 7 = Value.pointer (some ⟨b30175, 0, none⟩) ∧ f' 8 = v30187 ∧ f' 34 = Value.int .i64 ((l30185.length : Int)) ∧ f' 35 = Value.int .i64 ((i30190 : Int))) t31114) ?_ ?_
        · rcases ite_some ht31115 with ⟨hc31117, ht31115⟩ | ⟨hc31117, ht31115⟩
          · refine W_cond_t p31005 hc31117 ?_
            refine W_seq ?_
            refine W_region ?_
            refine WL_step rfl rfl (Exec.move (v := v30187) rfl p31001 ?_)
            refine WL_step rfl rfl (Exec.move (v := Value.int .i64 ((i30190 : Int))) rfl p31002 ?_)
            refine WL_step rfl rfl (Exec.field F26_0 rfl p31000 rfl ?_)
            refine WL_step rfl rfl (Exec.load_box ((hS30995).f2) A3 rfl rfl rfl ?_)
            obtain ⟨x31128, q31129, ht31115⟩ := bind_some ht31115
            obtain ⟨g31130, c31131, e31132⟩ := ((hS30995).f3).arr_at q31129
            refine WL_step rfl rfl (Exec.index_slice S22 rfl e31132 rfl (idx_some q31129).1 (idx_some q31129).2.1 ?_)
            obtain ⟨l31133, q31134, ht31115⟩ := bind_some ht31115
            have hS31135 := (hS30995).f3
            refine WL_step rfl rfl (Exec.store_arr hS31135 e31132 A3 rfl rfl rfl rfl (encInt_val.2 rfl) q31134 ?_)
            intro w31136 hS31137
            refine WL_nil (at_normal ?_)
            refine W_seq ?_
            refine W_region ?_
            refine WL_step rfl rfl (Exec.field F26_0 rfl p31000 rfl ?_)
            refine WL_step rfl rfl (Exec.load_box ((hS31137).f3) A3 rfl rfl rfl ?_)
            refine WL_step rfl rfl (Exec.add rfl rfl rfl ?_)
            refine WL_step rfl rfl (Exec.field F26_0 rfl p31000 rfl ?_)
            have hS31141 := (hS31137).f3
            refine WL_step rfl rfl (Exec.store_box (ds := [Value.int .i64 (IntKind.i64.wrap (z30541 + 1))]) (es := [Value.int .i64 (IntKind.i64.wrap (z30541 + 1)), Value.int .i64 (0), v30174, Value.slice none 0 0, v30543]) hS31141 A3 rfl rfl rfl rfl (one_cons rfl one_nil) (Nat.le_of_ble_eq_true rfl) rfl ?_)
            intro w31142 hS31143
            refine WL_nil (at_normal ?_)
            refine W_dl (n0 := 9) (.q 0 (.q 1 (.q 2 (.q 3 (.q 4 (.q 5 (.q 6 (.e 7 [0, 1] (.e 8 [] .done))))))))) hmix (by kernel_rfl) (by kernel_rfl) ?_
            have hS31201 := hS31143.drew
            refine DL_q rfl rfl (Exec.field F26_4 rfl p31000 rfl ⟨rfl, ?_⟩)
            refine DL_q rfl rfl (Exec.load_box (hS31201) A24 rfl rfl rfl ⟨rfl, ?_⟩)
            refine DL_q rfl rfl (Exec.field F26_4 rfl p30996 rfl ⟨rfl, ?_⟩)
            refine DL_q rfl rfl (Exec.load_box ((hS31201).f2) A24 rfl rfl rfl ⟨rfl, ?_⟩)
            refine DL_q rfl rfl (Exec.move (v := Value.int .i64 ((i30190 : Int))) rfl p31002 ⟨rfl, ?_⟩)
            obtain ⟨x31202, q31203, ht31115⟩ := bind_some ht31115
            refine DL_q rfl rfl (Exec.index_repE S24 rfl rfl rfl (a27590.mono (PHeap.le.trans (PHeap.le.trans (PHeap.le.trans (PHeap.le.trans (PHeap.le.trans (PHeap.le.trans (PHeap.le.trans l29999 l30124) l30132) l30141) l30150) l30172) l30904) l30994)) q31203 ?_)
            intro b31204 o31205 a31206 e31207
            refine ⟨rfl, ?_⟩
            refine DL_q rfl rfl (Exec.load_at (E := encBool) hS31201 A4 rfl rfl rfl a31206 ?_)
            intro v31208 q31209
            obtain rfl := encBool_val.1 q31209
            refine ⟨rfl, ?_⟩
            refine DL_e rfl rfl (Exec.buildSlice (Te := 4) (cs := [Value.bool (x31202)]) hS31201 rfl (parts_cons (c := [Value.bool (x31202)]) (cells_of rfl rfl) parts_nil) (fun _ => by kernel_rfl) ?_)
            intro b31210 w31211 hS31212
            refine ⟨(ag_cons (ag_r rfl rfl (Exec.field F26_4 rfl p31000 rfl ⟨rfl, rfl⟩)) (ag_cons (ag_r rfl rfl (Exec.load_box ((hS31212).f1) A24 rfl rfl rfl ⟨rfl, rfl⟩)) ag_nil)), ?_⟩
            obtain ⟨l31213, q31214, ht31115⟩ := bind_some ht31115
            have hS31215 := (hS31212).f6
            refine DL_e rfl rfl (Exec.append_box (E := encBool) (ys := [x31202]) hS31215 S24 Z4 rfl (by decide) rfl rfl rfl rfl ⟨[Value.bool (x31202)], [], rfl, rfl, rfl⟩ rfl q31214 ?_)
            intro v31216 w31217 hS31218
            refine ⟨ag_nil, ?_⟩
            refine DL_done ?_
            refine WL_step rfl rfl (Exec.field F26_4 rfl p31000 rfl ?_)
            have hS31219 := (hS31218).f1
            refine WL_step rfl rfl (Exec.store_box (ds := [v31216]) (es := [Value.int .i64 (IntKind.i64.wrap (z30541 + 1)), Value.int .i64 (0), v30174, Value.slice none 0 0, v31216]) hS31219 A24 rfl rfl rfl (cells_one ((hS31219).f1).arr_one) (one_cons ((hS31219).f1).arr_one one_nil) (Nat.le_of_ble_eq_true rfl) rfl ?_)
            intro w31220 hS31221
            refine WL_nil (at_normal ?_)
            have e31222 := Option.some.inj ht31115
            subst t31114
            have hS31223 := (hS31221).f1
            have hS31224 := (hS31223).f5
            have hS31225 := (hS31224).f3
            have hS31226 := (hS31225).f3
            have hS31227 := (hS31226).f5
            have hS31228 := (hS31227).f5
            exact ⟨s30993, v31216, (PHeap.le_refl _), hS31228, p30996, p30997, p30998, p30999, p31000, p31001, p31003, p31004⟩
          · refine W_cond_f p31005 hc31117 ?_
            replace hc31117 := not_true hc31117
            refine W_skip (at_normal ?_)
            have e31229 := Option.some.inj ht31115
            subst t31114
            have hS31230 := (hS30995).f5
            have hS31231 := (hS31230).f5
            have hS31232 := (hS31231).f5
            have hS31233 := (hS31232).f5
            have hS31234 := (hS31233).f5
            have hS31235 := (hS31234).f5
            exact ⟨s30993, v30543, (PHeap.le_refl _), hS31235, p30996, p30997, p30998, p30999, p31000, p31001, p31003, p31004⟩
        · intro f31236 w31237 hM31238
          obtain ⟨z31110, l31111, l31112⟩ := t31114
          replace hm30901 := un3_eq hm30901
          obtain ⟨s31239, v31113, l31240, hS31241, p31242, p31243, p31244, p31245, p31246, p31247, p31248, p31249⟩ := hM31238
          refine (ib_normal (at_normal ?_))
          refine W_region ?_
          refine WL_step rfl rfl (Exec.add rfl p31249 rfl ?_)
          refine WL_step rfl rfl (Exec.move (v := Value.int .i64 (IntKind.i64.wrap ((i30190 : Int) + 1))) rfl rfl ?_)
          refine WL_nil (at_normal ?_)
          have e31250 := Option.some.inj hm30901
          subst s30896
          have hS31251 := (hS31241).f5
          have hS31252 := (hS31251).f5
          have hS31253 := (hS31252).f5
          have hS31254 := (hS31253).f5
          have hS31255 := (hS31254).f5
          have hS31256 := (hS31255).f5
          exact ⟨s31239, v31113, (PHeap.le.trans (PHeap.le.trans l30904 l30994) l31240), hS31256, p31242, p31243, p31244, p31245, p31246, p31247, p31248, (Eq.trans rfl (wrap_up hi30899 (hS30189).arr_le))⟩
    · intro f31257 w31258 hI31259
      obtain ⟨z30541, z30542, l30544⟩ := t30886
      replace hm := un3_eq hm
      obtain ⟨s31260, v30543, l31261, hS31262, p31263, p31264, p31265, p31266, p31267, p31268, p31269, x31270⟩ := hI31259
      refine W_seq ?_
      refine W_region ?_
      refine WL_step rfl rfl (Exec.lss rfl x31270 p31269 ?_)
      refine WL_nil (at_normal ?_)
      refine W_seq ?_
      refine W_false (congrArg Value.bool (decide_eq_false (by omega))) ?_
      refine W_exit (at_exit (at_exit (ib_here (at_normal ?_))))
      refine W_seq ?_
      refine W_region ?_
      refine WL_step rfl rfl (Exec.move (v := v30187) rfl p31268 ?_)
      refine WL_step rfl rfl (Exec.field F26_1 rfl p31263 rfl ?_)
      refine WL_step rfl rfl (Exec.load_box (hS31262) A3 rfl rfl rfl ?_)
      obtain ⟨x31281, q31282, hm⟩ := bind_some hm
      obtain ⟨g31283, c31284, e31285⟩ := ((hS31262).f3).arr_at q31282
      refine WL_step rfl rfl (Exec.index_slice S22 rfl e31285 rfl (idx_some q31282).1 (idx_some q31282).2.1 ?_)
      refine WL_step rfl rfl (Exec.load_arr (F := (encInt .i64)) ((hS31262).f3) e31285 A3 rfl rfl rfl q31282 (Sub.refl _) ?_)
      intro v31286 q31287
      obtain rfl := encInt_val.1 q31287
      refine WL_step rfl rfl (Exec.field F26_1 rfl p31267 rfl ?_)
      have hS31288 := (hS31262).f2
      refine WL_step rfl rfl (Exec.store_box (ds := [Value.int .i64 (x31281)]) (es := [Value.int .i64 (z30541), Value.int .i64 (x31281), v30174, Value.slice none 0 0, v30543]) hS31288 A3 rfl rfl rfl rfl (one_cons rfl one_nil) (Nat.le_of_ble_eq_true rfl) rfl ?_)
      intro w31289 hS31290
      refine WL_nil (at_normal ?_)
      refine W_seq ?_
      refine W_seq ?_
      refine W_region ?_
      refine WL_step rfl rfl (Exec.field F26_3 rfl p31263 rfl ?_)
      refine WL_step rfl rfl (Exec.load_box ((hS31290).f1) A23 rfl rfl rfl ?_)
      refine WL_step rfl rfl (Exec.len_rep S23 rfl rfl (a27588.mono (PHeap.le.trans (PHeap.le.trans (PHeap.le.trans (PHeap.le.trans (PHeap.le.trans (PHeap.le.trans l29999 l30124) l30132) l30141) l30150) l30172) l31261)) ?_)
      refine WL_step rfl rfl (Exec.move (v := Value.int .i64 (0)) rfl rfl ?_)
      refine WL_nil (at_normal ?_)
      obtain ⟨z31632, hB31961, hm⟩ := bind_some hm
      refine W_block (W_forS (fun k' s' f' w' => (fun (z31632 : (List Edge)) => ∃ (s31962 : PHeap) (v31633 : Value), PHeap.le s31260 s31962 ∧ St w0 s31962 (Res.box b29984 26 [Value.int .i64 (0), Value.int .i64 (0), Value.slice none 0 0, Value.slice none 0 0, Value.slice none 0 0] :: Res.box b30175 26 [Value.int .i64 (z30541), Value.int .i64 (x31281), v30174, v31633, v30543] :: Res.arr (encInt .i64) 3 v30187 l30544 :: Res.arr (encInt .i64) 3 v30174 y30169 :: Res.arr encEdge 66 v31633 z31632 :: Res.arr encBool 4 v30543 z30542 :: H) w' ∧ f' 2 = Value.pointer (some ⟨b29984, 0, none⟩) ∧ f' 7 = Value.pointer (some ⟨b30175, 0, none⟩) ∧ f' 8 = v30187 ∧ f' 86 = v27587 ∧ f' 87 = Value.int .i64 ((x27584.Edges.length : Int)) ∧ f' 88 = Value.int .i64 (k' : Int)) s') hB31961 ?_ ?_ ?_)
      · have hS31963 := hS31290.nilArr encEdge 66
        have hS31964 := ((hS31963).f2).drop
        have hS31965 := (hS31964).f5
        have hS31966 := (hS31965).f1
        have hS31967 := (hS31966).f5
        have hS31968 := (hS31967).f5
        have hS31969 := (hS31968).f4
        have hS31970 := (hS31969).f5
        exact ⟨s31260, (Value.slice none 0 0), (PHeap.le_refl _), hS31970, p31264, p31267, p31268, rfl, rfl, rfl⟩
      · intro i31291 z31632 s31972 f31973 w31974 hi31975 hI31976 hm31977
        obtain ⟨s31978, v31633, l31979, hS31980, p31981, p31982, p31983, p31984, p31985, x31986⟩ := hI31976
        refine W_seq ?_
        refine W_region ?_
        refine WL_step rfl rfl (Exec.lss rfl x31986 p31985 ?_)
        refine WL_nil (at_normal ?_)
        refine W_seq ?_
        refine W_true (congrArg Value.bool (decide_eq_true (by omega))) ?_
        refine W_skip (at_normal ?_)
        refine W_seq ?_
        refine W_block ?_
        refine W_seq ?_
        refine W_region ?_
        obtain ⟨x31999, q32000, hm31977⟩ := bind_some hm31977
        refine WL_step rfl rfl (Exec.index_rep S23 rfl p31984 x31986 (a27588.mono (PHeap.le.trans (PHeap.le.trans (PHeap.le.trans (PHeap.le.trans (PHeap.le.trans (PHeap.le.trans (PHeap.le.trans l29999 l30124) l30132) l30141) l30150) l30172) l31261) l31979)) q32000 ?_)
        intro b32001 o32002 a32003
        refine WL_step rfl rfl (Exec.load_at (E := encEdge) hS31980 A66 rfl rfl rfl a32003 ?_)
        intro v32004 q32005
        obtain rfl := encEdge_val.1 q32005
        refine WL_step rfl rfl (Exec.alloc (cs := [Value.int .i64 (0), Value.int .i64 (0), Value.int .i64 (0)]) hS31980 Z66 rfl rfl ?_)
        intro b32006 w32007 hS32008
        refine WL_step rfl rfl (Exec.store_box (ds := [Value.int .i64 (x31999.From), Value.int .i64 (x31999.Label), Value.int .i64 (x31999.To)]) (es := [Value.int .i64 (x31999.From), Value.int .i64 (x31999.Label), Value.int .i64 (x31999.To)]) hS32008 A66 rfl rfl rfl rfl (one_cons rfl (one_cons rfl (one_cons rfl one_nil))) (Nat.le_of_ble_eq_true rfl) rfl ?_)
        intro w32009 hS32010
        refine WL_nil (at_normal ?_)
        refine W_seq ?_
        obtain ⟨z32026, ht32027, hm31977⟩ := bind_some hm31977
        refine W_mid (M := fun f' w' => (fun (z32026 : Bool) => ∃ (s32028 : PHeap) , PHeap.le s31978 s32028 ∧ St w0 s32028 (Res.box b29984 26 [Value.int .i64 (0), Value.int .i64 (0), Value.slice none 0 0, Value.slice none 0 0, Value.slice none 0 0] :: Res.box b30175 26 [Value.int .i64 (z30541), Value.int .i64 (x31281), v30174, v31633, v30543] :: Res.arr (encInt .i64) 3 v30187 l30544 :: Res.box b32006 66 [Value.int .i64 (x31999.From), Value.int .i64 (x31999.Label), Value.int .i64 (x31999.To)] :: Res.arr (encInt .i64) 3 v30174 y30169 :: Res.arr encEdge 66 v31633 z31632 :: Res.arr encBool 4 v30543 z30542 :: H) w' ∧ f' 2 = Value.pointer (some ⟨b29984, 0, none⟩) ∧ f' 7 = Value.pointer (some ⟨b30175, 0, none⟩) ∧ f' 8 = v30187 ∧ f' 11 = Value.pointer (some ⟨b32006, 0, none⟩) ∧ f' 86 = v27587 ∧ f' 87 = Value.int .i64 ((x27584.Edges.length : Int)) ∧ f' 88 = Value.int .i64 ((i31291 : Int)) ∧ f' 105 = Value.bool (z32026)) z32026) ?_ ?_
        · refine W_region ?_
          refine WL_step rfl rfl (Exec.move (v := v30187) rfl p31983 ?_)
          refine WL_step rfl rfl (Exec.field F66_0 rfl rfl rfl ?_)
          refine WL_step rfl rfl (Exec.load_box (hS32010) A3 rfl rfl rfl ?_)
          obtain ⟨x32029, q32030, ht32027⟩ := bind_some ht32027
          obtain ⟨g32031, c32032, e32033⟩ := ((hS32010).f3).arr_at q32030
          refine WL_step rfl rfl (Exec.index_slice S22 rfl e32033 rfl (idx_some q32030).1 (idx_some q32030).2.1 ?_)
          refine WL_step rfl rfl (Exec.load_arr (F := (encInt .i64)) ((hS32010).f3) e32033 A3 rfl rfl rfl q32030 (Sub.refl _) ?_)
          intro v32034 q32035
          obtain rfl := encInt_val.1 q32035
          refine WL_step rfl rfl (Exec.geq rfl rfl rfl ?_)
          refine WL_step rfl rfl (Exec.move (v := Value.bool (decide (0 ≤ x32029))) rfl rfl ?_)
          rcases ite_some ht32027 with ⟨hc32036, ht32027⟩ | ⟨hc32036, ht32027⟩
          · refine WL_run rfl (yield_of rfl (congrArg Value.bool hc32036)) rfl (Exec.move (v := v30187) rfl p31983 ?_)
            refine WL_run rfl (yield_of rfl (congrArg Value.bool hc32036)) rfl (Exec.field F66_2 rfl rfl rfl ?_)
            refine WL_run rfl (yield_of rfl (congrArg Value.bool hc32036)) rfl (Exec.load_box (hS32010) A3 rfl rfl rfl ?_)
            obtain ⟨x32037, q32038, ht32027⟩ := bind_some ht32027
            obtain ⟨g32039, c32040, e32041⟩ := ((hS32010).f3).arr_at q32038
            refine WL_run rfl (yield_of rfl (congrArg Value.bool hc32036)) rfl (Exec.index_slice S22 rfl e32041 rfl (idx_some q32038).1 (idx_some q32038).2.1 ?_)
            refine WL_run rfl (yield_of rfl (congrArg Value.bool hc32036)) rfl (Exec.load_arr (F := (encInt .i64)) ((hS32010).f3) e32041 A3 rfl rfl rfl q32038 (Sub.refl _) ?_)
            intro v32042 q32043
            obtain rfl := encInt_val.1 q32043
            refine WL_run rfl (yield_of rfl (congrArg Value.bool hc32036)) rfl (Exec.geq rfl rfl rfl ?_)
            refine WL_step rfl rfl (Exec.pick_t (v := Value.bool (decide (0 ≤ x32037))) rfl (congrArg Value.bool hc32036) rfl ?_)
            refine WL_nil (at_normal ?_)
            have e32044 := Option.some.inj ht32027
            subst z32026
            have hS32045 := (hS32010).f6
            have hS32046 := (hS32045).f6
            have hS32047 := (hS32046).f6
            have hS32048 := (hS32047).f3
            have hS32049 := (hS32048).f6
            have hS32050 := (hS32049).f6
            have hS32051 := (hS32050).f6
            exact ⟨s31978, (PHeap.le_refl _), hS32051, p31981, p31982, p31983, rfl, p31984, p31985, x31986, rfl⟩
          · replace hc32036 := not_true hc32036
            refine WL_pass rfl (yield_of rfl (congrArg Value.bool hc32036)) rfl rfl ?_
            refine WL_pass rfl (yield_of rfl (congrArg Value.bool hc32036)) rfl rfl ?_
            refine WL_pass rfl (yield_of rfl (congrArg Value.bool hc32036)) rfl rfl ?_
            refine WL_pass rfl (yield_of rfl (congrArg Value.bool hc32036)) rfl rfl ?_
            refine WL_pass rfl (yield_of rfl (congrArg Value.bool hc32036)) rfl rfl ?_
            refine WL_pass rfl (yield_of rfl (congrArg Value.bool hc32036)) rfl rfl ?_
            refine WL_step rfl rfl (Exec.pick_f (v := Value.bool (false)) rfl (congrArg Value.bool hc32036) rfl ?_)
            refine WL_nil (at_normal ?_)
            have e32052 := Option.some.inj ht32027
            subst z32026
            have hS32053 := (hS32010).f6
            have hS32054 := (hS32053).f6
            have hS32055 := (hS32054).f6
            have hS32056 := (hS32055).f3
            have hS32057 := (hS32056).f6
            have hS32058 := (hS32057).f6
            have hS32059 := (hS32058).f6
            exact ⟨s31978, (PHeap.le_refl _), hS32059, p31981, p31982, p31983, rfl, p31984, p31985, x31986, rfl⟩
        · intro f32060 w32061 hM32062
          obtain ⟨s32063, l32064, hS32065, p32066, p32067, p32068, p32069, p32070, p32071, p32072, p32073⟩ := hM32062
          refine (at_normal ?_)
          obtain ⟨l32176, ht32178, hm31977⟩ := bind_some hm31977
          refine W_mid (M := fun f' w' => (fun (l32176 : (List Edge)) => ∃ (s32179 : PHeap) (v32177 : Value), PHeap.le s32063 s32179 ∧ St w0 s32179 (Res.box b29984 26 [Value.int .i64 (0), Value.int .i64 (0), Value.slice none 0 0, Value.slice none 0 0, Value.slice none 0 0] :: Res.box b30175 26 [Value.int .i64 (z30541), Value.int .i64 (x31281), v30174, v32177, v30543] :: Res.arr (encInt .i64) 3 v30187 l30544 :: Res.arr (encInt .i64) 3 v30174 y30169 :: Res.arr encEdge 66 v32177 l32176 :: Res.arr encBool 4 v30543 z30542 :: H) w' ∧ f' 2 = Value.pointer (some ⟨b29984, 0, none⟩) ∧ f' 7 = Value.pointer (some ⟨b30175, 0, none⟩) ∧ f' 8 = v30187 ∧ f' 86 = v27587 ∧ f' 87 = Value.int .i64 ((x27584.Edges.length : Int)) ∧ f' 88 = Value.int .i64 ((i31291 : Int))) l32176) ?_ ?_
          · rcases ite_some ht32178 with ⟨hc32180, ht32178⟩ | ⟨hc32180, ht32178⟩
            · refine W_cond_t p32073 hc32180 ?_
              refine W_dl (n0 := 17) (.q 0 (.q 1 (.q 2 (.q 3 (.q 4 (.q 5 (.q 6 (.q 7 (.q 8 (.q 9 (.q 10 (.q 11 (.q 12 (.q 13 (.q 14 (.e 15 [0, 1] (.e 16 [] .done))))))))))))))))) hmix (by kernel_rfl) (by kernel_rfl) ?_
              have hS32256 := hS32065.drew
              refine DL_q rfl rfl (Exec.field F26_3 rfl p32067 rfl ⟨rfl, ?_⟩)
              refine DL_q rfl rfl (Exec.load_box ((hS32256).f1) A23 rfl rfl rfl ⟨rfl, ?_⟩)
              refine DL_q rfl rfl (Exec.move (v := v30187) rfl p32068 ⟨rfl, ?_⟩)
              refine DL_q rfl rfl (Exec.field F66_0 rfl p32069 rfl ⟨rfl, ?_⟩)
              refine DL_q rfl rfl (Exec.load_box ((hS32256).f3) A3 rfl rfl rfl ⟨rfl, ?_⟩)
              obtain ⟨x32257, q32258, ht32178⟩ := bind_some ht32178
              obtain ⟨g32259, c32260, e32261⟩ := ((hS32256).f2).arr_at q32258
              refine DL_q rfl rfl (Exec.index_slice S22 rfl e32261 rfl (idx_some q32258).1 (idx_some q32258).2.1 ⟨rfl, ?_⟩)
              refine DL_q rfl rfl (Exec.load_arr (F := (encInt .i64)) ((hS32256).f2) e32261 A3 rfl rfl rfl q32258 (Sub.refl _) ?_)
              intro v32262 q32263
              obtain rfl := encInt_val.1 q32263
              refine ⟨rfl, ?_⟩
              refine DL_q rfl rfl (Exec.field F66_1 rfl p32069 rfl ⟨rfl, ?_⟩)
              refine DL_q rfl rfl (Exec.load_box ((hS32256).f3) A3 rfl rfl rfl ⟨rfl, ?_⟩)
              refine DL_q rfl rfl (Exec.move (v := v30187) rfl p32068 ⟨rfl, ?_⟩)
              refine DL_q rfl rfl (Exec.field F66_2 rfl p32069 rfl ⟨rfl, ?_⟩)
              refine DL_q rfl rfl (Exec.load_box ((hS32256).f3) A3 rfl rfl rfl ⟨rfl, ?_⟩)
              obtain ⟨x32264, q32265, ht32178⟩ := bind_some ht32178
              obtain ⟨g32266, c32267, e32268⟩ := ((hS32256).f2).arr_at q32265
              refine DL_q rfl rfl (Exec.index_slice S22 rfl e32268 rfl (idx_some q32265).1 (idx_some q32265).2.1 ⟨rfl, ?_⟩)
              refine DL_q rfl rfl (Exec.load_arr (F := (encInt .i64)) ((hS32256).f2) e32268 A3 rfl rfl rfl q32265 (Sub.refl _) ?_)
              intro v32269 q32270
              obtain rfl := encInt_val.1 q32270
              refine ⟨rfl, ?_⟩
              refine DL_q rfl rfl (Exec.build rfl (parts_cons (c := [Value.int .i64 (x32257)]) (cells_of rfl rfl) (parts_cons (c := [Value.int .i64 (x31999.Label)]) (cells_of rfl rfl) (parts_cons (c := [Value.int .i64 (x32264)]) (cells_of rfl rfl) parts_nil))) (v := Value.agg #[Value.int .i64 (x32257), Value.int .i64 (x31999.Label), Value.int .i64 (x32264)]) (fun _ => by kernel_rfl) ⟨rfl, ?_⟩)
              refine DL_e rfl rfl (Exec.buildSlice (Te := 66) (cs := [Value.int .i64 (x32257), Value.int .i64 (x31999.Label), Value.int .i64 (x32264)]) hS32256 rfl (parts_cons (c := [Value.int .i64 (x32257), Value.int .i64 (x31999.Label), Value.int .i64 (x32264)]) (cells_of rfl rfl) parts_nil) (fun _ => by kernel_rfl) ?_)
              intro b32271 w32272 hS32273
              refine ⟨(ag_cons (ag_r rfl rfl (Exec.field F26_3 rfl p32067 rfl ⟨rfl, rfl⟩)) (ag_cons (ag_r rfl rfl (Exec.load_box ((hS32273).f2) A23 rfl rfl rfl ⟨rfl, rfl⟩)) ag_nil)), ?_⟩
              obtain ⟨l32274, q32275, ht32178⟩ := bind_some ht32178
              have hS32276 := (hS32273).f6
              refine DL_e rfl rfl (Exec.append_box (E := encEdge) (ys := [(⟨x32257, x31999.Label, x32264⟩ : Edge)]) hS32276 S23 Z66 rfl (by decide) rfl rfl rfl rfl ⟨[Value.int .i64 (x32257), Value.int .i64 (x31999.Label), Value.int .i64 (x32264)], [], rfl, ⟨[Value.int .i64 (x32257)], [Value.int .i64 (x31999.Label), Value.int .i64 (x32264)], rfl, rfl, ⟨[Value.int .i64 (x31999.Label)], [Value.int .i64 (x32264)], rfl, rfl, rfl⟩⟩, rfl⟩ rfl q32275 ?_)
              intro v32277 w32278 hS32279
              refine ⟨ag_nil, ?_⟩
              refine DL_done ?_
              refine WL_step rfl rfl (Exec.field F26_3 rfl p32067 rfl ?_)
              have hS32280 := (hS32279).f2
              refine WL_step rfl rfl (Exec.store_box (ds := [v32277]) (es := [Value.int .i64 (z30541), Value.int .i64 (x31281), v30174, v32277, v30543]) hS32280 A23 rfl rfl rfl (cells_one ((hS32280).f1).arr_one) (one_cons ((hS32280).f1).arr_one one_nil) (Nat.le_of_ble_eq_true rfl) rfl ?_)
              intro w32281 hS32282
              refine WL_nil (at_normal ?_)
              have e32283 := Option.some.inj ht32178
              subst l32176
              have hS32284 := ((hS32282).f4).drop
              have hS32285 := (hS32284).f5
              have hS32286 := (hS32285).f2
              have hS32287 := (hS32286).f5
              have hS32288 := (hS32287).f5
              have hS32289 := (hS32288).f4
              have hS32290 := (hS32289).f5
              exact ⟨s32063, v32277, (PHeap.le_refl _), hS32290, p32066, p32067, p32068, p32070, p32071, p32072⟩
            · refine W_cond_f p32073 hc32180 ?_
              replace hc32180 := not_true hc32180
              refine W_skip (at_normal ?_)
              have e32291 := Option.some.inj ht32178
              subst l32176
              have hS32292 := ((hS32065).f3).drop
              have hS32293 := (hS32292).f5
              have hS32294 := (hS32293).f5
              have hS32295 := (hS32294).f5
              have hS32296 := (hS32295).f5
              have hS32297 := (hS32296).f5
              have hS32298 := (hS32297).f5
              exact ⟨s32063, v31633, (PHeap.le_refl _), hS32298, p32066, p32067, p32068, p32070, p32071, p32072⟩
          · intro f32299 w32300 hM32301
            obtain ⟨s32302, v32177, l32303, hS32304, p32305, p32306, p32307, p32308, p32309, p32310⟩ := hM32301
            refine (ib_normal (at_normal ?_))
            refine W_region ?_
            refine WL_step rfl rfl (Exec.add rfl p32310 rfl ?_)
            refine WL_step rfl rfl (Exec.move (v := Value.int .i64 (IntKind.i64.wrap ((i31291 : Int) + 1))) rfl rfl ?_)
            refine WL_nil (at_normal ?_)
            have e32311 := Option.some.inj hm31977
            subst s31972
            have hS32312 := (hS32304).f5
            have hS32313 := (hS32312).f5
            have hS32314 := (hS32313).f5
            have hS32315 := (hS32314).f5
            have hS32316 := (hS32315).f5
            have hS32317 := (hS32316).f5
            exact ⟨s32302, v32177, (PHeap.le.trans (PHeap.le.trans l31979 l32064) l32303), hS32317, p32305, p32306, p32307, p32308, p32309, (Eq.trans rfl (wrap_up hi31975 (SliceRep.le (a27588.mono (PHeap.le.trans (PHeap.le.trans (PHeap.le.trans (PHeap.le.trans (PHeap.le.trans (PHeap.le.trans l29999 l30124) l30132) l30141) l30150) l30172) l31261)))))⟩
      · intro f32318 w32319 hI32320
        obtain ⟨s32321, v31633, l32322, hS32323, p32324, p32325, p32326, p32327, p32328, x32329⟩ := hI32320
        refine W_seq ?_
        refine W_region ?_
        refine WL_step rfl rfl (Exec.lss rfl x32329 p32328 ?_)
        refine WL_nil (at_normal ?_)
        refine W_seq ?_
        refine W_false (congrArg Value.bool (decide_eq_false (by omega))) ?_
        refine W_exit (at_exit (at_exit (ib_here (at_normal ?_))))
        refine W_seq ?_
        refine W_region ?_
        refine WL_step rfl rfl (Exec.load_box_agg (ds := [Value.int .i64 (z30541), Value.int .i64 (x31281), v30174, v31633, v30543]) ((hS32323).f1) A26 rfl p32325 rfl ?_)
        refine WL_step rfl rfl (Exec.move (v := v30187) rfl p32326 ?_)
        refine WL_step rfl rfl (Exec.store_box (ds := [Value.int .i64 (z30541), Value.int .i64 (x31281), v30174, v31633, v30543]) (es := [Value.int .i64 (z30541), Value.int .i64 (x31281), v30174, v31633, v30543]) hS32323 A26 rfl p32324 rfl rfl (one_cons rfl (one_cons rfl (one_cons ((hS32323).f3).arr_one (one_cons ((hS32323).f4).arr_one (one_cons ((hS32323).f5).arr_one one_nil))))) (Nat.le_of_ble_eq_true rfl) rfl ?_)
        intro w32332 hS32333
        refine WL_step rfl rfl (Exec.assign (v := v30187) rfl rfl ?_)
        refine WL_step rfl rfl (Exec.assign (v := errV 39 (none)) rfl rfl ?_)
        refine WL_nil (at_normal ?_)
        refine W_ret ?_
        have e32335 := Option.some.inj hm
        subst r
        refine ⟨_, retG3 rfl ⟨_, _, p32324, cellRes (hS32333) A26⟩ rfl rfl, ?_⟩
        have hS32336 := (hS32333).f2
        obtain ⟨s32337, l32338, hS32339, r32340⟩ := hS32336.freezeArr
        have hS32341 := (hS32339).f2
        obtain ⟨s32342, l32343, hS32344, r32345⟩ := hS32341.freezeArr
        have hS32346 := (hS32344).f2
        obtain ⟨s32347, l32348, hS32349, r32350⟩ := hS32346.freezeArr
        have hS32351 := (hS32349).f2
        obtain ⟨s32352, l32353, hS32354, r32355⟩ := hS32351.freezeArr
        have hS32356 := (hS32354).drop
        have hS32357 := (hS32356).drop
        exact ⟨s32352, v30187, v30174, v31633, v30543, (PHeap.le.trans (PHeap.le.trans (PHeap.le.trans (PHeap.le.trans (PHeap.le.trans (PHeap.le.trans (PHeap.le.trans (PHeap.le.trans (PHeap.le.trans (PHeap.le.trans (PHeap.le.trans l29999 l30124) l30132) l30141) l30150) l30172) l31261) l32322) l32338) l32343) l32348) l32353), hS32357, (tup3 rfl rfl rfl), (r32340.mono (PHeap.le.trans (PHeap.le.trans l32343 l32348) l32353)), (r32345.mono (PHeap.le.trans l32348 l32353)), (r32350.mono l32353), r32355⟩

theorem S50 : tySlice Try.prog 50 = some (30, 1, 16) := by kernel_rfl

theorem A30 : tyAgg Try.prog 30 = some (false, 1) := by kernel_rfl

theorem ZZ39 : (Try.prog.info? 39).map (·.zero) = some (some (.int .i64 0)) := by kernel_rfl

theorem N15 : (Try.f15.name == "runtime.NumGoroutine") = false := by kernel_rfl

theorem base_Num_sim {w0 w : World} {s : PHeap} {H : List Res} {e32437 : (Option Int)}  {r : Int} (hm : base_Num_p e32437 = some r) (hS : St w0 s (H) w)  :
    Calls Try.prog 15 #[errV 39 (e32437)] w fun e w' => ∃ v, e = .returned v ∧ ((fun (y32441 : Int) => ∃ (s32442 : PHeap) , PHeap.le s s32442 ∧ St w0 s32442 (H) w' ∧ v = Value.int .i64 (y32441)) r) := by
  unfold base_Num_p at hm
  refine calls_of_W Try.func15 rfl rfl ?_
  refine W_seq ?_
  refine W_region ?_
  refine WL_step rfl rfl (Exec.assign (v := Value.int .i64 (0)) rfl rfl ?_)
  refine WL_nil (at_normal ?_)
  refine W_seq ?_
  refine W_seq ?_
  refine W_region ?_
  refine WL_step rfl rfl (Exec.move (v := errV 39 (e32437)) rfl rfl ?_)
  refine WL_step rfl rfl (Exec.err_eql_nil (T := 39) Try.underlying30 rfl rfl rfl ?_)
  refine WL_nil (at_normal ?_)
  rcases ite_some hm with ⟨hc32443, hm⟩ | ⟨hc32443, hm⟩
  · refine W_cond_t rfl hc32443 ?_
    refine W_seq ?_
    refine W_region ?_
    refine WL_step rfl rfl (Exec.assign (v := Value.int .i64 (0)) rfl rfl ?_)
    refine WL_nil (at_normal ?_)
    refine W_ret (at_ret ?_)
    have e32445 := Option.some.inj hm
    subst r
    refine ⟨_, ret1 rfl, ?_⟩
    exact ⟨s, (PHeap.le_refl _), hS, rfl⟩
  · refine W_cond_f rfl hc32443 ?_
    replace hc32443 := not_true hc32443
    refine W_skip (at_normal ?_)
    refine W_seq ?_
    refine W_seq ?_
    refine W_region ?_
    refine WL_step rfl rfl (Exec.move (v := errV 39 (e32437)) rfl rfl ?_)
    refine WL_step rfl rfl (Exec.err_assert Try.underlying39 ZZ39 rfl rfl ?_)
    refine WL_step rfl rfl (Exec.move (v := Value.tuple #[Value.int .i64 (e32437.getD 0), Value.bool (e32437.isSome)]) rfl rfl ?_)
    refine WL_step rfl rfl (Exec.extract (v := Value.int .i64 (e32437.getD 0)) rfl rfl rfl ?_)
    refine WL_step rfl rfl (Exec.extract (v := Value.bool (e32437.isSome)) rfl rfl rfl ?_)
    refine WL_step rfl rfl (Exec.assign (v := Value.int .i64 (e32437.getD 0)) rfl rfl ?_)
    refine WL_step rfl rfl (Exec.assign (v := Value.bool (e32437.isSome)) rfl rfl ?_)
    refine WL_nil (at_normal ?_)
    refine W_seq ?_
    refine W_region ?_
    refine WL_step rfl rfl (Exec.move (v := Value.bool (e32437.isSome)) rfl rfl ?_)
    refine WL_nil (at_normal ?_)
    rcases ite_some hm with ⟨hc32446, hm⟩ | ⟨hc32446, hm⟩
    · refine W_cond_t rfl hc32446 ?_
      refine W_seq ?_
      refine W_region ?_
      refine WL_step rfl rfl (Exec.move (v := Value.int .i64 (e32437.getD 0)) rfl rfl ?_)
      refine WL_step rfl rfl (Exec.assign (v := Value.int .i64 (e32437.getD 0)) rfl rfl ?_)
      refine WL_nil (at_normal ?_)
      refine W_ret (at_ret ?_)
      have e32448 := Option.some.inj hm
      subst r
      refine ⟨_, ret1 rfl, ?_⟩
      exact ⟨s, (PHeap.le_refl _), hS, rfl⟩
    · refine W_cond_f rfl hc32446 ?_
      replace hc32446 := not_true hc32446
      refine W_skip (at_normal ?_)
      refine W_seq ?_
      refine W_region ?_
      refine WL_step rfl rfl (Exec.assign (v := Value.int .i64 ((-1))) rfl rfl ?_)
      refine WL_nil (at_normal ?_)
      refine W_ret ?_
      have e32450 := Option.some.inj hm
      subst r
      refine ⟨_, ret1 rfl, ?_⟩
      exact ⟨s, (PHeap.le_refl _), hS, rfl⟩

theorem N16 : (Try.f16.name == "runtime.NumGoroutine") = false := by kernel_rfl

theorem base_Is_sim {w0 w : World} {s : PHeap} {H : List Res} {e32434 : (Option Int)} {code32435 : Int}  {r : Bool} (hm : base_Is_p e32434 code32435 = some r) (hS : St w0 s (H) w)  :
    Calls Try.prog 16 #[errV 39 (e32434), Value.int .i64 (code32435)] w fun e w' => ∃ v, e = .returned v ∧ ((fun (y32469 : Bool) => ∃ (s32470 : PHeap) , PHeap.le s s32470 ∧ St w0 s32470 (H) w' ∧ v = Value.bool (y32469)) r) := by
  unfold base_Is_p at hm
  refine calls_of_W Try.func16 rfl rfl ?_
  refine W_seq ?_
  refine W_region ?_
  refine WL_step rfl rfl (Exec.assign (v := Value.bool (false)) rfl rfl ?_)
  refine WL_nil (at_normal ?_)
  refine W_seq ?_
  refine W_mid (M := fun f' w' => ∃ (s32476 : PHeap) , PHeap.le s s32476 ∧ St w0 s32476 (H) w' ∧ f' 4 = Value.bool ((e32434.isSome && decide ((base_Num_t e32434) = code32435)))) ?_ ?_
  · refine W_region ?_
    refine WL_step rfl rfl (Exec.move (v := errV 39 (e32434)) rfl rfl ?_)
    refine WL_step rfl rfl (Exec.err_neq_nil (T := 39) Try.underlying30 rfl rfl rfl ?_)
    refine WL_step rfl rfl (Exec.move (v := Value.bool (e32434.isSome)) rfl rfl ?_)
    by_cases hc32477 : e32434.isSome = true
    · refine WL_run rfl (yield_of rfl (congrArg Value.bool hc32477)) rfl (Exec.move (v := errV 39 (e32434)) rfl rfl ?_)
      refine WL_run rfl (yield_of rfl (congrArg Value.bool hc32477)) rfl (Exec.call rfl rfl Try.func15 rfl N15 (args_cons rfl args_nil) ((base_Num_sim (base_Num_tot e32434) hS ).mono ?_))
      rintro _ w32478 ⟨_, rfl, ⟨s32479, l32480, hS32481, rfl⟩⟩
      refine ⟨_, rfl, ?_⟩
      refine WL_run rfl (yield_of rfl (congrArg Value.bool hc32477)) rfl (Exec.move (v := Value.int .i64 (code32435)) rfl rfl ?_)
      refine WL_run rfl (yield_of rfl (congrArg Value.bool hc32477)) rfl (Exec.eql rfl rfl rfl ?_)
      refine WL_step rfl rfl (Exec.pick_t (v := Value.bool (decide ((base_Num_t e32434) = code32435))) rfl (congrArg Value.bool hc32477) rfl ?_)
      refine WL_step rfl rfl (Exec.assign (v := Value.bool (decide ((base_Num_t e32434) = code32435))) rfl rfl ?_)
      refine WL_nil (at_normal ?_)
      exact ⟨s32479, l32480, hS32481, (congrArg Value.bool (and_t hc32477)).symm⟩
    · replace hc32477 := not_true hc32477
      refine WL_pass rfl (yield_of rfl (congrArg Value.bool hc32477)) rfl rfl ?_
      refine WL_pass rfl (yield_of rfl (congrArg Value.bool hc32477)) rfl rfl ?_
      refine WL_pass rfl (yield_of rfl (congrArg Value.bool hc32477)) rfl rfl ?_
      refine WL_pass rfl (yield_of rfl (congrArg Value.bool hc32477)) rfl rfl ?_
      refine WL_step rfl rfl (Exec.pick_f (v := Value.bool (false)) rfl (congrArg Value.bool hc32477) rfl ?_)
      refine WL_step rfl rfl (Exec.assign (v := Value.bool (false)) rfl rfl ?_)
      refine WL_nil (at_normal ?_)
      exact ⟨s, (PHeap.le_refl _), hS, (congrArg Value.bool (and_f hc32477)).symm⟩
  · intro f32482 w32483 hM32484
    obtain ⟨s32485, l32486, hS32487, p32488⟩ := hM32484
    refine (at_normal ?_)
    refine W_ret ?_
    have e32490 := Option.some.inj hm
    subst r
    refine ⟨_, ret1 rfl, ?_⟩
    exact ⟨s32485, l32486, hS32487, p32488⟩

theorem N44 : (Try.f44.name == "runtime.NumGoroutine") = false := by kernel_rfl

theorem api_Edge__f39_sim {w0 w : World} {s : PHeap} {H : List Res} {x33076 : (List Edge)} {target33079 : Edge} {v33077 : Value} {r : Int × Bool} (hm : api_Edge__f39_p x33076 target33079 = some r) (hS : St w0 s (H) w) (a33078 : SliceRep encEdge s v33077 x33076) :
    Calls Try.prog 44 #[v33077, Value.agg #[Value.int .i64 (target33079.From), Value.int .i64 (target33079.Label), Value.int .i64 (target33079.To)], Value.func (.func 39) #[] #[]] w fun e w' => ∃ v, e = .returned v ∧ ((un2 fun (y33561 : Int) (y33562 : Bool) => ∃ (s33563 : PHeap) , PHeap.le s s33563 ∧ St w0 s33563 (H) w' ∧ v = Value.tuple #[Value.int .i64 (y33561), Value.bool (y33562)]) r) := by
  unfold api_Edge__f39_p at hm
  refine calls_of_W Try.func44 rfl rfl ?_
  refine W_seq ?_
  refine W_region ?_
  refine WL_step rfl rfl (Exec.box (cs := [Value.int .i64 (target33079.From), Value.int .i64 (target33079.Label), Value.int .i64 (target33079.To)]) hS rfl rfl rfl ?_)
  intro b33567 w33568 hS33569
  refine WL_step rfl rfl (Exec.assign (v := Value.int .i64 (0)) rfl rfl ?_)
  refine WL_step rfl rfl (Exec.assign (v := Value.bool (false)) rfl rfl ?_)
  refine WL_nil (at_normal ?_)
  refine W_seq ?_
  refine W_region ?_
  refine WL_step rfl rfl (Exec.move (v := v33077) rfl rfl ?_)
  refine WL_step rfl rfl (Exec.len_rep S23 rfl rfl a33078 ?_)
  refine WL_step rfl rfl (Exec.assign (v := Value.int .i64 ((x33076.length : Int))) rfl rfl ?_)
  refine WL_nil (at_normal ?_)
  refine W_seq ?_
  refine W_region ?_
  refine WL_step rfl rfl (Exec.move (v := Value.int .i64 ((x33076.length : Int))) rfl rfl ?_)
  refine WL_step rfl rfl (Exec.assign (v := Value.int .i64 (0)) rfl rfl ?_)
  refine WL_step rfl rfl (Exec.assign (v := Value.int .i64 ((x33076.length : Int))) rfl rfl ?_)
  refine WL_nil (at_normal ?_)
  refine W_seq ?_
  obtain ⟨c33835, hB33836, hr33837, hn33838, hb33839⟩ := ctl_some hm
  refine W_mid (M := fun f' w' => ∃ s', (c33835 = .next s' ∨ c33835 = .brk s') ∧ (un2 fun (i33833 : Int) (j33834 : Int) => ∃ (s33841 : PHeap) , PHeap.le s s33841 ∧ St w0 s33841 (Res.box b33567 66 [Value.int .i64 (target33079.From), Value.int .i64 (target33079.Label), Value.int .i64 (target33079.To)] :: H) w' ∧ f' 0 = v33077 ∧ f' 2 = Value.func (.func 39) #[] #[] ∧ f' 4 = Value.pointer (some ⟨b33567, 0, none⟩) ∧ f' 8 = Value.int .i64 ((x33076.length : Int)) ∧ f' 9 = Value.int .i64 (i33833) ∧ f' 10 = Value.int .i64 (j33834)) s') ?_ ?_
  · refine W_block (W_while (fun s' f' w' => (un2 fun (i33656 : Int) (j33657 : Int) => ∃ (s33840 : PHeap) , PHeap.le s s33840 ∧ St w0 s33840 (Res.box b33567 66 [Value.int .i64 (target33079.From), Value.int .i64 (target33079.Label), Value.int .i64 (target33079.To)] :: H) w' ∧ f' 0 = v33077 ∧ f' 2 = Value.func (.func 39) #[] #[] ∧ f' 4 = Value.pointer (some ⟨b33567, 0, none⟩) ∧ f' 8 = Value.int .i64 ((x33076.length : Int)) ∧ f' 9 = Value.int .i64 (i33656) ∧ f' 10 = Value.int .i64 (j33657)) s') hB33836 ?_ ?_)
    · exact ⟨s, (PHeap.le_refl _), hS33569, rfl, rfl, rfl, rfl, rfl, rfl⟩
    · intro t33849 c33843 f33844 w33845 hI33846 hm33847 hres33848
      obtain ⟨i33656, j33657⟩ := t33849
      replace hm33847 := un2_eq hm33847
      obtain ⟨s33850, l33851, hS33852, p33853, p33854, p33855, p33856, p33857, p33858⟩ := hI33846
      refine W_seq ?_
      refine W_seq ?_
      refine W_region ?_
      refine WL_step rfl rfl (Exec.move (v := Value.int .i64 (i33656)) rfl p33857 ?_)
      refine WL_step rfl rfl (Exec.move (v := Value.int .i64 (j33657)) rfl p33858 ?_)
      refine WL_step rfl rfl (Exec.lss rfl rfl rfl ?_)
      refine WL_nil (at_normal ?_)
      rcases ite_some hm33847 with ⟨hc33859, hm33847⟩ | ⟨hc33859, hm33847⟩
      · refine W_cond_t rfl hc33859 ?_
        refine W_skip (at_normal ?_)
        refine W_block ?_
        refine W_seq ?_
        refine W_region ?_
        refine WL_step rfl rfl (Exec.move (v := Value.int .i64 (i33656)) rfl p33857 ?_)
        refine WL_step rfl rfl (Exec.move (v := Value.int .i64 (j33657)) rfl p33858 ?_)
        refine WL_step rfl rfl (Exec.add rfl rfl rfl ?_)
        refine WL_step rfl rfl (Exec.convert_int (by rw [Try.underlying3]; rfl) Try.underlying96 rfl rfl ?_)
        refine WL_step rfl rfl (Exec.shr_const (n := 1) rfl (by decide) rfl rfl rfl ?_)
        refine WL_step rfl rfl (Exec.convert_int (by rw [Try.underlying96]; rfl) Try.underlying3 rfl rfl ?_)
        refine WL_step rfl rfl (Exec.assign (v := Value.int .i64 (IntKind.i64.wrap ((IntKind.u64.wrap (IntKind.i64.wrap (i33656 + j33657))).fdiv (2 ^ 1)))) rfl rfl ?_)
        refine WL_nil (at_normal ?_)
        refine W_seq ?_
        refine W_dl (n0 := 8) (.q 0 (.q 1 (.q 2 (.q 3 (.q 4 (.q 5 (.e 6 [] (.q 7 .done)))))))) hmix (by kernel_rfl) (by kernel_rfl) ?_
        have hS33908 := hS33852.drew
        refine DL_q rfl rfl (Exec.move (v := Value.func (.func 39) #[] #[]) rfl p33854 ⟨rfl, ?_⟩)
        refine DL_q rfl rfl (Exec.move (v := v33077) rfl p33853 ⟨rfl, ?_⟩)
        refine DL_q rfl rfl (Exec.move (v := Value.int .i64 (IntKind.i64.wrap ((IntKind.u64.wrap (IntKind.i64.wrap (i33656 + j33657))).fdiv (2 ^ 1)))) rfl rfl ⟨rfl, ?_⟩)
        obtain ⟨x33909, q33910, hm33847⟩ := bind_some hm33847
        refine DL_q rfl rfl (Exec.index_repE S23 rfl rfl rfl (a33078.mono l33851) q33910 ?_)
        intro b33911 o33912 a33913 e33914
        refine ⟨rfl, ?_⟩
        refine DL_q rfl rfl (Exec.load_at (E := encEdge) hS33908 A66 rfl rfl rfl a33913 ?_)
        intro v33915 q33916
        obtain rfl := encEdge_val.1 q33916
        refine ⟨rfl, ?_⟩
        refine DL_q rfl rfl (Exec.load_box_agg (ds := [Value.int .i64 (target33079.From), Value.int .i64 (target33079.Label), Value.int .i64 (target33079.To)]) (hS33908) A66 rfl p33855 rfl ⟨rfl, ?_⟩)
        obtain ⟨y33919, q33918, hm33847⟩ := bind_some hm33847
        refine DL_e rfl rfl (Exec.callf rfl rfl Try.func39 rfl N39 (args_cons rfl (args_cons rfl args_nil)) ((transys_compare_sim q33918 hS33908 ).mono ?_))
        rintro _ w33920 ⟨_, rfl, ⟨s33921, l33922, hS33923, rfl⟩⟩
        refine ⟨_, rfl, ?_⟩
        refine ⟨ag_nil, ?_⟩
        refine DL_q rfl rfl (Exec.lss rfl rfl rfl ⟨rfl, ?_⟩)
        refine DL_done ?_
        refine WL_nil (at_normal ?_)
        obtain ⟨t33926, ht33927, hm33847⟩ := bind_some hm33847
        refine W_mid (M := fun f' w' => (un2 fun (i33924 : Int) (j33925 : Int) => ∃ (s33928 : PHeap) , PHeap.le s33921 s33928 ∧ St w0 s33928 (Res.box b33567 66 [Value.int .i64 (target33079.From), Value.int .i64 (target33079.Label), Value.int .i64 (target33079.To)] :: H) w' ∧ f' 0 = v33077 ∧ f' 2 = Value.func (.func 39) #[] #[] ∧ f' 4 = Value.pointer (some ⟨b33567, 0, none⟩) ∧ f' 8 = Value.int .i64 ((x33076.length : Int)) ∧ f' 9 = Value.int .i64 (i33924) ∧ f' 10 = Value.int .i64 (j33925)) t33926) ?_ ?_
        · rcases ite_some ht33927 with ⟨hc33929, ht33927⟩ | ⟨hc33929, ht33927⟩
          · refine W_cond_t rfl hc33929 ?_
            refine W_region ?_
            refine WL_step rfl rfl (Exec.move (v := Value.int .i64 (IntKind.i64.wrap ((IntKind.u64.wrap (IntKind.i64.wrap (i33656 + j33657))).fdiv (2 ^ 1)))) rfl rfl ?_)
            refine WL_step rfl rfl (Exec.add rfl rfl rfl ?_)
            refine WL_step rfl rfl (Exec.assign (v := Value.int .i64 (IntKind.i64.wrap ((IntKind.i64.wrap ((IntKind.u64.wrap (IntKind.i64.wrap (i33656 + j33657))).fdiv (2 ^ 1))) + 1))) rfl rfl ?_)
            refine WL_nil (at_normal ?_)
            have e33930 := Option.some.inj ht33927
            subst t33926
            exact ⟨s33921, (PHeap.le_refl _), hS33923, p33853, p33854, p33855, p33856, rfl, p33858⟩
          · refine W_cond_f rfl hc33929 ?_
            replace hc33929 := not_true hc33929
            refine W_region ?_
            refine WL_step rfl rfl (Exec.move (v := Value.int .i64 (IntKind.i64.wrap ((IntKind.u64.wrap (IntKind.i64.wrap (i33656 + j33657))).fdiv (2 ^ 1)))) rfl rfl ?_)
            refine WL_step rfl rfl (Exec.assign (v := Value.int .i64 (IntKind.i64.wrap ((IntKind.u64.wrap (IntKind.i64.wrap (i33656 + j33657))).fdiv (2 ^ 1)))) rfl rfl ?_)
            refine WL_nil (at_normal ?_)
            have e33931 := Option.some.inj ht33927
            subst t33926
            exact ⟨s33921, (PHeap.le_refl _), hS33923, p33853, p33854, p33855, p33856, p33857, rfl⟩
        · intro f33932 w33933 hM33934
          obtain ⟨i33924, j33925⟩ := t33926
          replace hm33847 := un2_eq hm33847
          obtain ⟨s33935, l33936, hS33937, p33938, p33939, p33940, p33941, p33942, p33943⟩ := hM33934
          refine (ib_normal (at_normal ?_))
          have e33944 := Option.some.inj hm33847
          subst c33843
          refine ⟨_, rfl, ?_⟩; exact ⟨s33935, (PHeap.le.trans (PHeap.le.trans l33851 l33922) l33936), hS33937, p33938, p33939, p33940, p33941, p33942, p33943⟩
      · refine W_cond_f rfl hc33859 ?_
        replace hc33859 := not_true hc33859
        refine W_exit (at_exit (at_exit (ib_here (at_normal ?_))))
        have e33945 := Option.some.inj hm33847
        subst c33843
        refine ⟨_, .inr (hres33848 (by intro _ h; cases h)), ?_⟩; exact ⟨s33850, l33851, hS33852, p33853, p33854, p33855, p33856, p33857, p33858⟩
  · rintro f33946 w33947 ⟨t33948, hc33949, hM33950⟩
    have hm := hc33949.elim (hn33838 _) (hb33839 _)
    clear hc33949
    obtain ⟨i33833, j33834⟩ := t33948
    replace hm := un2_eq hm
    obtain ⟨s33951, l33952, hS33953, p33954, p33955, p33956, p33957, p33958, p33959⟩ := hM33950
    refine (at_normal ?_)
    refine W_seq ?_
    obtain ⟨z33994, ht33995, hm⟩ := bind_some hm
    refine W_mid (M := fun f' w' => (fun (z33994 : Bool) => ∃ (s33996 : PHeap) , PHeap.le s33951 s33996 ∧ St w0 s33996 (H) w' ∧ f' 6 = Value.int .i64 (i33833) ∧ f' 7 = Value.bool (z33994)) z33994) ?_ ?_
    · refine W_dl (n0 := 15) (.q 0 (.q 1 (.q 2 (.q 3 (.q 4 (.q 5 (.q 6 (.q 7 (.q 8 (.q 9 (.q 10 (.e 11 [0] (.q 12 (.q 13 (.q 14 .done))))))))))))))) hmix (by kernel_rfl) (by kernel_rfl) ?_
      have hS34014 := hS33953.drew
      refine DL_q rfl rfl (Exec.move (v := Value.int .i64 (i33833)) rfl p33958 ⟨rfl, ?_⟩)
      refine DL_q rfl rfl (Exec.move (v := Value.int .i64 (i33833)) rfl p33958 ⟨rfl, ?_⟩)
      refine DL_q rfl rfl (Exec.move (v := Value.int .i64 ((x33076.length : Int))) rfl p33957 ⟨rfl, ?_⟩)
      refine DL_q rfl rfl (Exec.lss rfl rfl rfl ⟨rfl, ?_⟩)
      refine DL_q rfl rfl (Exec.move (v := Value.bool (decide (i33833 < (x33076.length : Int)))) rfl rfl ⟨rfl, ?_⟩)
      rcases ite_some ht33995 with ⟨hc34015, ht33995⟩ | ⟨hc34015, ht33995⟩
      · refine DL_qg rfl rfl (yield_of rfl (congrArg Value.bool hc34015)) (Exec.move (v := Value.func (.func 39) #[] #[]) rfl p33955 ⟨rfl, ?_⟩)
        refine DL_qg rfl rfl (yield_of rfl (congrArg Value.bool hc34015)) (Exec.move (v := v33077) rfl p33954 ⟨rfl, ?_⟩)
        refine DL_qg rfl rfl (yield_of rfl (congrArg Value.bool hc34015)) (Exec.move (v := Value.int .i64 (i33833)) rfl p33958 ⟨rfl, ?_⟩)
        obtain ⟨x34016, q34017, ht33995⟩ := bind_some ht33995
        refine DL_qg rfl rfl (yield_of rfl (congrArg Value.bool hc34015)) (Exec.index_repE S23 rfl rfl rfl (a33078.mono l33952) q34017 ?_)
        intro b34018 o34019 a34020 e34021
        refine ⟨rfl, ?_⟩
        refine DL_qg rfl rfl (yield_of rfl (congrArg Value.bool hc34015)) (Exec.load_at (E := encEdge) hS34014 A66 rfl rfl rfl a34020 ?_)
        intro v34022 q34023
        obtain rfl := encEdge_val.1 q34023
        refine ⟨rfl, ?_⟩
        refine DL_qg rfl rfl (yield_of rfl (congrArg Value.bool hc34015)) (Exec.load_box_agg (ds := [Value.int .i64 (target33079.From), Value.int .i64 (target33079.Label), Value.int .i64 (target33079.To)]) (hS34014) A66 rfl p33956 rfl ⟨rfl, ?_⟩)
        obtain ⟨y34026, q34025, ht33995⟩ := bind_some ht33995
        refine DL_eg rfl rfl (yield_of rfl (congrArg Value.bool hc34015)) (Exec.callf rfl rfl Try.func39 rfl N39 (args_cons rfl (args_cons rfl args_nil)) ((transys_compare_sim q34025 hS34014 ).mono ?_))
        rintro _ w34027 ⟨_, rfl, ⟨s34028, l34029, hS34030, rfl⟩⟩
        refine ⟨_, rfl, ?_⟩
        refine ⟨(ag_cons (ag_r rfl rfl (Exec.move (v := Value.int .i64 (i33833)) rfl p33958 ⟨rfl, rfl⟩)) ag_nil), ?_⟩
        refine DL_qg rfl rfl (yield_of rfl (congrArg Value.bool hc34015)) (Exec.eql rfl rfl rfl ⟨rfl, ?_⟩)
        refine DL_q rfl rfl (Exec.pick_t (v := Value.bool (decide (y34026 = 0))) rfl (congrArg Value.bool hc34015) rfl ⟨rfl, ?_⟩)
        refine DL_q rfl rfl (Exec.assign (v := Value.int .i64 (i33833)) rfl rfl ⟨rfl, ?_⟩)
        refine DL_done ?_
        refine WL_step rfl rfl (Exec.assign (v := Value.bool (decide (y34026 = 0))) rfl rfl ?_)
        refine WL_nil (at_normal ?_)
        have e34031 := Option.some.inj ht33995
        subst z33994
        have hS34032 := (hS34030).drop
        exact ⟨s34028, l34029, hS34032, rfl, rfl⟩
      · replace hc34015 := not_true hc34015
        refine DL_qp rfl rfl (yield_of rfl (congrArg Value.bool hc34015)) rfl ?_
        refine DL_qp rfl rfl (yield_of rfl (congrArg Value.bool hc34015)) rfl ?_
        refine DL_qp rfl rfl (yield_of rfl (congrArg Value.bool hc34015)) rfl ?_
        refine DL_qp rfl rfl (yield_of rfl (congrArg Value.bool hc34015)) rfl ?_
        refine DL_qp rfl rfl (yield_of rfl (congrArg Value.bool hc34015)) rfl ?_
        refine DL_qp rfl rfl (yield_of rfl (congrArg Value.bool hc34015)) rfl ?_
        refine DL_ep rfl rfl (yield_of rfl (congrArg Value.bool hc34015)) rfl ?_
        refine DL_qp rfl rfl (yield_of rfl (congrArg Value.bool hc34015)) rfl ?_
        refine DL_q rfl rfl (Exec.pick_f (v := Value.bool (false)) rfl (congrArg Value.bool hc34015) rfl ⟨rfl, ?_⟩)
        refine DL_q rfl rfl (Exec.assign (v := Value.int .i64 (i33833)) rfl rfl ⟨rfl, ?_⟩)
        refine DL_done ?_
        refine WL_step rfl rfl (Exec.assign (v := Value.bool (false)) rfl rfl ?_)
        refine WL_nil (at_normal ?_)
        have e34033 := Option.some.inj ht33995
        subst z33994
        have hS34034 := (hS34014).drop
        exact ⟨s33951, (PHeap.le_refl _), hS34034, rfl, rfl⟩
    · intro f34035 w34036 hM34037
      obtain ⟨s34038, l34039, hS34040, p34041, p34042⟩ := hM34037
      refine (at_normal ?_)
      refine W_ret ?_
      have e34044 := Option.some.inj hm
      subst r
      refine ⟨_, ret2 rfl, ?_⟩
      exact ⟨s34038, (PHeap.le.trans l33952 l34039), hS34040, (tup2 p34041 p34042)⟩

theorem N27 : (Try.f27.name == "runtime.NumGoroutine") = false := by kernel_rfl

theorem transys_Simulates_sim {w0 w : World} {s : PHeap} {H : List Res} {a32604 : System} {b32611 : System} {to32618 : (List Int)} {v32605 : Value} {v32607 : Value} {v32609 : Value} {v32612 : Value} {v32614 : Value} {v32616 : Value} {v32619 : Value} {r : Bool} (hm : transys_Simulates_p a32604 b32611 to32618 = some r) (hS : St w0 s (H) w) (a32606 : SliceRep (encInt .i64) s v32605 a32604.Costs) (a32608 : SliceRep encEdge s v32607 a32604.Edges) (a32610 : SliceRep encBool s v32609 a32604.Goals) (a32613 : SliceRep (encInt .i64) s v32612 b32611.Costs) (a32615 : SliceRep encEdge s v32614 b32611.Edges) (a32617 : SliceRep encBool s v32616 b32611.Goals) (a32620 : SliceRep (encInt .i64) s v32619 to32618) :
    Calls Try.prog 27 #[Value.agg #[Value.int .i64 (a32604.States), Value.int .i64 (a32604.Init), v32605, v32607, v32609], Value.agg #[Value.int .i64 (b32611.States), Value.int .i64 (b32611.Init), v32612, v32614, v32616], v32619] w fun e w' => ∃ v, e = .returned v ∧ ((fun (y34433 : Bool) => ∃ (s34434 : PHeap) , PHeap.le s s34434 ∧ St w0 s34434 (H) w' ∧ v = Value.bool (y34433)) r) := by
  unfold transys_Simulates_p at hm
  refine calls_of_W Try.func27 rfl rfl ?_
  refine W_seq ?_
  refine W_region ?_
  refine WL_step rfl rfl (Exec.box (cs := [Value.int .i64 (a32604.States), Value.int .i64 (a32604.Init), v32605, v32607, v32609]) hS rfl rfl rfl ?_)
  intro b34441 w34442 hS34443
  refine WL_step rfl rfl (Exec.box (cs := [Value.int .i64 (b32611.States), Value.int .i64 (b32611.Init), v32612, v32614, v32616]) hS34443 rfl rfl rfl ?_)
  intro b34444 w34445 hS34446
  refine WL_step rfl rfl (Exec.assign (v := Value.bool (false)) rfl rfl ?_)
  refine WL_nil (at_normal ?_)
  refine W_seq ?_
  refine W_seq ?_
  obtain ⟨z34471, ht34472, hm⟩ := bind_some hm
  refine W_mid (M := fun f' w' => (fun (z34471 : Bool) => ∃ (s34473 : PHeap) , PHeap.le s s34473 ∧ St w0 s34473 (Res.box b34441 26 [Value.int .i64 (a32604.States), Value.int .i64 (a32604.Init), v32605, v32607, v32609] :: Res.box b34444 26 [Value.int .i64 (b32611.States), Value.int .i64 (b32611.Init), v32612, v32614, v32616] :: H) w' ∧ f' 2 = v32619 ∧ f' 3 = Value.pointer (some ⟨b34441, 0, none⟩) ∧ f' 4 = Value.pointer (some ⟨b34444, 0, none⟩) ∧ f' 35 = Value.bool (z34471)) z34471) ?_ ?_
  · refine W_region ?_
    refine WL_step rfl rfl (Exec.load_box_agg (ds := [Value.int .i64 (a32604.States), Value.int .i64 (a32604.Init), v32605, v32607, v32609]) ((hS34446).f1) A26 rfl rfl rfl ?_)
    obtain ⟨y34476, q34475, ht34472⟩ := bind_some ht34472
    refine WL_step rfl rfl (Exec.call rfl rfl Try.func25 rfl N25 (args_cons rfl args_nil) ((transys_Valid_sim q34475 hS34446 a32606 a32608 a32610).mono ?_))
    rintro _ w34477 ⟨_, rfl, ⟨s34478, l34479, hS34480, rfl⟩⟩
    refine ⟨_, rfl, ?_⟩
    refine WL_step rfl rfl (Exec.not rfl rfl ?_)
    refine WL_step rfl rfl (Exec.move (v := Value.bool (!y34476)) rfl rfl ?_)
    rcases ite_some ht34472 with ⟨hc34481, ht34472⟩ | ⟨hc34481, ht34472⟩
    · refine WL_pass rfl (yield_of rfl (congrArg Value.bool hc34481)) rfl rfl ?_
      refine WL_pass rfl (yield_of rfl (congrArg Value.bool hc34481)) rfl rfl ?_
      refine WL_pass rfl (yield_of rfl (congrArg Value.bool hc34481)) rfl rfl ?_
      refine WL_step rfl rfl (Exec.pick_t (v := Value.bool (true)) rfl (congrArg Value.bool hc34481) rfl ?_)
      refine WL_step rfl rfl (Exec.move (v := Value.bool (true)) rfl rfl ?_)
      refine WL_pass rfl (yield_of rfl rfl) rfl rfl ?_
      refine WL_pass rfl (yield_of rfl rfl) rfl rfl ?_
      refine WL_pass rfl (yield_of rfl rfl) rfl rfl ?_
      refine WL_pass rfl (yield_of rfl rfl) rfl rfl ?_
      refine WL_pass rfl (yield_of rfl rfl) rfl rfl ?_
      refine WL_pass rfl (yield_of rfl rfl) rfl rfl ?_
      refine WL_step rfl rfl (Exec.pick_t (v := Value.bool (true)) rfl rfl rfl ?_)
      refine WL_step rfl rfl (Exec.move (v := Value.bool (true)) rfl rfl ?_)
      refine WL_pass rfl (yield_of rfl rfl) rfl rfl ?_
      refine WL_pass rfl (yield_of rfl rfl) rfl rfl ?_
      refine WL_pass rfl (yield_of rfl rfl) rfl rfl ?_
      refine WL_pass rfl (yield_of rfl rfl) rfl rfl ?_
      refine WL_pass rfl (yield_of rfl rfl) rfl rfl ?_
      refine WL_step rfl rfl (Exec.pick_t (v := Value.bool (true)) rfl rfl rfl ?_)
      refine WL_nil (at_normal ?_)
      have e34482 := Option.some.inj ht34472
      subst z34471
      have hS34483 := (hS34480).f1
      exact ⟨s34478, l34479, hS34483, rfl, rfl, rfl, rfl⟩
    · replace hc34481 := not_true hc34481
      refine WL_run rfl (yield_of rfl (congrArg Value.bool hc34481)) rfl (Exec.load_box_agg (ds := [Value.int .i64 (b32611.States), Value.int .i64 (b32611.Init), v32612, v32614, v32616]) (hS34480) A26 rfl rfl rfl ?_)
      obtain ⟨y34486, q34485, ht34472⟩ := bind_some ht34472
      refine WL_run rfl (yield_of rfl (congrArg Value.bool hc34481)) rfl (Exec.call rfl rfl Try.func25 rfl N25 (args_cons rfl args_nil) ((transys_Valid_sim q34485 hS34480 (a32613.mono l34479) (a32615.mono l34479) (a32617.mono l34479)).mono ?_))
      rintro _ w34487 ⟨_, rfl, ⟨s34488, l34489, hS34490, rfl⟩⟩
      refine ⟨_, rfl, ?_⟩
      refine WL_run rfl (yield_of rfl (congrArg Value.bool hc34481)) rfl (Exec.not rfl rfl ?_)
      refine WL_step rfl rfl (Exec.pick_f (v := Value.bool (!y34486)) rfl (congrArg Value.bool hc34481) rfl ?_)
      refine WL_step rfl rfl (Exec.move (v := Value.bool (!y34486)) rfl rfl ?_)
      rcases ite_some ht34472 with ⟨hc34491, ht34472⟩ | ⟨hc34491, ht34472⟩
      · refine WL_pass rfl (yield_of rfl (congrArg Value.bool hc34491)) rfl rfl ?_
        refine WL_pass rfl (yield_of rfl (congrArg Value.bool hc34491)) rfl rfl ?_
        refine WL_pass rfl (yield_of rfl (congrArg Value.bool hc34491)) rfl rfl ?_
        refine WL_pass rfl (yield_of rfl (congrArg Value.bool hc34491)) rfl rfl ?_
        refine WL_pass rfl (yield_of rfl (congrArg Value.bool hc34491)) rfl rfl ?_
        refine WL_pass rfl (yield_of rfl (congrArg Value.bool hc34491)) rfl rfl ?_
        refine WL_step rfl rfl (Exec.pick_t (v := Value.bool (true)) rfl (congrArg Value.bool hc34491) rfl ?_)
        refine WL_step rfl rfl (Exec.move (v := Value.bool (true)) rfl rfl ?_)
        refine WL_pass rfl (yield_of rfl rfl) rfl rfl ?_
        refine WL_pass rfl (yield_of rfl rfl) rfl rfl ?_
        refine WL_pass rfl (yield_of rfl rfl) rfl rfl ?_
        refine WL_pass rfl (yield_of rfl rfl) rfl rfl ?_
        refine WL_pass rfl (yield_of rfl rfl) rfl rfl ?_
        refine WL_step rfl rfl (Exec.pick_t (v := Value.bool (true)) rfl rfl rfl ?_)
        refine WL_nil (at_normal ?_)
        have e34492 := Option.some.inj ht34472
        subst z34471
        have hS34493 := (hS34490).f1
        exact ⟨s34488, (PHeap.le.trans l34479 l34489), hS34493, rfl, rfl, rfl, rfl⟩
      · replace hc34491 := not_true hc34491
        refine WL_run rfl (yield_of rfl (congrArg Value.bool hc34491)) rfl (Exec.field F26_2 rfl rfl rfl ?_)
        refine WL_run rfl (yield_of rfl (congrArg Value.bool hc34491)) rfl (Exec.load_box ((hS34490).f1) A22 rfl rfl rfl ?_)
        refine WL_run rfl (yield_of rfl (congrArg Value.bool hc34491)) rfl (Exec.field F26_2 rfl rfl rfl ?_)
        refine WL_run rfl (yield_of rfl (congrArg Value.bool hc34491)) rfl (Exec.load_box (hS34490) A22 rfl rfl rfl ?_)
        obtain ⟨y34496, q34495, ht34472⟩ := bind_some ht34472
        refine WL_run rfl (yield_of rfl (congrArg Value.bool hc34491)) rfl (Exec.call rfl rfl Try.func35 rfl N35 (args_cons rfl (args_cons rfl args_nil)) ((slices_Equal___int_int__sim q34495 hS34490 (a32606.mono (PHeap.le.trans l34479 l34489)) (a32613.mono (PHeap.le.trans l34479 l34489))).mono ?_))
        rintro _ w34497 ⟨_, rfl, ⟨s34498, l34499, hS34500, rfl⟩⟩
        refine ⟨_, rfl, ?_⟩
        refine WL_run rfl (yield_of rfl (congrArg Value.bool hc34491)) rfl (Exec.not rfl rfl ?_)
        refine WL_step rfl rfl (Exec.pick_f (v := Value.bool (!y34496)) rfl (congrArg Value.bool hc34491) rfl ?_)
        refine WL_step rfl rfl (Exec.move (v := Value.bool (!y34496)) rfl rfl ?_)
        rcases ite_some ht34472 with ⟨hc34501, ht34472⟩ | ⟨hc34501, ht34472⟩
        · refine WL_pass rfl (yield_of rfl (congrArg Value.bool hc34501)) rfl rfl ?_
          refine WL_pass rfl (yield_of rfl (congrArg Value.bool hc34501)) rfl rfl ?_
          refine WL_pass rfl (yield_of rfl (congrArg Value.bool hc34501)) rfl rfl ?_
          refine WL_pass rfl (yield_of rfl (congrArg Value.bool hc34501)) rfl rfl ?_
          refine WL_pass rfl (yield_of rfl (congrArg Value.bool hc34501)) rfl rfl ?_
          refine WL_step rfl rfl (Exec.pick_t (v := Value.bool (true)) rfl (congrArg Value.bool hc34501) rfl ?_)
          refine WL_nil (at_normal ?_)
          have e34502 := Option.some.inj ht34472
          subst z34471
          have hS34503 := (hS34500).f1
          exact ⟨s34498, (PHeap.le.trans (PHeap.le.trans l34479 l34489) l34499), hS34503, rfl, rfl, rfl, rfl⟩
        · replace hc34501 := not_true hc34501
          refine WL_run rfl (yield_of rfl (congrArg Value.bool hc34501)) rfl (Exec.move (v := v32619) rfl rfl ?_)
          refine WL_run rfl (yield_of rfl (congrArg Value.bool hc34501)) rfl (Exec.len_rep S22 rfl rfl (a32620.mono (PHeap.le.trans (PHeap.le.trans l34479 l34489) l34499)) ?_)
          refine WL_run rfl (yield_of rfl (congrArg Value.bool hc34501)) rfl (Exec.field F26_0 rfl rfl rfl ?_)
          refine WL_run rfl (yield_of rfl (congrArg Value.bool hc34501)) rfl (Exec.load_box ((hS34500).f1) A3 rfl rfl rfl ?_)
          refine WL_run rfl (yield_of rfl (congrArg Value.bool hc34501)) rfl (Exec.neq rfl rfl rfl ?_)
          refine WL_step rfl rfl (Exec.pick_f (v := Value.bool (!decide ((to32618.length : Int) = a32604.States))) rfl (congrArg Value.bool hc34501) rfl ?_)
          refine WL_nil (at_normal ?_)
          have e34504 := Option.some.inj ht34472
          subst z34471
          have hS34505 := (hS34500).f1
          exact ⟨s34498, (PHeap.le.trans (PHeap.le.trans l34479 l34489) l34499), hS34505, rfl, rfl, rfl, rfl⟩
  · intro f34506 w34507 hM34508
    obtain ⟨s34509, l34510, hS34511, p34512, p34513, p34514, p34515⟩ := hM34508
    refine (at_normal ?_)
    rcases ite_some hm with ⟨hc34516, hm⟩ | ⟨hc34516, hm⟩
    · refine W_cond_t p34515 hc34516 ?_
      refine W_seq ?_
      refine W_region ?_
      refine WL_step rfl rfl (Exec.assign (v := Value.bool (false)) rfl rfl ?_)
      refine WL_nil (at_normal ?_)
      refine W_ret (at_ret ?_)
      have e34518 := Option.some.inj hm
      subst r
      refine ⟨_, ret1 rfl, ?_⟩
      have hS34519 := (hS34511).drop
      have hS34520 := (hS34519).drop
      exact ⟨s34509, l34510, hS34520, rfl⟩
    · refine W_cond_f p34515 hc34516 ?_
      replace hc34516 := not_true hc34516
      refine W_skip (at_normal ?_)
      refine W_seq ?_
      refine W_seq ?_
      refine W_region ?_
      refine WL_step rfl rfl (Exec.move (v := v32619) rfl p34512 ?_)
      refine WL_step rfl rfl (Exec.len_rep S22 rfl rfl (a32620.mono l34510) ?_)
      refine WL_step rfl rfl (Exec.move (v := Value.int .i64 (0)) rfl rfl ?_)
      refine WL_nil (at_normal ?_)
      obtain ⟨c34678, hB34679, hr34680, hn34681, hb34682⟩ := ctl_some hm
      refine W_mid (M := fun f' w' => ∃ s', (c34678 = .next s' ∨ c34678 = .brk s') ∧ (fun (_ : Unit) => ∃ (s34684 : PHeap) , PHeap.le s34509 s34684 ∧ St w0 s34684 (Res.box b34441 26 [Value.int .i64 (a32604.States), Value.int .i64 (a32604.Init), v32605, v32607, v32609] :: Res.box b34444 26 [Value.int .i64 (b32611.States), Value.int .i64 (b32611.Init), v32612, v32614, v32616] :: H) w' ∧ f' 2 = v32619 ∧ f' 3 = Value.pointer (some ⟨b34441, 0, none⟩) ∧ f' 4 = Value.pointer (some ⟨b34444, 0, none⟩) ∧ f' 36 = v32619 ∧ f' 37 = Value.int .i64 ((to32618.length : Int))) s') ?_ ?_
      · refine W_block (W_forC (fun k' s' f' w' => (fun (_ : Unit) => ∃ (s34683 : PHeap) , PHeap.le s34509 s34683 ∧ St w0 s34683 (Res.box b34441 26 [Value.int .i64 (a32604.States), Value.int .i64 (a32604.Init), v32605, v32607, v32609] :: Res.box b34444 26 [Value.int .i64 (b32611.States), Value.int .i64 (b32611.Init), v32612, v32614, v32616] :: H) w' ∧ f' 2 = v32619 ∧ f' 3 = Value.pointer (some ⟨b34441, 0, none⟩) ∧ f' 4 = Value.pointer (some ⟨b34444, 0, none⟩) ∧ f' 36 = v32619 ∧ f' 37 = Value.int .i64 ((to32618.length : Int)) ∧ f' 38 = Value.int .i64 (k' : Int)) s') hB34679 ?_ ?_ ?_)
        · have hS34685 := (hS34511).f1
          have hS34686 := (hS34685).f1
          exact ⟨s34509, (PHeap.le_refl _), hS34686, p34512, p34513, p34514, rfl, rfl, rfl⟩
        · intro i34521 t34694 c34688 f34689 w34690 hi34695 hI34691 hm34692 hres34693
          obtain ⟨s34696, l34697, hS34698, p34699, p34700, p34701, p34702, p34703, x34704⟩ := hI34691
          refine W_seq ?_
          refine W_region ?_
          refine WL_step rfl rfl (Exec.lss rfl x34704 p34703 ?_)
          refine WL_nil (at_normal ?_)
          refine W_seq ?_
          refine W_true (congrArg Value.bool (decide_eq_true (by omega))) ?_
          refine W_skip (at_normal ?_)
          refine W_seq ?_
          refine W_block ?_
          refine W_seq ?_
          refine W_region ?_
          refine WL_step rfl rfl (Exec.move (v := Value.int .i64 ((i34521 : Int))) rfl x34704 ?_)
          obtain ⟨x34712, q34713, hm34692⟩ := bind_some hm34692
          refine WL_step rfl rfl (Exec.index_rep S22 rfl p34702 x34704 (a32620.mono (PHeap.le.trans l34510 l34697)) q34713 ?_)
          intro b34714 o34715 a34716
          refine WL_step rfl rfl (Exec.load_at (E := (encInt .i64)) hS34698 A3 rfl rfl rfl a34716 ?_)
          intro v34717 q34718
          obtain rfl := encInt_val.1 q34718
          refine WL_step rfl rfl (Exec.assign (v := Value.int .i64 ((i34521 : Int))) rfl rfl ?_)
          refine WL_step rfl rfl (Exec.assign (v := Value.int .i64 (x34712)) rfl rfl ?_)
          refine WL_nil (at_normal ?_)
          refine W_seq ?_
          obtain ⟨z34736, ht34737, hm34692⟩ := bind_some hm34692
          refine W_mid (M := fun f' w' => (fun (z34736 : Bool) => ∃ (s34738 : PHeap) , PHeap.le s34696 s34738 ∧ St w0 s34738 (Res.box b34441 26 [Value.int .i64 (a32604.States), Value.int .i64 (a32604.Init), v32605, v32607, v32609] :: Res.box b34444 26 [Value.int .i64 (b32611.States), Value.int .i64 (b32611.Init), v32612, v32614, v32616] :: H) w' ∧ f' 2 = v32619 ∧ f' 3 = Value.pointer (some ⟨b34441, 0, none⟩) ∧ f' 4 = Value.pointer (some ⟨b34444, 0, none⟩) ∧ f' 36 = v32619 ∧ f' 37 = Value.int .i64 ((to32618.length : Int)) ∧ f' 38 = Value.int .i64 ((i34521 : Int)) ∧ f' 65 = Value.bool (z34736)) z34736) ?_ ?_
          · refine W_region ?_
            refine WL_step rfl rfl (Exec.move (v := Value.int .i64 (x34712)) rfl rfl ?_)
            refine WL_step rfl rfl (Exec.lss rfl rfl rfl ?_)
            refine WL_step rfl rfl (Exec.move (v := Value.bool (decide (x34712 < 0))) rfl rfl ?_)
            rcases ite_some ht34737 with ⟨hc34739, ht34737⟩ | ⟨hc34739, ht34737⟩
            · refine WL_pass rfl (yield_of rfl (congrArg Value.bool hc34739)) rfl rfl ?_
              refine WL_pass rfl (yield_of rfl (congrArg Value.bool hc34739)) rfl rfl ?_
              refine WL_pass rfl (yield_of rfl (congrArg Value.bool hc34739)) rfl rfl ?_
              refine WL_pass rfl (yield_of rfl (congrArg Value.bool hc34739)) rfl rfl ?_
              refine WL_step rfl rfl (Exec.pick_t (v := Value.bool (true)) rfl (congrArg Value.bool hc34739) rfl ?_)
              refine WL_step rfl rfl (Exec.move (v := Value.bool (true)) rfl rfl ?_)
              refine WL_pass rfl (yield_of rfl rfl) rfl rfl ?_
              refine WL_pass rfl (yield_of rfl rfl) rfl rfl ?_
              refine WL_pass rfl (yield_of rfl rfl) rfl rfl ?_
              refine WL_pass rfl (yield_of rfl rfl) rfl rfl ?_
              refine WL_pass rfl (yield_of rfl rfl) rfl rfl ?_
              refine WL_pass rfl (yield_of rfl rfl) rfl rfl ?_
              refine WL_pass_none rfl (yield_undef rfl rfl) rfl ?_
              refine WL_pass_none rfl (yield_undef rfl rfl) rfl ?_
              refine WL_pass_none rfl (yield_undef rfl rfl) rfl ?_
              refine WL_pass_none rfl (yield_undef rfl rfl) rfl ?_
              refine WL_pass_none rfl (yield_undef rfl rfl) rfl ?_
              refine WL_pass_none rfl (yield_undef rfl rfl) rfl ?_
              refine WL_pass rfl (yield_of rfl rfl) rfl rfl ?_
              refine WL_step rfl rfl (Exec.pick_t (v := Value.bool (true)) rfl rfl rfl ?_)
              refine WL_nil (at_normal ?_)
              have e34740 := Option.some.inj ht34737
              subst z34736
              have hS34741 := (hS34698).f1
              have hS34742 := (hS34741).f1
              exact ⟨s34696, (PHeap.le_refl _), hS34742, p34699, p34700, p34701, p34702, p34703, x34704, rfl⟩
            · replace hc34739 := not_true hc34739
              refine WL_run rfl (yield_of rfl (congrArg Value.bool hc34739)) rfl (Exec.move (v := Value.int .i64 (x34712)) rfl rfl ?_)
              refine WL_run rfl (yield_of rfl (congrArg Value.bool hc34739)) rfl (Exec.field F26_0 rfl p34701 rfl ?_)
              refine WL_run rfl (yield_of rfl (congrArg Value.bool hc34739)) rfl (Exec.load_box ((hS34698).f1) A3 rfl rfl rfl ?_)
              refine WL_run rfl (yield_of rfl (congrArg Value.bool hc34739)) rfl (Exec.geq rfl rfl rfl ?_)
              refine WL_step rfl rfl (Exec.pick_f (v := Value.bool (decide (b32611.States ≤ x34712))) rfl (congrArg Value.bool hc34739) rfl ?_)
              refine WL_step rfl rfl (Exec.move (v := Value.bool (decide (b32611.States ≤ x34712))) rfl rfl ?_)
              rcases ite_some ht34737 with ⟨hc34743, ht34737⟩ | ⟨hc34743, ht34737⟩
              · refine WL_pass rfl (yield_of rfl (congrArg Value.bool hc34743)) rfl rfl ?_
                refine WL_pass rfl (yield_of rfl (congrArg Value.bool hc34743)) rfl rfl ?_
                refine WL_pass rfl (yield_of rfl (congrArg Value.bool hc34743)) rfl rfl ?_
                refine WL_pass rfl (yield_of rfl (congrArg Value.bool hc34743)) rfl rfl ?_
                refine WL_pass rfl (yield_of rfl (congrArg Value.bool hc34743)) rfl rfl ?_
                refine WL_pass rfl (yield_of rfl (congrArg Value.bool hc34743)) rfl rfl ?_
                refine WL_pass_none rfl (yield_undef rfl rfl) rfl ?_
                refine WL_pass_none rfl (yield_undef rfl rfl) rfl ?_
                refine WL_pass_none rfl (yield_undef rfl rfl) rfl ?_
                refine WL_pass_none rfl (yield_undef rfl rfl) rfl ?_
                refine WL_pass_none rfl (yield_undef rfl rfl) rfl ?_
                refine WL_pass_none rfl (yield_undef rfl rfl) rfl ?_
                refine WL_pass rfl (yield_of rfl (congrArg Value.bool hc34743)) rfl rfl ?_
                refine WL_step rfl rfl (Exec.pick_t (v := Value.bool (true)) rfl (congrArg Value.bool hc34743) rfl ?_)
                refine WL_nil (at_normal ?_)
                have e34744 := Option.some.inj ht34737
                subst z34736
                have hS34745 := (hS34698).f1
                have hS34746 := (hS34745).f1
                exact ⟨s34696, (PHeap.le_refl _), hS34746, p34699, p34700, p34701, p34702, p34703, x34704, rfl⟩
              · replace hc34743 := not_true hc34743
                refine WL_run rfl (yield_of rfl (congrArg Value.bool hc34743)) rfl (Exec.field F26_4 rfl p34700 rfl ?_)
                refine WL_run rfl (yield_of rfl (congrArg Value.bool hc34743)) rfl (Exec.load_box (hS34698) A24 rfl rfl rfl ?_)
                refine WL_run rfl (yield_of rfl (congrArg Value.bool hc34743)) rfl (Exec.move (v := Value.int .i64 ((i34521 : Int))) rfl rfl ?_)
                obtain ⟨x34747, q34748, ht34737⟩ := bind_some ht34737
                refine WL_run rfl (yield_of rfl (congrArg Value.bool hc34743)) rfl (Exec.index_rep S24 rfl rfl rfl (a32610.mono (PHeap.le.trans l34510 l34697)) q34748 ?_)
                intro b34749 o34750 a34751
                refine WL_run rfl (yield_of rfl (congrArg Value.bool hc34743)) rfl (Exec.load_at (E := encBool) hS34698 A4 rfl rfl rfl a34751 ?_)
                intro v34752 q34753
                obtain rfl := encBool_val.1 q34753
                refine WL_run rfl (yield_of rfl (congrArg Value.bool hc34743)) rfl (Exec.move (v := Value.bool (x34747)) rfl rfl ?_)
                rcases ite_some ht34737 with ⟨hc34754, ht34737⟩ | ⟨hc34754, ht34737⟩
                · refine WL_run rfl (yield_of rfl (congrArg Value.bool hc34754)) rfl (Exec.field F26_4 rfl p34701 rfl ?_)
                  refine WL_run rfl (yield_of rfl (congrArg Value.bool hc34754)) rfl (Exec.load_box ((hS34698).f1) A24 rfl rfl rfl ?_)
                  refine WL_run rfl (yield_of rfl (congrArg Value.bool hc34754)) rfl (Exec.move (v := Value.int .i64 (x34712)) rfl rfl ?_)
                  obtain ⟨x34755, q34756, ht34737⟩ := bind_some ht34737
                  refine WL_run rfl (yield_of rfl (congrArg Value.bool hc34754)) rfl (Exec.index_rep S24 rfl rfl rfl (a32617.mono (PHeap.le.trans l34510 l34697)) q34756 ?_)
                  intro b34757 o34758 a34759
                  refine WL_run rfl (yield_of rfl (congrArg Value.bool hc34754)) rfl (Exec.load_at (E := encBool) hS34698 A4 rfl rfl rfl a34759 ?_)
                  intro v34760 q34761
                  obtain rfl := encBool_val.1 q34761
                  refine WL_run rfl (yield_of rfl (congrArg Value.bool hc34754)) rfl (Exec.not rfl rfl ?_)
                  refine WL_run rfl (yield_of rfl (congrArg Value.bool hc34743)) rfl (Exec.pick_t (v := Value.bool (!x34755)) rfl (congrArg Value.bool hc34754) rfl ?_)
                  refine WL_step rfl rfl (Exec.pick_f (v := Value.bool (!x34755)) rfl (congrArg Value.bool hc34743) rfl ?_)
                  refine WL_nil (at_normal ?_)
                  have e34762 := Option.some.inj ht34737
                  subst z34736
                  have hS34763 := (hS34698).f1
                  have hS34764 := (hS34763).f1
                  exact ⟨s34696, (PHeap.le_refl _), hS34764, p34699, p34700, p34701, p34702, p34703, x34704, rfl⟩
                · replace hc34754 := not_true hc34754
                  refine WL_pass rfl (yield_of rfl (congrArg Value.bool hc34754)) rfl rfl ?_
                  refine WL_pass rfl (yield_of rfl (congrArg Value.bool hc34754)) rfl rfl ?_
                  refine WL_pass rfl (yield_of rfl (congrArg Value.bool hc34754)) rfl rfl ?_
                  refine WL_pass rfl (yield_of rfl (congrArg Value.bool hc34754)) rfl rfl ?_
                  refine WL_pass rfl (yield_of rfl (congrArg Value.bool hc34754)) rfl rfl ?_
                  refine WL_pass rfl (yield_of rfl (congrArg Value.bool hc34754)) rfl rfl ?_
                  refine WL_run rfl (yield_of rfl (congrArg Value.bool hc34743)) rfl (Exec.pick_f (v := Value.bool (false)) rfl (congrArg Value.bool hc34754) rfl ?_)
                  refine WL_step rfl rfl (Exec.pick_f (v := Value.bool (false)) rfl (congrArg Value.bool hc34743) rfl ?_)
                  refine WL_nil (at_normal ?_)
                  have e34765 := Option.some.inj ht34737
                  subst z34736
                  have hS34766 := (hS34698).f1
                  have hS34767 := (hS34766).f1
                  exact ⟨s34696, (PHeap.le_refl _), hS34767, p34699, p34700, p34701, p34702, p34703, x34704, rfl⟩
          · intro f34768 w34769 hM34770
            obtain ⟨s34771, l34772, hS34773, p34774, p34775, p34776, p34777, p34778, p34779, p34780⟩ := hM34770
            refine (at_normal ?_)
            rcases ite_some hm34692 with ⟨hc34781, hm34692⟩ | ⟨hc34781, hm34692⟩
            · refine W_cond_t p34780 hc34781 ?_
              refine W_seq ?_
              refine W_region ?_
              refine WL_step rfl rfl (Exec.assign (v := Value.bool (false)) rfl rfl ?_)
              refine WL_nil (at_normal ?_)
              refine W_ret (ib_ret (at_ret (at_ret (ib_ret (at_ret (at_ret ?_))))))
              have e34782 := Option.some.inj hm34692
              subst c34688
              have hq34783 := hr34680 _ (hres34693 (by intro _ h; cases h))
              have e34784 := Option.some.inj hq34783
              subst r
              refine ⟨_, ret1 rfl, ?_⟩
              have hS34785 := (hS34773).drop
              have hS34786 := (hS34785).drop
              exact ⟨s34771, (PHeap.le.trans (PHeap.le.trans l34510 l34697) l34772), hS34786, rfl⟩
            · refine W_cond_f p34780 hc34781 ?_
              replace hc34781 := not_true hc34781
              refine W_skip (ib_normal (at_normal ?_))
              refine W_region ?_
              refine WL_step rfl rfl (Exec.add rfl p34779 rfl ?_)
              refine WL_step rfl rfl (Exec.move (v := Value.int .i64 (IntKind.i64.wrap ((i34521 : Int) + 1))) rfl rfl ?_)
              refine WL_nil (at_normal ?_)
              have e34787 := Option.some.inj hm34692
              subst c34688
              have hS34788 := (hS34773).f1
              have hS34789 := (hS34788).f1
              refine ⟨_, rfl, ?_⟩; exact ⟨s34771, (PHeap.le.trans l34697 l34772), hS34789, p34774, p34775, p34776, p34777, p34778, (Eq.trans rfl (wrap_up hi34695 (SliceRep.le (a32620.mono l34510))))⟩
        · intro t34790 f34791 w34792 hI34793 hres34794
          obtain ⟨s34795, l34796, hS34797, p34798, p34799, p34800, p34801, p34802, x34803⟩ := hI34793
          refine W_seq ?_
          refine W_region ?_
          refine WL_step rfl rfl (Exec.lss rfl x34803 p34802 ?_)
          refine WL_nil (at_normal ?_)
          refine W_seq ?_
          refine W_false (congrArg Value.bool (decide_eq_false (by omega))) ?_
          refine W_exit (at_exit (at_exit (ib_here (at_normal ?_))))
          have hS34804 := (hS34797).f1
          have hS34805 := (hS34804).f1
          refine ⟨_, .inl hres34794, ?_⟩; exact ⟨s34795, l34796, hS34805, p34798, p34799, p34800, p34801, p34802⟩
      · rintro f34806 w34807 ⟨t34808, hc34809, hM34810⟩
        have hm := hc34809.elim (hn34681 _) (hb34682 _)
        clear hc34809
        obtain ⟨s34811, l34812, hS34813, p34814, p34815, p34816, p34817, p34818⟩ := hM34810
        refine (at_normal ?_)
        refine W_seq ?_
        refine W_seq ?_
        refine W_dl (n0 := 8) (.q 0 (.q 1 (.q 2 (.q 3 (.q 4 (.q 5 (.q 6 (.q 7 .done)))))))) hmix (by kernel_rfl) (by kernel_rfl) ?_
        have hS34846 := hS34813.drew
        refine DL_q rfl rfl (Exec.move (v := v32619) rfl p34814 ⟨rfl, ?_⟩)
        refine DL_q rfl rfl (Exec.field F26_1 rfl p34815 rfl ⟨rfl, ?_⟩)
        refine DL_q rfl rfl (Exec.load_box (hS34846) A3 rfl rfl rfl ⟨rfl, ?_⟩)
        obtain ⟨x34847, q34848, hm⟩ := bind_some hm
        refine DL_q rfl rfl (Exec.index_repE S22 rfl rfl rfl (a32620.mono (PHeap.le.trans l34510 l34812)) q34848 ?_)
        intro b34849 o34850 a34851 e34852
        refine ⟨rfl, ?_⟩
        refine DL_q rfl rfl (Exec.load_at (E := (encInt .i64)) hS34846 A3 rfl rfl rfl a34851 ?_)
        intro v34853 q34854
        obtain rfl := encInt_val.1 q34854
        refine ⟨rfl, ?_⟩
        refine DL_q rfl rfl (Exec.field F26_1 rfl p34816 rfl ⟨rfl, ?_⟩)
        refine DL_q rfl rfl (Exec.load_box ((hS34846).f1) A3 rfl rfl rfl ⟨rfl, ?_⟩)
        refine DL_q rfl rfl (Exec.neq rfl rfl rfl ⟨rfl, ?_⟩)
        refine DL_done ?_
        refine WL_nil (at_normal ?_)
        rcases ite_some hm with ⟨hc34855, hm⟩ | ⟨hc34855, hm⟩
        · refine W_cond_t rfl hc34855 ?_
          refine W_seq ?_
          refine W_region ?_
          refine WL_step rfl rfl (Exec.assign (v := Value.bool (false)) rfl rfl ?_)
          refine WL_nil (at_normal ?_)
          refine W_ret (at_ret ?_)
          have e34857 := Option.some.inj hm
          subst r
          refine ⟨_, ret1 rfl, ?_⟩
          have hS34858 := (hS34846).drop
          have hS34859 := (hS34858).drop
          exact ⟨s34811, (PHeap.le.trans l34510 l34812), hS34859, rfl⟩
        · refine W_cond_f rfl hc34855 ?_
          replace hc34855 := not_true hc34855
          refine W_skip (at_normal ?_)
          refine W_seq ?_
          refine W_seq ?_
          refine W_region ?_
          refine WL_step rfl rfl (Exec.field F26_3 rfl p34815 rfl ?_)
          refine WL_step rfl rfl (Exec.load_box (hS34846) A23 rfl rfl rfl ?_)
          refine WL_step rfl rfl (Exec.len_rep S23 rfl rfl (a32608.mono (PHeap.le.trans l34510 l34812)) ?_)
          refine WL_step rfl rfl (Exec.move (v := Value.int .i64 (0)) rfl rfl ?_)
          refine WL_nil (at_normal ?_)
          obtain ⟨c35113, hB35114, hr35115, hn35116, hb35117⟩ := ctl_some hm
          refine W_mid (M := fun f' w' => ∃ s', (c35113 = .next s' ∨ c35113 = .brk s') ∧ (fun (_ : Unit) => ∃ (s35119 : PHeap) , PHeap.le s34811 s35119 ∧ St w0 s35119 (Res.box b34444 26 [Value.int .i64 (b32611.States), Value.int .i64 (b32611.Init), v32612, v32614, v32616] :: H) w' ∧ f' 2 = v32619 ∧ f' 4 = Value.pointer (some ⟨b34444, 0, none⟩) ∧ f' 76 = v32607 ∧ f' 77 = Value.int .i64 ((a32604.Edges.length : Int))) s') ?_ ?_
          · refine W_block (W_forC (fun k' s' f' w' => (fun (_ : Unit) => ∃ (s35118 : PHeap) , PHeap.le s34811 s35118 ∧ St w0 s35118 (Res.box b34444 26 [Value.int .i64 (b32611.States), Value.int .i64 (b32611.Init), v32612, v32614, v32616] :: H) w' ∧ f' 2 = v32619 ∧ f' 4 = Value.pointer (some ⟨b34444, 0, none⟩) ∧ f' 76 = v32607 ∧ f' 77 = Value.int .i64 ((a32604.Edges.length : Int)) ∧ f' 78 = Value.int .i64 (k' : Int)) s') hB35114 ?_ ?_ ?_)
            · have hS35120 := (hS34846).drop
              exact ⟨s34811, (PHeap.le_refl _), hS35120, p34814, p34816, rfl, rfl, rfl⟩
            · intro i34860 t35128 c35122 f35123 w35124 hi35129 hI35125 hm35126 hres35127
              obtain ⟨s35130, l35131, hS35132, p35133, p35134, p35135, p35136, x35137⟩ := hI35125
              refine W_seq ?_
              refine W_region ?_
              refine WL_step rfl rfl (Exec.lss rfl x35137 p35136 ?_)
              refine WL_nil (at_normal ?_)
              refine W_seq ?_
              refine W_true (congrArg Value.bool (decide_eq_true (by omega))) ?_
              refine W_skip (at_normal ?_)
              refine W_seq ?_
              refine W_block ?_
              refine W_seq ?_
              refine W_region ?_
              obtain ⟨x35150, q35151, hm35126⟩ := bind_some hm35126
              refine WL_step rfl rfl (Exec.index_rep S23 rfl p35135 x35137 (a32608.mono (PHeap.le.trans (PHeap.le.trans l34510 l34812) l35131)) q35151 ?_)
              intro b35152 o35153 a35154
              refine WL_step rfl rfl (Exec.load_at (E := encEdge) hS35132 A66 rfl rfl rfl a35154 ?_)
              intro v35155 q35156
              obtain rfl := encEdge_val.1 q35156
              refine WL_step rfl rfl (Exec.alloc (cs := [Value.int .i64 (0), Value.int .i64 (0), Value.int .i64 (0)]) hS35132 Z66 rfl rfl ?_)
              intro b35157 w35158 hS35159
              refine WL_step rfl rfl (Exec.store_box (ds := [Value.int .i64 (x35150.From), Value.int .i64 (x35150.Label), Value.int .i64 (x35150.To)]) (es := [Value.int .i64 (x35150.From), Value.int .i64 (x35150.Label), Value.int .i64 (x35150.To)]) hS35159 A66 rfl rfl rfl rfl (one_cons rfl (one_cons rfl (one_cons rfl one_nil))) (Nat.le_of_ble_eq_true rfl) rfl ?_)
              intro w35160 hS35161
              refine WL_nil (at_normal ?_)
              refine W_seq ?_
              refine W_dl (n0 := 20) (.q 0 (.q 1 (.q 2 (.q 3 (.q 4 (.q 5 (.q 6 (.q 7 (.q 8 (.q 9 (.q 10 (.q 11 (.q 12 (.q 13 (.q 14 (.e 15 [] (.q 16 (.q 17 (.q 18 (.q 19 .done)))))))))))))))))))) hmix (by kernel_rfl) (by kernel_rfl) ?_
              have hS35237 := hS35161.drew
              refine DL_q rfl rfl (Exec.field F26_3 rfl p35134 rfl ⟨rfl, ?_⟩)
              refine DL_q rfl rfl (Exec.load_box ((hS35237).f1) A23 rfl rfl rfl ⟨rfl, ?_⟩)
              refine DL_q rfl rfl (Exec.move (v := v32619) rfl p35133 ⟨rfl, ?_⟩)
              refine DL_q rfl rfl (Exec.field F66_0 rfl rfl rfl ⟨rfl, ?_⟩)
              refine DL_q rfl rfl (Exec.load_box (hS35237) A3 rfl rfl rfl ⟨rfl, ?_⟩)
              obtain ⟨x35238, q35239, hm35126⟩ := bind_some hm35126
              refine DL_q rfl rfl (Exec.index_repE S22 rfl rfl rfl (a32620.mono (PHeap.le.trans (PHeap.le.trans l34510 l34812) l35131)) q35239 ?_)
              intro b35240 o35241 a35242 e35243
              refine ⟨rfl, ?_⟩
              refine DL_q rfl rfl (Exec.load_at (E := (encInt .i64)) hS35237 A3 rfl rfl rfl a35242 ?_)
              intro v35244 q35245
              obtain rfl := encInt_val.1 q35245
              refine ⟨rfl, ?_⟩
              refine DL_q rfl rfl (Exec.field F66_1 rfl rfl rfl ⟨rfl, ?_⟩)
              refine DL_q rfl rfl (Exec.load_box (hS35237) A3 rfl rfl rfl ⟨rfl, ?_⟩)
              refine DL_q rfl rfl (Exec.move (v := v32619) rfl p35133 ⟨rfl, ?_⟩)
              refine DL_q rfl rfl (Exec.field F66_2 rfl rfl rfl ⟨rfl, ?_⟩)
              refine DL_q rfl rfl (Exec.load_box (hS35237) A3 rfl rfl rfl ⟨rfl, ?_⟩)
              obtain ⟨x35246, q35247, hm35126⟩ := bind_some hm35126
              refine DL_q rfl rfl (Exec.index_repE S22 rfl rfl rfl (a32620.mono (PHeap.le.trans (PHeap.le.trans l34510 l34812) l35131)) q35247 ?_)
              intro b35248 o35249 a35250 e35251
              refine ⟨rfl, ?_⟩
              refine DL_q rfl rfl (Exec.load_at (E := (encInt .i64)) hS35237 A3 rfl rfl rfl a35250 ?_)
              intro v35252 q35253
              obtain rfl := encInt_val.1 q35253
              refine ⟨rfl, ?_⟩
              refine DL_q rfl rfl (Exec.build rfl (parts_cons (c := [Value.int .i64 (x35238)]) (cells_of rfl rfl) (parts_cons (c := [Value.int .i64 (x35150.Label)]) (cells_of rfl rfl) (parts_cons (c := [Value.int .i64 (x35246)]) (cells_of rfl rfl) parts_nil))) (v := Value.agg #[Value.int .i64 (x35238), Value.int .i64 (x35150.Label), Value.int .i64 (x35246)]) (fun _ => by kernel_rfl) ⟨rfl, ?_⟩)
              obtain ⟨t35254, q35255, hm35126⟩ := bind_some hm35126
              obtain ⟨y35256, y35257⟩ := t35254
              replace hm35126 := un2_eq hm35126
              refine DL_e rfl rfl (Exec.call rfl rfl Try.func44 rfl N44 (args_cons rfl (args_cons rfl (args_cons rfl args_nil))) ((api_Edge__f39_sim q35255 hS35237 (a32615.mono (PHeap.le.trans (PHeap.le.trans l34510 l34812) l35131))).mono ?_))
              rintro _ w35258 ⟨_, rfl, ⟨s35259, l35260, hS35261, rfl⟩⟩
              refine ⟨_, rfl, ?_⟩
              refine ⟨ag_nil, ?_⟩
              refine DL_q rfl rfl (Exec.move (v := Value.tuple #[Value.int .i64 (y35256), Value.bool (y35257)]) rfl rfl ⟨rfl, ?_⟩)
              refine DL_q rfl rfl (Exec.extract (v := Value.int .i64 (y35256)) rfl rfl rfl ⟨rfl, ?_⟩)
              refine DL_q rfl rfl (Exec.extract (v := Value.bool (y35257)) rfl rfl rfl ⟨rfl, ?_⟩)
              refine DL_q rfl rfl (Exec.assign (v := Value.int .i64 (y35256)) rfl rfl ⟨rfl, ?_⟩)
              refine DL_done ?_
              refine WL_step rfl rfl (Exec.assign (v := Value.bool (y35257)) rfl rfl ?_)
              refine WL_nil (at_normal ?_)
              refine W_seq ?_
              refine W_region ?_
              refine WL_step rfl rfl (Exec.move (v := Value.bool (y35257)) rfl rfl ?_)
              refine WL_step rfl rfl (Exec.not rfl rfl ?_)
              refine WL_nil (at_normal ?_)
              rcases ite_some hm35126 with ⟨hc35262, hm35126⟩ | ⟨hc35262, hm35126⟩
              · refine W_cond_t rfl hc35262 ?_
                refine W_seq ?_
                refine W_region ?_
                refine WL_step rfl rfl (Exec.assign (v := Value.bool (false)) rfl rfl ?_)
                refine WL_nil (at_normal ?_)
                refine W_ret (ib_ret (at_ret (at_ret (ib_ret (at_ret (at_ret ?_))))))
                have e35263 := Option.some.inj hm35126
                subst c35122
                have hq35264 := hr35115 _ (hres35127 (by intro _ h; cases h))
                have e35265 := Option.some.inj hq35264
                subst r
                refine ⟨_, ret1 rfl, ?_⟩
                have hS35266 := (hS35261).drop
                have hS35267 := (hS35266).drop
                exact ⟨s35259, (PHeap.le.trans (PHeap.le.trans (PHeap.le.trans l34510 l34812) l35131) l35260), hS35267, rfl⟩
              · refine W_cond_f rfl hc35262 ?_
                replace hc35262 := not_true hc35262
                refine W_skip (ib_normal (at_normal ?_))
                refine W_region ?_
                refine WL_step rfl rfl (Exec.add rfl x35137 rfl ?_)
                refine WL_step rfl rfl (Exec.move (v := Value.int .i64 (IntKind.i64.wrap ((i34860 : Int) + 1))) rfl rfl ?_)
                refine WL_nil (at_normal ?_)
                have e35268 := Option.some.inj hm35126
                subst c35122
                have hS35269 := (hS35261).drop
                refine ⟨_, rfl, ?_⟩; exact ⟨s35259, (PHeap.le.trans l35131 l35260), hS35269, p35133, p35134, p35135, p35136, (Eq.trans rfl (wrap_up hi35129 (SliceRep.le (a32608.mono (PHeap.le.trans l34510 l34812)))))⟩
            · intro t35270 f35271 w35272 hI35273 hres35274
              obtain ⟨s35275, l35276, hS35277, p35278, p35279, p35280, p35281, x35282⟩ := hI35273
              refine W_seq ?_
              refine W_region ?_
              refine WL_step rfl rfl (Exec.lss rfl x35282 p35281 ?_)
              refine WL_nil (at_normal ?_)
              refine W_seq ?_
              refine W_false (congrArg Value.bool (decide_eq_false (by omega))) ?_
              refine W_exit (at_exit (at_exit (ib_here (at_normal ?_))))
              refine ⟨_, .inl hres35274, ?_⟩; exact ⟨s35275, l35276, hS35277, p35278, p35279, p35280, p35281⟩
          · rintro f35283 w35284 ⟨t35285, hc35286, hM35287⟩
            have hm := hc35286.elim (hn35116 _) (hb35117 _)
            clear hc35286
            obtain ⟨s35288, l35289, hS35290, p35291, p35292, p35293, p35294⟩ := hM35287
            refine (at_normal ?_)
            refine W_seq ?_
            refine W_region ?_
            refine WL_step rfl rfl (Exec.assign (v := Value.bool (true)) rfl rfl ?_)
            refine WL_nil (at_normal ?_)
            refine W_ret ?_
            have e35296 := Option.some.inj hm
            subst r
            refine ⟨_, ret1 rfl, ?_⟩
            have hS35297 := (hS35290).drop
            exact ⟨s35288, (PHeap.le.trans (PHeap.le.trans l34510 l34812) l35289), hS35297, rfl⟩

theorem N7 : (Try.f7.name == "runtime.NumGoroutine") = false := by kernel_rfl

theorem law44_TransysForms_sim {w0 w : World} {s : PHeap} {H : List Res} {x1 : System} {v2 : Value} {v4 : Value} {v6 : Value} {r : Bool} (hm : law44_TransysForms_p x1 = some r) (hS : St w0 s (H) w) (a3 : SliceRep (encInt .i64) s v2 x1.Costs) (a5 : SliceRep encEdge s v4 x1.Edges) (a7 : SliceRep encBool s v6 x1.Goals) :
    Calls Try.prog 7 #[Value.agg #[Value.int .i64 (x1.States), Value.int .i64 (x1.Init), v2, v4, v6]] w fun e w' => ∃ v, e = .returned v ∧ ((fun (y35484 : Bool) => ∃ (s35485 : PHeap) , PHeap.le s s35485 ∧ St w0 s35485 (H) w' ∧ v = Value.bool (y35484)) r) := by
  unfold law44_TransysForms_p at hm
  refine calls_of_W Try.func7 rfl rfl ?_
  refine W_seq ?_
  refine W_region ?_
  refine WL_step rfl rfl (Exec.box (cs := [Value.int .i64 (x1.States), Value.int .i64 (x1.Init), v2, v4, v6]) hS rfl rfl rfl ?_)
  intro b35489 w35490 hS35491
  refine WL_step rfl rfl (Exec.assign (v := Value.bool (false)) rfl rfl ?_)
  refine WL_nil (at_normal ?_)
  refine W_seq ?_
  refine W_seq ?_
  obtain ⟨z35507, ht35508, hm⟩ := bind_some hm
  refine W_mid (M := fun f' w' => (fun (z35507 : Bool) => ∃ (s35509 : PHeap) , PHeap.le s s35509 ∧ St w0 s35509 (Res.box b35489 26 [Value.int .i64 (x1.States), Value.int .i64 (x1.Init), v2, v4, v6] :: H) w' ∧ f' 1 = Value.pointer (some ⟨b35489, 0, none⟩) ∧ f' 22 = Value.bool (z35507)) z35507) ?_ ?_
  · refine W_region ?_
    obtain ⟨y35512, q35511, ht35508⟩ := bind_some ht35508
    refine WL_step rfl rfl (Exec.call rfl rfl Try.func10 rfl N10 args_nil ((law44_awake_sim q35511 hS35491 ).mono ?_))
    rintro _ w35513 ⟨_, rfl, ⟨s35514, l35515, hS35516, rfl⟩⟩
    refine ⟨_, rfl, ?_⟩
    refine WL_step rfl rfl (Exec.not rfl rfl ?_)
    refine WL_step rfl rfl (Exec.move (v := Value.bool (!y35512)) rfl rfl ?_)
    rcases ite_some ht35508 with ⟨hc35517, ht35508⟩ | ⟨hc35517, ht35508⟩
    · refine WL_pass rfl (yield_of rfl (congrArg Value.bool hc35517)) rfl rfl ?_
      refine WL_pass rfl (yield_of rfl (congrArg Value.bool hc35517)) rfl rfl ?_
      refine WL_step rfl rfl (Exec.pick_t (v := Value.bool (true)) rfl (congrArg Value.bool hc35517) rfl ?_)
      refine WL_nil (at_normal ?_)
      have e35518 := Option.some.inj ht35508
      subst z35507
      exact ⟨s35514, l35515, hS35516, rfl, rfl⟩
    · replace hc35517 := not_true hc35517
      refine WL_run rfl (yield_of rfl (congrArg Value.bool hc35517)) rfl (Exec.load_box_agg (ds := [Value.int .i64 (x1.States), Value.int .i64 (x1.Init), v2, v4, v6]) (hS35516) A26 rfl rfl rfl ?_)
      obtain ⟨y35521, q35520, ht35508⟩ := bind_some ht35508
      refine WL_run rfl (yield_of rfl (congrArg Value.bool hc35517)) rfl (Exec.call rfl rfl Try.func11 rfl N11 (args_cons rfl args_nil) ((law44_large_sim q35520 hS35516 (a3.mono l35515) (a5.mono l35515) (a7.mono l35515)).mono ?_))
      rintro _ w35522 ⟨_, rfl, ⟨s35523, l35524, hS35525, rfl⟩⟩
      refine ⟨_, rfl, ?_⟩
      refine WL_step rfl rfl (Exec.pick_f (v := Value.bool (y35521)) rfl (congrArg Value.bool hc35517) rfl ?_)
      refine WL_nil (at_normal ?_)
      have e35526 := Option.some.inj ht35508
      subst z35507
      exact ⟨s35523, (PHeap.le.trans l35515 l35524), hS35525, rfl, rfl⟩
  · intro f35527 w35528 hM35529
    obtain ⟨s35530, l35531, hS35532, p35533, p35534⟩ := hM35529
    refine (at_normal ?_)
    rcases ite_some hm with ⟨hc35535, hm⟩ | ⟨hc35535, hm⟩
    · refine W_cond_t p35534 hc35535 ?_
      refine W_seq ?_
      refine W_region ?_
      obtain ⟨y35545, q35544, hm⟩ := bind_some hm
      refine WL_step rfl rfl (Exec.call rfl rfl Try.func10 rfl N10 args_nil ((law44_awake_sim q35544 hS35532 ).mono ?_))
      rintro _ w35546 ⟨_, rfl, ⟨s35547, l35548, hS35549, rfl⟩⟩
      refine ⟨_, rfl, ?_⟩
      refine WL_step rfl rfl (Exec.assign (v := Value.bool (y35545)) rfl rfl ?_)
      refine WL_nil (at_normal ?_)
      refine W_ret (at_ret ?_)
      have e35551 := Option.some.inj hm
      subst r
      refine ⟨_, ret1 rfl, ?_⟩
      have hS35552 := (hS35549).drop
      exact ⟨s35547, (PHeap.le.trans l35531 l35548), hS35552, rfl⟩
    · refine W_cond_f p35534 hc35535 ?_
      replace hc35535 := not_true hc35535
      refine W_skip (at_normal ?_)
      refine W_seq ?_
      refine W_region ?_
      refine WL_step rfl rfl (Exec.load_box_agg (ds := [Value.int .i64 (x1.States), Value.int .i64 (x1.Init), v2, v4, v6]) (hS35532) A26 rfl p35533 rfl ?_)
      obtain ⟨y35562, q35561, hm⟩ := bind_some hm
      refine WL_step rfl rfl (Exec.call rfl rfl Try.func17 rfl N17 (args_cons rfl args_nil) ((ref44_Valid_sim q35561 hS35532 (a3.mono l35531) (a5.mono l35531) (a7.mono l35531)).mono ?_))
      rintro _ w35563 ⟨_, rfl, ⟨s35564, l35565, hS35566, rfl⟩⟩
      refine ⟨_, rfl, ?_⟩
      refine WL_step rfl rfl (Exec.assign (v := Value.bool (y35562)) rfl rfl ?_)
      refine WL_nil (at_normal ?_)
      refine W_seq ?_
      refine W_seq ?_
      refine W_region ?_
      refine WL_step rfl rfl (Exec.load_box_agg (ds := [Value.int .i64 (x1.States), Value.int .i64 (x1.Init), v2, v4, v6]) (hS35566) A26 rfl p35533 rfl ?_)
      obtain ⟨y35576, q35575, hm⟩ := bind_some hm
      refine WL_step rfl rfl (Exec.call rfl rfl Try.func25 rfl N25 (args_cons rfl args_nil) ((transys_Valid_sim q35575 hS35566 (a3.mono (PHeap.le.trans l35531 l35565)) (a5.mono (PHeap.le.trans l35531 l35565)) (a7.mono (PHeap.le.trans l35531 l35565))).mono ?_))
      rintro _ w35577 ⟨_, rfl, ⟨s35578, l35579, hS35580, rfl⟩⟩
      refine ⟨_, rfl, ?_⟩
      refine WL_step rfl rfl (Exec.move (v := Value.bool (y35562)) rfl rfl ?_)
      refine WL_step rfl rfl (Exec.bool_neq Try.underlying4 rfl rfl rfl ?_)
      refine WL_nil (at_normal ?_)
      rcases ite_some hm with ⟨hc35581, hm⟩ | ⟨hc35581, hm⟩
      · refine W_cond_t rfl hc35581 ?_
        refine W_seq ?_
        refine W_region ?_
        refine WL_step rfl rfl (Exec.assign (v := Value.bool (false)) rfl rfl ?_)
        refine WL_nil (at_normal ?_)
        refine W_ret (at_ret ?_)
        have e35583 := Option.some.inj hm
        subst r
        refine ⟨_, ret1 rfl, ?_⟩
        have hS35584 := (hS35580).drop
        exact ⟨s35578, (PHeap.le.trans (PHeap.le.trans l35531 l35565) l35579), hS35584, rfl⟩
      · refine W_cond_f rfl hc35581 ?_
        replace hc35581 := not_true hc35581
        refine W_skip (at_normal ?_)
        refine W_seq ?_
        refine W_seq ?_
        refine W_region ?_
        refine WL_step rfl rfl (Exec.move (v := Value.bool (y35562)) rfl rfl ?_)
        refine WL_nil (at_normal ?_)
        rcases ite_some hm with ⟨hc35585, hm⟩ | ⟨hc35585, hm⟩
        · refine W_cond_t rfl hc35585 ?_
          refine W_seq ?_
          refine W_region ?_
          refine WL_step rfl rfl (Exec.assign (v := Value.bool (true)) rfl rfl ?_)
          refine WL_nil (at_normal ?_)
          refine W_ret (at_ret ?_)
          have e35587 := Option.some.inj hm
          subst r
          refine ⟨_, ret1 rfl, ?_⟩
          have hS35588 := (hS35580).drop
          exact ⟨s35578, (PHeap.le.trans (PHeap.le.trans l35531 l35565) l35579), hS35588, rfl⟩
        · refine W_cond_f rfl hc35585 ?_
          replace hc35585 := not_true hc35585
          refine W_skip (at_normal ?_)
          refine W_seq ?_
          obtain ⟨t35600, q35601, hm⟩ := bind_some hm
          obtain ⟨y35602, y35603⟩ := t35600
          replace hm := un2_eq hm
          refine W_mid (M := fun f' w' => ∃ (s35671 : PHeap) , PHeap.le s35578 s35671 ∧ St w0 s35671 (Res.box b35489 26 [Value.int .i64 (x1.States), Value.int .i64 (x1.Init), v2, v4, v6] :: H) w' ∧ f' 1 = Value.pointer (some ⟨b35489, 0, none⟩) ∧ f' 5 = errV 39 (y35602)) ?_ ?_
          · refine W_dl (n0 := 8) (.q 0 (.alt (.e 1 [0] (.alt (.e 2 [] (.q 3 (.q 4 (.q 5 (.e 6 [3, 4, 5] (.e 7 [5] .done)))))) (.e 6 [0] (.e 2 [] (.q 3 (.q 4 (.q 5 (.e 7 [5] .done)))))))) (.e 6 [0] (.e 1 [0] (.e 2 [] (.q 3 (.q 4 (.q 5 (.e 7 [5] .done))))))))) hmix (by kernel_rfl) (by kernel_rfl) ?_
            have hS35672 := hS35580.drew
            refine DL_q rfl rfl (Exec.load_box_agg (ds := [Value.int .i64 (x1.States), Value.int .i64 (x1.Init), v2, v4, v6]) (hS35672) A26 rfl p35533 rfl ⟨rfl, ?_⟩)
            refine DL_alt ?_ ?_
            · refine DL_e rfl rfl (Exec.call rfl rfl Try.func26 rfl N26 args_nil ((law44_example_sim law44_example_tot hS35672 ).mono ?_))
              rintro _ w35673 ⟨_, rfl, ⟨s35674, v35677, v35678, v35679, l35675, hS35676, rfl, r35680, r35681, r35682⟩⟩
              refine ⟨_, rfl, ?_⟩
              refine ⟨(ag_cons (ag_r rfl rfl (Exec.load_box_agg (ds := [Value.int .i64 (x1.States), Value.int .i64 (x1.Init), v2, v4, v6]) (hS35676) A26 rfl p35533 rfl ⟨rfl, rfl⟩)) ag_nil), ?_⟩
              refine DL_alt ?_ ?_
              · refine DL_e rfl rfl (Exec.call rfl rfl Try.func12 rfl N12 (args_cons rfl (args_cons rfl args_nil)) ((transys_Product_sim q35601 hS35676 (a3.mono (PHeap.le.trans (PHeap.le.trans (PHeap.le.trans l35531 l35565) l35579) l35675)) (a5.mono (PHeap.le.trans (PHeap.le.trans (PHeap.le.trans l35531 l35565) l35579) l35675)) (a7.mono (PHeap.le.trans (PHeap.le.trans (PHeap.le.trans l35531 l35565) l35579) l35675)) r35680 r35681 r35682).mono ?_))
                rintro _ w35683 ⟨_, rfl, ⟨s35684, v35687, v35688, v35689, l35685, hS35686, rfl, r35690, r35691, r35692⟩⟩
                refine ⟨_, rfl, ?_⟩
                refine ⟨ag_nil, ?_⟩
                refine DL_q rfl rfl (Exec.move (v := Value.tuple #[Value.agg #[Value.int .i64 (y35603.States), Value.int .i64 (y35603.Init), v35687, v35688, v35689], errV 39 (y35602)]) rfl rfl ⟨rfl, ?_⟩)
                refine DL_q rfl rfl (Exec.extract (v := Value.agg #[Value.int .i64 (y35603.States), Value.int .i64 (y35603.Init), v35687, v35688, v35689]) rfl rfl rfl ⟨rfl, ?_⟩)
                refine DL_q rfl rfl (Exec.extract (v := errV 39 (y35602)) rfl rfl rfl ⟨rfl, ?_⟩)
                refine DL_e rfl rfl (Exec.alloc (cs := [Value.int .i64 (0), Value.int .i64 (0), Value.slice none 0 0, Value.slice none 0 0, Value.slice none 0 0]) hS35686 Z26 rfl rfl ?_)
                intro b35693 w35694 hS35695
                refine ⟨(ag_cons (ag_r rfl rfl (Exec.move (v := Value.tuple #[Value.agg #[Value.int .i64 (y35603.States), Value.int .i64 (y35603.Init), v35687, v35688, v35689], errV 39 (y35602)]) rfl rfl ⟨rfl, rfl⟩)) (ag_cons (ag_r rfl rfl (Exec.extract (v := Value.agg #[Value.int .i64 (y35603.States), Value.int .i64 (y35603.Init), v35687, v35688, v35689]) rfl rfl rfl ⟨rfl, rfl⟩)) (ag_cons (ag_r rfl rfl (Exec.extract (v := errV 39 (y35602)) rfl rfl rfl ⟨rfl, rfl⟩)) ag_nil))), ?_⟩
                refine DL_e rfl rfl (Exec.store_box (ds := [Value.int .i64 (y35603.States), Value.int .i64 (y35603.Init), v35687, v35688, v35689]) (es := [Value.int .i64 (y35603.States), Value.int .i64 (y35603.Init), v35687, v35688, v35689]) hS35695 A26 rfl rfl rfl rfl (one_cons rfl (one_cons rfl (one_cons (r35690).one (one_cons (r35691).one (one_cons (r35692).one one_nil))))) (Nat.le_of_ble_eq_true rfl) rfl ?_)
                intro w35696 hS35697
                refine ⟨(ag_cons (ag_r rfl rfl (Exec.extract (v := errV 39 (y35602)) rfl rfl rfl ⟨rfl, rfl⟩)) ag_nil), ?_⟩
                refine DL_done ?_
                refine WL_step rfl rfl (Exec.assign (v := errV 39 (y35602)) rfl rfl ?_)
                refine WL_nil (at_normal ?_)
                have hS35698 := (hS35697).drop
                exact ⟨s35684, (PHeap.le.trans l35675 l35685), hS35698, p35533, rfl⟩
              refine DL_e rfl rfl (Exec.alloc (cs := [Value.int .i64 (0), Value.int .i64 (0), Value.slice none 0 0, Value.slice none 0 0, Value.slice none 0 0]) hS35676 Z26 rfl rfl ?_)
              intro b35699 w35700 hS35701
              refine ⟨(ag_cons (ag_r rfl rfl (Exec.load_box_agg (ds := [Value.int .i64 (x1.States), Value.int .i64 (x1.Init), v2, v4, v6]) ((hS35701).f1) A26 rfl p35533 rfl ⟨rfl, rfl⟩)) ag_nil), ?_⟩
              refine DL_e rfl rfl (Exec.call rfl rfl Try.func12 rfl N12 (args_cons rfl (args_cons rfl args_nil)) ((transys_Product_sim q35601 hS35701 (a3.mono (PHeap.le.trans (PHeap.le.trans (PHeap.le.trans l35531 l35565) l35579) l35675)) (a5.mono (PHeap.le.trans (PHeap.le.trans (PHeap.le.trans l35531 l35565) l35579) l35675)) (a7.mono (PHeap.le.trans (PHeap.le.trans (PHeap.le.trans l35531 l35565) l35579) l35675)) r35680 r35681 r35682).mono ?_))
              rintro _ w35702 ⟨_, rfl, ⟨s35703, v35706, v35707, v35708, l35704, hS35705, rfl, r35709, r35710, r35711⟩⟩
              refine ⟨_, rfl, ?_⟩
              refine ⟨ag_nil, ?_⟩
              refine DL_q rfl rfl (Exec.move (v := Value.tuple #[Value.agg #[Value.int .i64 (y35603.States), Value.int .i64 (y35603.Init), v35706, v35707, v35708], errV 39 (y35602)]) rfl rfl ⟨rfl, ?_⟩)
              refine DL_q rfl rfl (Exec.extract (v := Value.agg #[Value.int .i64 (y35603.States), Value.int .i64 (y35603.Init), v35706, v35707, v35708]) rfl rfl rfl ⟨rfl, ?_⟩)
              refine DL_q rfl rfl (Exec.extract (v := errV 39 (y35602)) rfl rfl rfl ⟨rfl, ?_⟩)
              refine DL_e rfl rfl (Exec.store_box (ds := [Value.int .i64 (y35603.States), Value.int .i64 (y35603.Init), v35706, v35707, v35708]) (es := [Value.int .i64 (y35603.States), Value.int .i64 (y35603.Init), v35706, v35707, v35708]) hS35705 A26 rfl rfl rfl rfl (one_cons rfl (one_cons rfl (one_cons (r35709).one (one_cons (r35710).one (one_cons (r35711).one one_nil))))) (Nat.le_of_ble_eq_true rfl) rfl ?_)
              intro w35712 hS35713
              refine ⟨(ag_cons (ag_r rfl rfl (Exec.extract (v := errV 39 (y35602)) rfl rfl rfl ⟨rfl, rfl⟩)) ag_nil), ?_⟩
              refine DL_done ?_
              refine WL_step rfl rfl (Exec.assign (v := errV 39 (y35602)) rfl rfl ?_)
              refine WL_nil (at_normal ?_)
              have hS35714 := (hS35713).drop
              exact ⟨s35703, (PHeap.le.trans l35675 l35704), hS35714, p35533, rfl⟩
            refine DL_e rfl rfl (Exec.alloc (cs := [Value.int .i64 (0), Value.int .i64 (0), Value.slice none 0 0, Value.slice none 0 0, Value.slice none 0 0]) hS35672 Z26 rfl rfl ?_)
            intro b35715 w35716 hS35717
            refine ⟨(ag_cons (ag_r rfl rfl (Exec.load_box_agg (ds := [Value.int .i64 (x1.States), Value.int .i64 (x1.Init), v2, v4, v6]) ((hS35717).f1) A26 rfl p35533 rfl ⟨rfl, rfl⟩)) ag_nil), ?_⟩
            refine DL_e rfl rfl (Exec.call rfl rfl Try.func26 rfl N26 args_nil ((law44_example_sim law44_example_tot hS35717 ).mono ?_))
            rintro _ w35718 ⟨_, rfl, ⟨s35719, v35722, v35723, v35724, l35720, hS35721, rfl, r35725, r35726, r35727⟩⟩
            refine ⟨_, rfl, ?_⟩
            refine ⟨(ag_cons (ag_r rfl rfl (Exec.load_box_agg (ds := [Value.int .i64 (x1.States), Value.int .i64 (x1.Init), v2, v4, v6]) ((hS35721).f1) A26 rfl p35533 rfl ⟨rfl, rfl⟩)) ag_nil), ?_⟩
            refine DL_e rfl rfl (Exec.call rfl rfl Try.func12 rfl N12 (args_cons rfl (args_cons rfl args_nil)) ((transys_Product_sim q35601 hS35721 (a3.mono (PHeap.le.trans (PHeap.le.trans (PHeap.le.trans l35531 l35565) l35579) l35720)) (a5.mono (PHeap.le.trans (PHeap.le.trans (PHeap.le.trans l35531 l35565) l35579) l35720)) (a7.mono (PHeap.le.trans (PHeap.le.trans (PHeap.le.trans l35531 l35565) l35579) l35720)) r35725 r35726 r35727).mono ?_))
            rintro _ w35728 ⟨_, rfl, ⟨s35729, v35732, v35733, v35734, l35730, hS35731, rfl, r35735, r35736, r35737⟩⟩
            refine ⟨_, rfl, ?_⟩
            refine ⟨ag_nil, ?_⟩
            refine DL_q rfl rfl (Exec.move (v := Value.tuple #[Value.agg #[Value.int .i64 (y35603.States), Value.int .i64 (y35603.Init), v35732, v35733, v35734], errV 39 (y35602)]) rfl rfl ⟨rfl, ?_⟩)
            refine DL_q rfl rfl (Exec.extract (v := Value.agg #[Value.int .i64 (y35603.States), Value.int .i64 (y35603.Init), v35732, v35733, v35734]) rfl rfl rfl ⟨rfl, ?_⟩)
            refine DL_q rfl rfl (Exec.extract (v := errV 39 (y35602)) rfl rfl rfl ⟨rfl, ?_⟩)
            refine DL_e rfl rfl (Exec.store_box (ds := [Value.int .i64 (y35603.States), Value.int .i64 (y35603.Init), v35732, v35733, v35734]) (es := [Value.int .i64 (y35603.States), Value.int .i64 (y35603.Init), v35732, v35733, v35734]) hS35731 A26 rfl rfl rfl rfl (one_cons rfl (one_cons rfl (one_cons (r35735).one (one_cons (r35736).one (one_cons (r35737).one one_nil))))) (Nat.le_of_ble_eq_true rfl) rfl ?_)
            intro w35738 hS35739
            refine ⟨(ag_cons (ag_r rfl rfl (Exec.extract (v := errV 39 (y35602)) rfl rfl rfl ⟨rfl, rfl⟩)) ag_nil), ?_⟩
            refine DL_done ?_
            refine WL_step rfl rfl (Exec.assign (v := errV 39 (y35602)) rfl rfl ?_)
            refine WL_nil (at_normal ?_)
            have hS35740 := (hS35739).drop
            exact ⟨s35729, (PHeap.le.trans l35720 l35730), hS35740, p35533, rfl⟩
          · intro f35741 w35742 hM35743
            obtain ⟨s35744, l35745, hS35746, p35747, p35748⟩ := hM35743
            refine (at_normal ?_)
            refine W_seq ?_
            obtain ⟨t35760, q35761, hm⟩ := bind_some hm
            obtain ⟨y35762, y35763⟩ := t35760
            replace hm := un2_eq hm
            refine W_mid (M := fun f' w' => ∃ (s35831 : PHeap) , PHeap.le s35744 s35831 ∧ St w0 s35831 (Res.box b35489 26 [Value.int .i64 (x1.States), Value.int .i64 (x1.Init), v2, v4, v6] :: H) w' ∧ f' 1 = Value.pointer (some ⟨b35489, 0, none⟩) ∧ f' 5 = errV 39 (y35602) ∧ f' 7 = errV 39 (y35762)) ?_ ?_
            · refine W_dl (n0 := 8) (.q 1 (.alt (.e 0 [1] (.alt (.e 2 [] (.q 3 (.q 4 (.q 5 (.e 6 [3, 4, 5] (.e 7 [5] .done)))))) (.e 6 [1] (.e 2 [] (.q 3 (.q 4 (.q 5 (.e 7 [5] .done)))))))) (.e 6 [1] (.e 0 [1] (.e 2 [] (.q 3 (.q 4 (.q 5 (.e 7 [5] .done))))))))) hmix (by kernel_rfl) (by kernel_rfl) ?_
              have hS35832 := hS35746.drew
              refine DL_q rfl rfl (Exec.load_box_agg (ds := [Value.int .i64 (x1.States), Value.int .i64 (x1.Init), v2, v4, v6]) (hS35832) A26 rfl p35747 rfl ⟨rfl, ?_⟩)
              refine DL_alt ?_ ?_
              · refine DL_e rfl rfl (Exec.call rfl rfl Try.func26 rfl N26 args_nil ((law44_example_sim law44_example_tot hS35832 ).mono ?_))
                rintro _ w35833 ⟨_, rfl, ⟨s35834, v35837, v35838, v35839, l35835, hS35836, rfl, r35840, r35841, r35842⟩⟩
                refine ⟨_, rfl, ?_⟩
                refine ⟨(ag_cons (ag_r rfl rfl (Exec.load_box_agg (ds := [Value.int .i64 (x1.States), Value.int .i64 (x1.Init), v2, v4, v6]) (hS35836) A26 rfl p35747 rfl ⟨rfl, rfl⟩)) ag_nil), ?_⟩
                refine DL_alt ?_ ?_
                · refine DL_e rfl rfl (Exec.call rfl rfl Try.func12 rfl N12 (args_cons rfl (args_cons rfl args_nil)) ((transys_Product_sim q35761 hS35836 r35840 r35841 r35842 (a3.mono (PHeap.le.trans (PHeap.le.trans (PHeap.le.trans (PHeap.le.trans l35531 l35565) l35579) l35745) l35835)) (a5.mono (PHeap.le.trans (PHeap.le.trans (PHeap.le.trans (PHeap.le.trans l35531 l35565) l35579) l35745) l35835)) (a7.mono (PHeap.le.trans (PHeap.le.trans (PHeap.le.trans (PHeap.le.trans l35531 l35565) l35579) l35745) l35835))).mono ?_))
                  rintro _ w35843 ⟨_, rfl, ⟨s35844, v35847, v35848, v35849, l35845, hS35846, rfl, r35850, r35851, r35852⟩⟩
                  refine ⟨_, rfl, ?_⟩
                  refine ⟨ag_nil, ?_⟩
                  refine DL_q rfl rfl (Exec.move (v := Value.tuple #[Value.agg #[Value.int .i64 (y35763.States), Value.int .i64 (y35763.Init), v35847, v35848, v35849], errV 39 (y35762)]) rfl rfl ⟨rfl, ?_⟩)
                  refine DL_q rfl rfl (Exec.extract (v := Value.agg #[Value.int .i64 (y35763.States), Value.int .i64 (y35763.Init), v35847, v35848, v35849]) rfl rfl rfl ⟨rfl, ?_⟩)
                  refine DL_q rfl rfl (Exec.extract (v := errV 39 (y35762)) rfl rfl rfl ⟨rfl, ?_⟩)
                  refine DL_e rfl rfl (Exec.alloc (cs := [Value.int .i64 (0), Value.int .i64 (0), Value.slice none 0 0, Value.slice none 0 0, Value.slice none 0 0]) hS35846 Z26 rfl rfl ?_)
                  intro b35853 w35854 hS35855
                  refine ⟨(ag_cons (ag_r rfl rfl (Exec.move (v := Value.tuple #[Value.agg #[Value.int .i64 (y35763.States), Value.int .i64 (y35763.Init), v35847, v35848, v35849], errV 39 (y35762)]) rfl rfl ⟨rfl, rfl⟩)) (ag_cons (ag_r rfl rfl (Exec.extract (v := Value.agg #[Value.int .i64 (y35763.States), Value.int .i64 (y35763.Init), v35847, v35848, v35849]) rfl rfl rfl ⟨rfl, rfl⟩)) (ag_cons (ag_r rfl rfl (Exec.extract (v := errV 39 (y35762)) rfl rfl rfl ⟨rfl, rfl⟩)) ag_nil))), ?_⟩
                  refine DL_e rfl rfl (Exec.store_box (ds := [Value.int .i64 (y35763.States), Value.int .i64 (y35763.Init), v35847, v35848, v35849]) (es := [Value.int .i64 (y35763.States), Value.int .i64 (y35763.Init), v35847, v35848, v35849]) hS35855 A26 rfl rfl rfl rfl (one_cons rfl (one_cons rfl (one_cons (r35850).one (one_cons (r35851).one (one_cons (r35852).one one_nil))))) (Nat.le_of_ble_eq_true rfl) rfl ?_)
                  intro w35856 hS35857
                  refine ⟨(ag_cons (ag_r rfl rfl (Exec.extract (v := errV 39 (y35762)) rfl rfl rfl ⟨rfl, rfl⟩)) ag_nil), ?_⟩
                  refine DL_done ?_
                  refine WL_step rfl rfl (Exec.assign (v := errV 39 (y35762)) rfl rfl ?_)
                  refine WL_nil (at_normal ?_)
                  have hS35858 := (hS35857).drop
                  exact ⟨s35844, (PHeap.le.trans l35835 l35845), hS35858, p35747, p35748, rfl⟩
                refine DL_e rfl rfl (Exec.alloc (cs := [Value.int .i64 (0), Value.int .i64 (0), Value.slice none 0 0, Value.slice none 0 0, Value.slice none 0 0]) hS35836 Z26 rfl rfl ?_)
                intro b35859 w35860 hS35861
                refine ⟨(ag_cons (ag_r rfl rfl (Exec.load_box_agg (ds := [Value.int .i64 (x1.States), Value.int .i64 (x1.Init), v2, v4, v6]) ((hS35861).f1) A26 rfl p35747 rfl ⟨rfl, rfl⟩)) ag_nil), ?_⟩
                refine DL_e rfl rfl (Exec.call rfl rfl Try.func12 rfl N12 (args_cons rfl (args_cons rfl args_nil)) ((transys_Product_sim q35761 hS35861 r35840 r35841 r35842 (a3.mono (PHeap.le.trans (PHeap.le.trans (PHeap.le.trans (PHeap.le.trans l35531 l35565) l35579) l35745) l35835)) (a5.mono (PHeap.le.trans (PHeap.le.trans (PHeap.le.trans (PHeap.le.trans l35531 l35565) l35579) l35745) l35835)) (a7.mono (PHeap.le.trans (PHeap.le.trans (PHeap.le.trans (PHeap.le.trans l35531 l35565) l35579) l35745) l35835))).mono ?_))
                rintro _ w35862 ⟨_, rfl, ⟨s35863, v35866, v35867, v35868, l35864, hS35865, rfl, r35869, r35870, r35871⟩⟩
                refine ⟨_, rfl, ?_⟩
                refine ⟨ag_nil, ?_⟩
                refine DL_q rfl rfl (Exec.move (v := Value.tuple #[Value.agg #[Value.int .i64 (y35763.States), Value.int .i64 (y35763.Init), v35866, v35867, v35868], errV 39 (y35762)]) rfl rfl ⟨rfl, ?_⟩)
                refine DL_q rfl rfl (Exec.extract (v := Value.agg #[Value.int .i64 (y35763.States), Value.int .i64 (y35763.Init), v35866, v35867, v35868]) rfl rfl rfl ⟨rfl, ?_⟩)
                refine DL_q rfl rfl (Exec.extract (v := errV 39 (y35762)) rfl rfl rfl ⟨rfl, ?_⟩)
                refine DL_e rfl rfl (Exec.store_box (ds := [Value.int .i64 (y35763.States), Value.int .i64 (y35763.Init), v35866, v35867, v35868]) (es := [Value.int .i64 (y35763.States), Value.int .i64 (y35763.Init), v35866, v35867, v35868]) hS35865 A26 rfl rfl rfl rfl (one_cons rfl (one_cons rfl (one_cons (r35869).one (one_cons (r35870).one (one_cons (r35871).one one_nil))))) (Nat.le_of_ble_eq_true rfl) rfl ?_)
                intro w35872 hS35873
                refine ⟨(ag_cons (ag_r rfl rfl (Exec.extract (v := errV 39 (y35762)) rfl rfl rfl ⟨rfl, rfl⟩)) ag_nil), ?_⟩
                refine DL_done ?_
                refine WL_step rfl rfl (Exec.assign (v := errV 39 (y35762)) rfl rfl ?_)
                refine WL_nil (at_normal ?_)
                have hS35874 := (hS35873).drop
                exact ⟨s35863, (PHeap.le.trans l35835 l35864), hS35874, p35747, p35748, rfl⟩
              refine DL_e rfl rfl (Exec.alloc (cs := [Value.int .i64 (0), Value.int .i64 (0), Value.slice none 0 0, Value.slice none 0 0, Value.slice none 0 0]) hS35832 Z26 rfl rfl ?_)
              intro b35875 w35876 hS35877
              refine ⟨(ag_cons (ag_r rfl rfl (Exec.load_box_agg (ds := [Value.int .i64 (x1.States), Value.int .i64 (x1.Init), v2, v4, v6]) ((hS35877).f1) A26 rfl p35747 rfl ⟨rfl, rfl⟩)) ag_nil), ?_⟩
              refine DL_e rfl rfl (Exec.call rfl rfl Try.func26 rfl N26 args_nil ((law44_example_sim law44_example_tot hS35877 ).mono ?_))
              rintro _ w35878 ⟨_, rfl, ⟨s35879, v35882, v35883, v35884, l35880, hS35881, rfl, r35885, r35886, r35887⟩⟩
              refine ⟨_, rfl, ?_⟩
              refine ⟨(ag_cons (ag_r rfl rfl (Exec.load_box_agg (ds := [Value.int .i64 (x1.States), Value.int .i64 (x1.Init), v2, v4, v6]) ((hS35881).f1) A26 rfl p35747 rfl ⟨rfl, rfl⟩)) ag_nil), ?_⟩
              refine DL_e rfl rfl (Exec.call rfl rfl Try.func12 rfl N12 (args_cons rfl (args_cons rfl args_nil)) ((transys_Product_sim q35761 hS35881 r35885 r35886 r35887 (a3.mono (PHeap.le.trans (PHeap.le.trans (PHeap.le.trans (PHeap.le.trans l35531 l35565) l35579) l35745) l35880)) (a5.mono (PHeap.le.trans (PHeap.le.trans (PHeap.le.trans (PHeap.le.trans l35531 l35565) l35579) l35745) l35880)) (a7.mono (PHeap.le.trans (PHeap.le.trans (PHeap.le.trans (PHeap.le.trans l35531 l35565) l35579) l35745) l35880))).mono ?_))
              rintro _ w35888 ⟨_, rfl, ⟨s35889, v35892, v35893, v35894, l35890, hS35891, rfl, r35895, r35896, r35897⟩⟩
              refine ⟨_, rfl, ?_⟩
              refine ⟨ag_nil, ?_⟩
              refine DL_q rfl rfl (Exec.move (v := Value.tuple #[Value.agg #[Value.int .i64 (y35763.States), Value.int .i64 (y35763.Init), v35892, v35893, v35894], errV 39 (y35762)]) rfl rfl ⟨rfl, ?_⟩)
              refine DL_q rfl rfl (Exec.extract (v := Value.agg #[Value.int .i64 (y35763.States), Value.int .i64 (y35763.Init), v35892, v35893, v35894]) rfl rfl rfl ⟨rfl, ?_⟩)
              refine DL_q rfl rfl (Exec.extract (v := errV 39 (y35762)) rfl rfl rfl ⟨rfl, ?_⟩)
              refine DL_e rfl rfl (Exec.store_box (ds := [Value.int .i64 (y35763.States), Value.int .i64 (y35763.Init), v35892, v35893, v35894]) (es := [Value.int .i64 (y35763.States), Value.int .i64 (y35763.Init), v35892, v35893, v35894]) hS35891 A26 rfl rfl rfl rfl (one_cons rfl (one_cons rfl (one_cons (r35895).one (one_cons (r35896).one (one_cons (r35897).one one_nil))))) (Nat.le_of_ble_eq_true rfl) rfl ?_)
              intro w35898 hS35899
              refine ⟨(ag_cons (ag_r rfl rfl (Exec.extract (v := errV 39 (y35762)) rfl rfl rfl ⟨rfl, rfl⟩)) ag_nil), ?_⟩
              refine DL_done ?_
              refine WL_step rfl rfl (Exec.assign (v := errV 39 (y35762)) rfl rfl ?_)
              refine WL_nil (at_normal ?_)
              have hS35900 := (hS35899).drop
              exact ⟨s35889, (PHeap.le.trans l35880 l35890), hS35900, p35747, p35748, rfl⟩
            · intro f35901 w35902 hM35903
              obtain ⟨s35904, l35905, hS35906, p35907, p35908, p35909⟩ := hM35903
              refine (at_normal ?_)
              refine W_seq ?_
              refine W_region ?_
              refine WL_step rfl rfl (Exec.load_box_agg (ds := [Value.int .i64 (x1.States), Value.int .i64 (x1.Init), v2, v4, v6]) (hS35906) A26 rfl p35907 rfl ?_)
              obtain ⟨t35920, q35921, hm⟩ := bind_some hm
              obtain ⟨y35922, y35923⟩ := t35920
              replace hm := un2_eq hm
              refine WL_step rfl rfl (Exec.call rfl rfl Try.func18 rfl N18 (args_cons rfl args_nil) ((transys_Distances_sim q35921 hS35906 (a3.mono (PHeap.le.trans (PHeap.le.trans (PHeap.le.trans (PHeap.le.trans l35531 l35565) l35579) l35745) l35905)) (a5.mono (PHeap.le.trans (PHeap.le.trans (PHeap.le.trans (PHeap.le.trans l35531 l35565) l35579) l35745) l35905)) (a7.mono (PHeap.le.trans (PHeap.le.trans (PHeap.le.trans (PHeap.le.trans l35531 l35565) l35579) l35745) l35905))).mono ?_))
              rintro _ w35924 ⟨_, rfl, ⟨s35925, v35928, l35926, hS35927, rfl, r35929⟩⟩
              refine ⟨_, rfl, ?_⟩
              refine WL_step rfl rfl (Exec.move (v := Value.tuple #[v35928, errV 39 (y35923)]) rfl rfl ?_)
              refine WL_step rfl rfl (Exec.extract (v := v35928) rfl rfl rfl ?_)
              refine WL_step rfl rfl (Exec.extract (v := errV 39 (y35923)) rfl rfl rfl ?_)
              refine WL_step rfl rfl (Exec.assign (v := v35928) rfl rfl ?_)
              refine WL_step rfl rfl (Exec.assign (v := errV 39 (y35923)) rfl rfl ?_)
              refine WL_nil (at_normal ?_)
              refine W_seq ?_
              refine W_region ?_
              refine WL_step rfl rfl (Exec.load_box_agg (ds := [Value.int .i64 (x1.States), Value.int .i64 (x1.Init), v2, v4, v6]) (hS35927) A26 rfl p35907 rfl ?_)
              obtain ⟨t35940, q35941, hm⟩ := bind_some hm
              obtain ⟨y35942, y35943⟩ := t35940
              replace hm := un2_eq hm
              refine WL_step rfl rfl (Exec.call rfl rfl Try.func19 rfl N19 (args_cons rfl args_nil) ((transys_Costs_sim q35941 hS35927 (a3.mono (PHeap.le.trans (PHeap.le.trans (PHeap.le.trans (PHeap.le.trans (PHeap.le.trans l35531 l35565) l35579) l35745) l35905) l35926)) (a5.mono (PHeap.le.trans (PHeap.le.trans (PHeap.le.trans (PHeap.le.trans (PHeap.le.trans l35531 l35565) l35579) l35745) l35905) l35926)) (a7.mono (PHeap.le.trans (PHeap.le.trans (PHeap.le.trans (PHeap.le.trans (PHeap.le.trans l35531 l35565) l35579) l35745) l35905) l35926))).mono ?_))
              rintro _ w35944 ⟨_, rfl, ⟨s35945, v35948, l35946, hS35947, rfl, r35949⟩⟩
              refine ⟨_, rfl, ?_⟩
              refine WL_step rfl rfl (Exec.move (v := Value.tuple #[v35948, errV 39 (y35943)]) rfl rfl ?_)
              refine WL_step rfl rfl (Exec.extract (v := v35948) rfl rfl rfl ?_)
              refine WL_step rfl rfl (Exec.extract (v := errV 39 (y35943)) rfl rfl rfl ?_)
              refine WL_step rfl rfl (Exec.assign (v := v35948) rfl rfl ?_)
              refine WL_step rfl rfl (Exec.assign (v := errV 39 (y35943)) rfl rfl ?_)
              refine WL_nil (at_normal ?_)
              refine W_seq ?_
              refine W_region ?_
              refine WL_step rfl rfl (Exec.load_box_agg (ds := [Value.int .i64 (x1.States), Value.int .i64 (x1.Init), v2, v4, v6]) (hS35947) A26 rfl p35907 rfl ?_)
              obtain ⟨t35972, q35973, hm⟩ := bind_some hm
              obtain ⟨y35974, y35975, y35976⟩ := t35972
              replace hm := un3_eq hm
              refine WL_step rfl rfl (Exec.call rfl rfl Try.func23 rfl N23 (args_cons rfl args_nil) ((transys_Trim_sim q35973 hS35947 (a3.mono (PHeap.le.trans (PHeap.le.trans (PHeap.le.trans (PHeap.le.trans (PHeap.le.trans (PHeap.le.trans l35531 l35565) l35579) l35745) l35905) l35926) l35946)) (a5.mono (PHeap.le.trans (PHeap.le.trans (PHeap.le.trans (PHeap.le.trans (PHeap.le.trans (PHeap.le.trans l35531 l35565) l35579) l35745) l35905) l35926) l35946)) (a7.mono (PHeap.le.trans (PHeap.le.trans (PHeap.le.trans (PHeap.le.trans (PHeap.le.trans (PHeap.le.trans l35531 l35565) l35579) l35745) l35905) l35926) l35946))).mono ?_))
              rintro _ w35977 ⟨_, rfl, ⟨s35978, v35981, v35982, v35983, v35984, l35979, hS35980, rfl, r35985, r35986, r35987, r35988⟩⟩
              refine ⟨_, rfl, ?_⟩
              refine WL_step rfl rfl (Exec.move (v := Value.tuple #[Value.agg #[Value.int .i64 (y35976.States), Value.int .i64 (y35976.Init), v35982, v35983, v35984], v35981, errV 39 (y35975)]) rfl rfl ?_)
              refine WL_step rfl rfl (Exec.extract (v := Value.agg #[Value.int .i64 (y35976.States), Value.int .i64 (y35976.Init), v35982, v35983, v35984]) rfl rfl rfl ?_)
              refine WL_step rfl rfl (Exec.extract (v := v35981) rfl rfl rfl ?_)
              refine WL_step rfl rfl (Exec.extract (v := errV 39 (y35975)) rfl rfl rfl ?_)
              refine WL_step rfl rfl (Exec.alloc (cs := [Value.int .i64 (0), Value.int .i64 (0), Value.slice none 0 0, Value.slice none 0 0, Value.slice none 0 0]) hS35980 Z26 rfl rfl ?_)
              intro b35989 w35990 hS35991
              refine WL_step rfl rfl (Exec.store_box (ds := [Value.int .i64 (y35976.States), Value.int .i64 (y35976.Init), v35982, v35983, v35984]) (es := [Value.int .i64 (y35976.States), Value.int .i64 (y35976.Init), v35982, v35983, v35984]) hS35991 A26 rfl rfl rfl rfl (one_cons rfl (one_cons rfl (one_cons (r35986).one (one_cons (r35987).one (one_cons (r35988).one one_nil))))) (Nat.le_of_ble_eq_true rfl) rfl ?_)
              intro w35992 hS35993
              refine WL_step rfl rfl (Exec.assign (v := v35981) rfl rfl ?_)
              refine WL_step rfl rfl (Exec.assign (v := errV 39 (y35975)) rfl rfl ?_)
              refine WL_nil (at_normal ?_)
              refine W_seq ?_
              refine W_seq ?_
              refine W_region ?_
              refine WL_step rfl rfl (Exec.move (v := errV 39 (y35602)) rfl p35908 ?_)
              refine WL_step rfl rfl (Exec.move (v := errV 39 (y35762)) rfl p35909 ?_)
              refine WL_step rfl rfl (Exec.move (v := errV 39 (y35923)) rfl rfl ?_)
              refine WL_step rfl rfl (Exec.move (v := errV 39 (y35943)) rfl rfl ?_)
              refine WL_step rfl rfl (Exec.move (v := errV 39 (y35975)) rfl rfl ?_)
              refine WL_step rfl rfl (Exec.buildSlice (Te := 30) (cs := [errV 39 (y35602), errV 39 (y35762), errV 39 (y35923), errV 39 (y35943), errV 39 (y35975)]) hS35993 rfl (parts_cons (c := [errV 39 (y35602)]) (cells_of rfl (cells_one (errV_one _ _))) (parts_cons (c := [errV 39 (y35762)]) (cells_of rfl (cells_one (errV_one _ _))) (parts_cons (c := [errV 39 (y35923)]) (cells_of rfl (cells_one (errV_one _ _))) (parts_cons (c := [errV 39 (y35943)]) (cells_of rfl (cells_one (errV_one _ _))) (parts_cons (c := [errV 39 (y35975)]) (cells_of rfl (cells_one (errV_one _ _))) parts_nil))))) (fun _ => by kernel_rfl) ?_)
              intro b36002 w36003 hS36004
              have hS36005 := St.boxArr (E := (encErr 39)) (xs := [y35602, y35762, y35923, y35943, y35975]) hS36004 ⟨[errV 39 (y35602)], [errV 39 (y35762), errV 39 (y35923), errV 39 (y35943), errV 39 (y35975)], rfl, rfl, ⟨[errV 39 (y35762)], [errV 39 (y35923), errV 39 (y35943), errV 39 (y35975)], rfl, rfl, ⟨[errV 39 (y35923)], [errV 39 (y35943), errV 39 (y35975)], rfl, rfl, ⟨[errV 39 (y35943)], [errV 39 (y35975)], rfl, rfl, ⟨[errV 39 (y35975)], [], rfl, rfl, rfl⟩⟩⟩⟩⟩ (by simp [maxLen])
              obtain ⟨s36006, l36007, hS36008, r36009⟩ := hS36005.freezeArr
              refine WL_step rfl rfl (Exec.len_rep S50 rfl rfl r36009 ?_)
              refine WL_step rfl rfl (Exec.move (v := Value.int .i64 (0)) rfl rfl ?_)
              refine WL_nil (at_normal ?_)
              obtain ⟨c36059, hB36060, hr36061, hn36062, hb36063⟩ := ctl_some hm
              refine W_mid (M := fun f' w' => ∃ s', (c36059 = .next s' ∨ c36059 = .brk s') ∧ (fun (_ : Unit) => ∃ (s36065 : PHeap) , PHeap.le s36006 s36065 ∧ St w0 s36065 (Res.box b35489 26 [Value.int .i64 (x1.States), Value.int .i64 (x1.Init), v2, v4, v6] :: H) w' ∧ f' 1 = Value.pointer (some ⟨b35489, 0, none⟩) ∧ f' 64 = Value.slice (some ⟨b36002, 0, none⟩) 5 5 ∧ f' 65 = Value.int .i64 (([y35602, y35762, y35923, y35943, y35975].length : Int))) s') ?_ ?_
              · refine W_block (W_forC (fun k' s' f' w' => (fun (_ : Unit) => ∃ (s36064 : PHeap) , PHeap.le s36006 s36064 ∧ St w0 s36064 (Res.box b35489 26 [Value.int .i64 (x1.States), Value.int .i64 (x1.Init), v2, v4, v6] :: H) w' ∧ f' 1 = Value.pointer (some ⟨b35489, 0, none⟩) ∧ f' 64 = Value.slice (some ⟨b36002, 0, none⟩) 5 5 ∧ f' 65 = Value.int .i64 (([y35602, y35762, y35923, y35943, y35975].length : Int)) ∧ f' 66 = Value.int .i64 (k' : Int)) s') hB36060 ?_ ?_ ?_)
                · have hS36066 := (hS36008).drop
                  exact ⟨s36006, (PHeap.le_refl _), hS36066, p35907, rfl, rfl, rfl⟩
                · intro i36010 t36074 c36068 f36069 w36070 hi36075 hI36071 hm36072 hres36073
                  obtain ⟨s36076, l36077, hS36078, p36079, p36080, p36081, x36082⟩ := hI36071
                  refine W_seq ?_
                  refine W_region ?_
                  refine WL_step rfl rfl (Exec.lss rfl x36082 p36081 ?_)
                  refine WL_nil (at_normal ?_)
                  refine W_seq ?_
                  refine W_true (congrArg Value.bool (decide_eq_true (by omega))) ?_
                  refine W_skip (at_normal ?_)
                  refine W_seq ?_
                  refine W_block ?_
                  refine W_seq ?_
                  refine W_region ?_
                  obtain ⟨x36090, q36091, hm36072⟩ := bind_some hm36072
                  refine WL_step rfl rfl (Exec.index_rep S50 rfl p36080 x36082 (r36009.mono l36077) q36091 ?_)
                  intro b36092 o36093 a36094
                  refine WL_step rfl rfl (Exec.load_at (E := (encErr 39)) hS36078 A30 rfl rfl rfl a36094 ?_)
                  intro v36095 q36096
                  obtain rfl := encErr_val.1 q36096
                  refine WL_step rfl rfl (Exec.assign (v := errV 39 (x36090)) rfl rfl ?_)
                  refine WL_nil (at_normal ?_)
                  refine W_seq ?_
                  refine W_region ?_
                  refine WL_step rfl rfl (Exec.move (v := errV 39 (x36090)) rfl rfl ?_)
                  refine WL_step rfl rfl (Exec.call rfl rfl Try.func16 rfl N16 (args_cons rfl (args_cons rfl args_nil)) ((base_Is_sim (base_Is_tot x36090 2) hS36078 ).mono ?_))
                  rintro _ w36101 ⟨_, rfl, ⟨s36102, l36103, hS36104, rfl⟩⟩
                  refine ⟨_, rfl, ?_⟩
                  refine WL_step rfl rfl (Exec.not rfl rfl ?_)
                  refine WL_nil (at_normal ?_)
                  rcases ite_some hm36072 with ⟨hc36105, hm36072⟩ | ⟨hc36105, hm36072⟩
                  · refine W_cond_t rfl hc36105 ?_
                    refine W_seq ?_
                    refine W_region ?_
                    refine WL_step rfl rfl (Exec.assign (v := Value.bool (false)) rfl rfl ?_)
                    refine WL_nil (at_normal ?_)
                    refine W_ret (ib_ret (at_ret (at_ret (ib_ret (at_ret (at_ret ?_))))))
                    have e36106 := Option.some.inj hm36072
                    subst c36068
                    have hq36107 := hr36061 _ (hres36073 (by intro _ h; cases h))
                    have e36108 := Option.some.inj hq36107
                    subst r
                    refine ⟨_, ret1 rfl, ?_⟩
                    have hS36109 := (hS36104).drop
                    exact ⟨s36102, (PHeap.le.trans (PHeap.le.trans (PHeap.le.trans (PHeap.le.trans (PHeap.le.trans (PHeap.le.trans (PHeap.le.trans (PHeap.le.trans (PHeap.le.trans (PHeap.le.trans l35531 l35565) l35579) l35745) l35905) l35926) l35946) l35979) l36007) l36077) l36103), hS36109, rfl⟩
                  · refine W_cond_f rfl hc36105 ?_
                    replace hc36105 := not_true hc36105
                    refine W_skip (ib_normal (at_normal ?_))
                    refine W_region ?_
                    refine WL_step rfl rfl (Exec.add rfl x36082 rfl ?_)
                    refine WL_step rfl rfl (Exec.move (v := Value.int .i64 (IntKind.i64.wrap ((i36010 : Int) + 1))) rfl rfl ?_)
                    refine WL_nil (at_normal ?_)
                    have e36110 := Option.some.inj hm36072
                    subst c36068
                    refine ⟨_, rfl, ?_⟩; exact ⟨s36102, (PHeap.le.trans l36077 l36103), hS36104, p36079, p36080, p36081, (Eq.trans rfl (wrap_up hi36075 (SliceRep.le r36009)))⟩
                · intro t36111 f36112 w36113 hI36114 hres36115
                  obtain ⟨s36116, l36117, hS36118, p36119, p36120, p36121, x36122⟩ := hI36114
                  refine W_seq ?_
                  refine W_region ?_
                  refine WL_step rfl rfl (Exec.lss rfl x36122 p36121 ?_)
                  refine WL_nil (at_normal ?_)
                  refine W_seq ?_
                  refine W_false (congrArg Value.bool (decide_eq_false (by omega))) ?_
                  refine W_exit (at_exit (at_exit (ib_here (at_normal ?_))))
                  refine ⟨_, .inl hres36115, ?_⟩; exact ⟨s36116, l36117, hS36118, p36119, p36120, p36121⟩
              · rintro f36123 w36124 ⟨t36125, hc36126, hM36127⟩
                have hm := hc36126.elim (hn36062 _) (hb36063 _)
                clear hc36126
                obtain ⟨s36128, l36129, hS36130, p36131, p36132, p36133⟩ := hM36127
                refine (at_normal ?_)
                refine W_seq ?_
                obtain ⟨z36243, ht36244, hm⟩ := bind_some hm
                refine W_mid (M := fun f' w' => (fun (z36243 : Bool) => ∃ (s36245 : PHeap) , PHeap.le s36128 s36245 ∧ St w0 s36245 (H) w' ∧ f' 2 = Value.bool (z36243)) z36243) ?_ ?_
                · refine W_dl (n0 := 12) (.q 0 (.q 1 (.e 2 [0, 1] (.e 3 [] (.q 4 (.q 5 (.q 7 (.alt (.e 6 [7] (.e 8 [7] (.e 9 [] (.q 10 (.q 11 .done))))) (.e 8 [7] (.e 6 [7] (.e 9 [] (.q 10 (.q 11 .done))))))))))))) hmix (by kernel_rfl) (by kernel_rfl) ?_
                  have hS36246 := hS36130.drew
                  refine DL_q rfl rfl (Exec.load_box_agg (ds := [Value.int .i64 (x1.States), Value.int .i64 (x1.Init), v2, v4, v6]) (hS36246) A26 rfl p36131 rfl ⟨rfl, ?_⟩)
                  refine DL_q rfl rfl (Exec.load_box_agg (ds := [Value.int .i64 (x1.States), Value.int .i64 (x1.Init), v2, v4, v6]) (hS36246) A26 rfl p36131 rfl ⟨rfl, ?_⟩)
                  refine DL_e rfl rfl (Exec.buildSlice (Te := 3) (cs := [Value.int .i64 (0)]) hS36246 rfl (parts_cons (c := [Value.int .i64 (0)]) (cells_of rfl rfl) parts_nil) (fun _ => by kernel_rfl) ?_)
                  intro b36247 w36248 hS36249
                  refine ⟨(ag_cons (ag_r rfl rfl (Exec.load_box_agg (ds := [Value.int .i64 (x1.States), Value.int .i64 (x1.Init), v2, v4, v6]) ((hS36249).f1) A26 rfl p36131 rfl ⟨rfl, rfl⟩)) (ag_cons (ag_r rfl rfl (Exec.load_box_agg (ds := [Value.int .i64 (x1.States), Value.int .i64 (x1.Init), v2, v4, v6]) ((hS36249).f1) A26 rfl p36131 rfl ⟨rfl, rfl⟩)) ag_nil)), ?_⟩
                  have hS36250 := St.boxArr (E := (encInt .i64)) (xs := [0]) hS36249 ⟨[Value.int .i64 (0)], [], rfl, rfl, rfl⟩ (by simp [maxLen])
                  obtain ⟨s36251, l36252, hS36253, r36254⟩ := hS36250.freezeArr
                  obtain ⟨y36257, q36256, ht36244⟩ := bind_some ht36244
                  refine DL_e rfl rfl (Exec.call rfl rfl Try.func27 rfl N27 (args_cons rfl (args_cons rfl (args_cons rfl args_nil))) ((transys_Simulates_sim q36256 hS36253 (a3.mono (PHeap.le.trans (PHeap.le.trans (PHeap.le.trans (PHeap.le.trans (PHeap.le.trans (PHeap.le.trans (PHeap.le.trans (PHeap.le.trans (PHeap.le.trans (PHeap.le.trans l35531 l35565) l35579) l35745) l35905) l35926) l35946) l35979) l36007) l36129) l36252)) (a5.mono (PHeap.le.trans (PHeap.le.trans (PHeap.le.trans (PHeap.le.trans (PHeap.le.trans (PHeap.le.trans (PHeap.le.trans (PHeap.le.trans (PHeap.le.trans (PHeap.le.trans l35531 l35565) l35579) l35745) l35905) l35926) l35946) l35979) l36007) l36129) l36252)) (a7.mono (PHeap.le.trans (PHeap.le.trans (PHeap.le.trans (PHeap.le.trans (PHeap.le.trans (PHeap.le.trans (PHeap.le.trans (PHeap.le.trans (PHeap.le.trans (PHeap.le.trans l35531 l35565) l35579) l35745) l35905) l35926) l35946) l35979) l36007) l36129) l36252)) (a3.mono (PHeap.le.trans (PHeap.le.trans (PHeap.le.trans (PHeap.le.trans (PHeap.le.trans (PHeap.le.trans (PHeap.le.trans (PHeap.le.trans (PHeap.le.trans (PHeap.le.trans l35531 l35565) l35579) l35745) l35905) l35926) l35946) l35979) l36007) l36129) l36252)) (a5.mono (PHeap.le.trans (PHeap.le.trans (PHeap.le.trans (PHeap.le.trans (PHeap.le.trans (PHeap.le.trans (PHeap.le.trans (PHeap.le.trans (PHeap.le.trans (PHeap.le.trans l35531 l35565) l35579) l35745) l35905) l35926) l35946) l35979) l36007) l36129) l36252)) (a7.mono (PHeap.le.trans (PHeap.le.trans (PHeap.le.trans (PHeap.le.trans (PHeap.le.trans (PHeap.le.trans (PHeap.le.trans (PHeap.le.trans (PHeap.le.trans (PHeap.le.trans l35531 l35565) l35579) l35745) l35905) l35926) l35946) l35979) l36007) l36129) l36252)) r36254).mono ?_))
                  rintro _ w36258 ⟨_, rfl, ⟨s36259, l36260, hS36261, rfl⟩⟩
                  refine ⟨_, rfl, ?_⟩
                  refine ⟨ag_nil, ?_⟩
                  refine DL_q rfl rfl (Exec.not rfl rfl ⟨rfl, ?_⟩)
                  refine DL_q rfl rfl (Exec.move (v := Value.bool (!y36257)) rfl rfl ⟨rfl, ?_⟩)
                  rcases ite_some ht36244 with ⟨hc36262, ht36244⟩ | ⟨hc36262, ht36244⟩
                  · refine DL_qg rfl rfl (yield_of rfl (congrArg Value.bool hc36262)) (Exec.load_box_agg (ds := [Value.int .i64 (x1.States), Value.int .i64 (x1.Init), v2, v4, v6]) (hS36261) A26 rfl p36131 rfl ⟨rfl, ?_⟩)
                    refine DL_alt ?_ ?_
                    · refine DL_eg rfl rfl (yield_of rfl (congrArg Value.bool hc36262)) (Exec.call rfl rfl Try.func26 rfl N26 args_nil ((law44_example_sim law44_example_tot hS36261 ).mono ?_))
                      rintro _ w36263 ⟨_, rfl, ⟨s36264, v36267, v36268, v36269, l36265, hS36266, rfl, r36270, r36271, r36272⟩⟩
                      refine ⟨_, rfl, ?_⟩
                      refine ⟨(ag_cons (ag_g rfl rfl (yield_of rfl (congrArg Value.bool hc36262)) (Exec.load_box_agg (ds := [Value.int .i64 (x1.States), Value.int .i64 (x1.Init), v2, v4, v6]) (hS36266) A26 rfl p36131 rfl ⟨rfl, rfl⟩)) ag_nil), ?_⟩
                      refine DL_eg rfl rfl (yield_of rfl (congrArg Value.bool hc36262)) (Exec.buildSlice (Te := 3) (cs := [Value.int .i64 (0), Value.int .i64 (0)]) hS36266 rfl (parts_cons (c := [Value.int .i64 (0)]) (cells_of rfl rfl) (parts_cons (c := [Value.int .i64 (0)]) (cells_of rfl rfl) parts_nil)) (fun _ => by kernel_rfl) ?_)
                      intro b36273 w36274 hS36275
                      refine ⟨(ag_cons (ag_g rfl rfl (yield_of rfl (congrArg Value.bool hc36262)) (Exec.load_box_agg (ds := [Value.int .i64 (x1.States), Value.int .i64 (x1.Init), v2, v4, v6]) ((hS36275).f1) A26 rfl p36131 rfl ⟨rfl, rfl⟩)) ag_nil), ?_⟩
                      have hS36276 := St.boxArr (E := (encInt .i64)) (xs := [0, 0]) hS36275 ⟨[Value.int .i64 (0)], [Value.int .i64 (0)], rfl, rfl, ⟨[Value.int .i64 (0)], [], rfl, rfl, rfl⟩⟩ (by simp [maxLen])
                      obtain ⟨s36277, l36278, hS36279, r36280⟩ := hS36276.freezeArr
                      obtain ⟨y36283, q36282, ht36244⟩ := bind_some ht36244
                      refine DL_eg rfl rfl (yield_of rfl (congrArg Value.bool hc36262)) (Exec.call rfl rfl Try.func27 rfl N27 (args_cons rfl (args_cons rfl (args_cons rfl args_nil))) ((transys_Simulates_sim q36282 hS36279 (r36270.mono l36278) (r36271.mono l36278) (r36272.mono l36278) (a3.mono (PHeap.le.trans (PHeap.le.trans (PHeap.le.trans (PHeap.le.trans (PHeap.le.trans (PHeap.le.trans (PHeap.le.trans (PHeap.le.trans (PHeap.le.trans (PHeap.le.trans (PHeap.le.trans (PHeap.le.trans (PHeap.le.trans l35531 l35565) l35579) l35745) l35905) l35926) l35946) l35979) l36007) l36129) l36252) l36260) l36265) l36278)) (a5.mono (PHeap.le.trans (PHeap.le.trans (PHeap.le.trans (PHeap.le.trans (PHeap.le.trans (PHeap.le.trans (PHeap.le.trans (PHeap.le.trans (PHeap.le.trans (PHeap.le.trans (PHeap.le.trans (PHeap.le.trans (PHeap.le.trans l35531 l35565) l35579) l35745) l35905) l35926) l35946) l35979) l36007) l36129) l36252) l36260) l36265) l36278)) (a7.mono (PHeap.le.trans (PHeap.le.trans (PHeap.le.trans (PHeap.le.trans (PHeap.le.trans (PHeap.le.trans (PHeap.le.trans (PHeap.le.trans (PHeap.le.trans (PHeap.le.trans (PHeap.le.trans (PHeap.le.trans (PHeap.le.trans l35531 l35565) l35579) l35745) l35905) l35926) l35946) l35979) l36007) l36129) l36252) l36260) l36265) l36278)) r36280).mono ?_))
                      rintro _ w36284 ⟨_, rfl, ⟨s36285, l36286, hS36287, rfl⟩⟩
                      refine ⟨_, rfl, ?_⟩
                      refine ⟨ag_nil, ?_⟩
                      refine DL_qg rfl rfl (yield_of rfl (congrArg Value.bool hc36262)) (Exec.not rfl rfl ⟨rfl, ?_⟩)
                      refine DL_q rfl rfl (Exec.pick_t (v := Value.bool (!y36283)) rfl (congrArg Value.bool hc36262) rfl ⟨rfl, ?_⟩)
                      refine DL_done ?_
                      refine WL_step rfl rfl (Exec.assign (v := Value.bool (!y36283)) rfl rfl ?_)
                      refine WL_nil (at_normal ?_)
                      have e36288 := Option.some.inj ht36244
                      subst z36243
                      have hS36289 := (hS36287).drop
                      exact ⟨s36285, (PHeap.le.trans (PHeap.le.trans (PHeap.le.trans (PHeap.le.trans l36252 l36260) l36265) l36278) l36286), hS36289, rfl⟩
                    refine DL_eg rfl rfl (yield_of rfl (congrArg Value.bool hc36262)) (Exec.buildSlice (Te := 3) (cs := [Value.int .i64 (0), Value.int .i64 (0)]) hS36261 rfl (parts_cons (c := [Value.int .i64 (0)]) (cells_of rfl rfl) (parts_cons (c := [Value.int .i64 (0)]) (cells_of rfl rfl) parts_nil)) (fun _ => by kernel_rfl) ?_)
                    intro b36290 w36291 hS36292
                    refine ⟨(ag_cons (ag_g rfl rfl (yield_of rfl (congrArg Value.bool hc36262)) (Exec.load_box_agg (ds := [Value.int .i64 (x1.States), Value.int .i64 (x1.Init), v2, v4, v6]) ((hS36292).f1) A26 rfl p36131 rfl ⟨rfl, rfl⟩)) ag_nil), ?_⟩
                    refine DL_eg rfl rfl (yield_of rfl (congrArg Value.bool hc36262)) (Exec.call rfl rfl Try.func26 rfl N26 args_nil ((law44_example_sim law44_example_tot hS36292 ).mono ?_))
                    rintro _ w36293 ⟨_, rfl, ⟨s36294, v36297, v36298, v36299, l36295, hS36296, rfl, r36300, r36301, r36302⟩⟩
                    refine ⟨_, rfl, ?_⟩
                    refine ⟨(ag_cons (ag_g rfl rfl (yield_of rfl (congrArg Value.bool hc36262)) (Exec.load_box_agg (ds := [Value.int .i64 (x1.States), Value.int .i64 (x1.Init), v2, v4, v6]) ((hS36296).f1) A26 rfl p36131 rfl ⟨rfl, rfl⟩)) ag_nil), ?_⟩
                    have hS36303 := St.boxArr (E := (encInt .i64)) (xs := [0, 0]) hS36296 ⟨[Value.int .i64 (0)], [Value.int .i64 (0)], rfl, rfl, ⟨[Value.int .i64 (0)], [], rfl, rfl, rfl⟩⟩ (by simp [maxLen])
                    obtain ⟨s36304, l36305, hS36306, r36307⟩ := hS36303.freezeArr
                    obtain ⟨y36310, q36309, ht36244⟩ := bind_some ht36244
                    refine DL_eg rfl rfl (yield_of rfl (congrArg Value.bool hc36262)) (Exec.call rfl rfl Try.func27 rfl N27 (args_cons rfl (args_cons rfl (args_cons rfl args_nil))) ((transys_Simulates_sim q36309 hS36306 (r36300.mono l36305) (r36301.mono l36305) (r36302.mono l36305) (a3.mono (PHeap.le.trans (PHeap.le.trans (PHeap.le.trans (PHeap.le.trans (PHeap.le.trans (PHeap.le.trans (PHeap.le.trans (PHeap.le.trans (PHeap.le.trans (PHeap.le.trans (PHeap.le.trans (PHeap.le.trans (PHeap.le.trans l35531 l35565) l35579) l35745) l35905) l35926) l35946) l35979) l36007) l36129) l36252) l36260) l36295) l36305)) (a5.mono (PHeap.le.trans (PHeap.le.trans (PHeap.le.trans (PHeap.le.trans (PHeap.le.trans (PHeap.le.trans (PHeap.le.trans (PHeap.le.trans (PHeap.le.trans (PHeap.le.trans (PHeap.le.trans (PHeap.le.trans (PHeap.le.trans l35531 l35565) l35579) l35745) l35905) l35926) l35946) l35979) l36007) l36129) l36252) l36260) l36295) l36305)) (a7.mono (PHeap.le.trans (PHeap.le.trans (PHeap.le.trans (PHeap.le.trans (PHeap.le.trans (PHeap.le.trans (PHeap.le.trans (PHeap.le.trans (PHeap.le.trans (PHeap.le.trans (PHeap.le.trans (PHeap.le.trans (PHeap.le.trans l35531 l35565) l35579) l35745) l35905) l35926) l35946) l35979) l36007) l36129) l36252) l36260) l36295) l36305)) r36307).mono ?_))
                    rintro _ w36311 ⟨_, rfl, ⟨s36312, l36313, hS36314, rfl⟩⟩
                    refine ⟨_, rfl, ?_⟩
                    refine ⟨ag_nil, ?_⟩
                    refine DL_qg rfl rfl (yield_of rfl (congrArg Value.bool hc36262)) (Exec.not rfl rfl ⟨rfl, ?_⟩)
                    refine DL_q rfl rfl (Exec.pick_t (v := Value.bool (!y36310)) rfl (congrArg Value.bool hc36262) rfl ⟨rfl, ?_⟩)
                    refine DL_done ?_
                    refine WL_step rfl rfl (Exec.assign (v := Value.bool (!y36310)) rfl rfl ?_)
                    refine WL_nil (at_normal ?_)
                    have e36315 := Option.some.inj ht36244
                    subst z36243
                    have hS36316 := (hS36314).drop
                    exact ⟨s36312, (PHeap.le.trans (PHeap.le.trans (PHeap.le.trans (PHeap.le.trans l36252 l36260) l36295) l36305) l36313), hS36316, rfl⟩
                  · replace hc36262 := not_true hc36262
                    refine DL_qp rfl rfl (yield_of rfl (congrArg Value.bool hc36262)) rfl ?_
                    refine DL_alt ?_ ?_
                    · refine DL_ep rfl rfl (yield_of rfl (congrArg Value.bool hc36262)) rfl ?_
                      refine DL_ep rfl rfl (yield_of rfl (congrArg Value.bool hc36262)) rfl ?_
                      refine DL_ep rfl rfl (yield_of rfl (congrArg Value.bool hc36262)) rfl ?_
                      refine DL_qp rfl rfl (yield_of rfl (congrArg Value.bool hc36262)) rfl ?_
                      refine DL_q rfl rfl (Exec.pick_f (v := Value.bool (false)) rfl (congrArg Value.bool hc36262) rfl ⟨rfl, ?_⟩)
                      refine DL_done ?_
                      refine WL_step rfl rfl (Exec.assign (v := Value.bool (false)) rfl rfl ?_)
                      refine WL_nil (at_normal ?_)
                      have e36317 := Option.some.inj ht36244
                      subst z36243
                      have hS36318 := (hS36261).drop
                      exact ⟨s36259, (PHeap.le.trans l36252 l36260), hS36318, rfl⟩
                    refine DL_ep rfl rfl (yield_of rfl (congrArg Value.bool hc36262)) rfl ?_
                    refine DL_ep rfl rfl (yield_of rfl (congrArg Value.bool hc36262)) rfl ?_
                    refine DL_ep rfl rfl (yield_of rfl (congrArg Value.bool hc36262)) rfl ?_
                    refine DL_qp rfl rfl (yield_of rfl (congrArg Value.bool hc36262)) rfl ?_
                    refine DL_q rfl rfl (Exec.pick_f (v := Value.bool (false)) rfl (congrArg Value.bool hc36262) rfl ⟨rfl, ?_⟩)
                    refine DL_done ?_
                    refine WL_step rfl rfl (Exec.assign (v := Value.bool (false)) rfl rfl ?_)
                    refine WL_nil (at_normal ?_)
                    have e36319 := Option.some.inj ht36244
                    subst z36243
                    have hS36320 := (hS36261).drop
                    exact ⟨s36259, (PHeap.le.trans l36252 l36260), hS36320, rfl⟩
                · intro f36321 w36322 hM36323
                  obtain ⟨s36324, l36325, hS36326, p36327⟩ := hM36323
                  refine (at_normal ?_)
                  refine W_ret ?_
                  have e36329 := Option.some.inj hm
                  subst r
                  refine ⟨_, ret1 rfl, ?_⟩
                  exact ⟨s36324, (PHeap.le.trans (PHeap.le.trans (PHeap.le.trans (PHeap.le.trans (PHeap.le.trans (PHeap.le.trans (PHeap.le.trans (PHeap.le.trans (PHeap.le.trans (PHeap.le.trans l35531 l35565) l35579) l35745) l35905) l35926) l35946) l35979) l36007) l36129) l36325), hS36326, p36327⟩

end Go.Pw
