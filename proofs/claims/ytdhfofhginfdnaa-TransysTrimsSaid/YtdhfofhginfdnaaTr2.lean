/-
  The walks (printed by my generator).
-/
import Derived.Test.YtdhfofhginfdnaaTr1
set_option maxRecDepth 100000
set_option maxHeartbeats 4000000
set_option linter.unusedVariables false
namespace Go.Pw
open Go.Proofs
theorem law44_large_sim {w0 w : World} {s : PHeap} {H : List Res} {x25720 : System} {v25721 : Value} {v25723 : Value} {v25725 : Value} {r : Bool} (hm : law44_large_p x25720 = some r) (hS : St w0 s (H) w) (a25722 : SliceRep (encInt .i64) s v25721 x25720.Costs) (a25724 : SliceRep encEdge s v25723 x25720.Edges) (a25726 : SliceRep encBool s v25725 x25720.Goals) :
    Calls Try.prog 11 #[Value.agg #[Value.int .i64 (x25720.States), Value.int .i64 (x25720.Init), v25721, v25723, v25725]] w fun e w' => ∃ v, e = .returned v ∧ ((fun (y27093 : Bool) => ∃ (s27094 : PHeap) , PHeap.le s s27094 ∧ St w0 s27094 (H) w' ∧ v = Value.bool (y27093)) r) := by
  unfold law44_large_p at hm
  refine calls_of_W Try.func11 rfl rfl ?_
  refine W_seq ?_
  refine W_region ?_
  refine WL_step rfl rfl (Exec.box (cs := [Value.int .i64 (x25720.States), Value.int .i64 (x25720.Init), v25721, v25723, v25725]) hS rfl rfl rfl ?_)
  intro b27098 w27099 hS27100
  refine WL_step rfl rfl (Exec.assign (v := Value.bool (false)) rfl rfl ?_)
  refine WL_nil (at_normal ?_)
  refine W_seq ?_
  obtain ⟨z27114, ht27115, hm⟩ := bind_some hm
  refine W_mid (M := fun f' w' => (fun (z27114 : Bool) => ∃ (s27116 : PHeap) , PHeap.le s s27116 ∧ St w0 s27116 (H) w' ∧ f' 2 = Value.bool (z27114)) z27114) ?_ ?_
  · refine W_region ?_
    refine WL_step rfl rfl (Exec.field F26_0 rfl rfl rfl ?_)
    refine WL_step rfl rfl (Exec.load_box (hS27100) A3 rfl rfl rfl ?_)
    refine WL_step rfl rfl (Exec.gtr rfl rfl rfl ?_)
    refine WL_step rfl rfl (Exec.move (v := Value.bool (decide (40 < x25720.States))) rfl rfl ?_)
    rcases ite_some ht27115 with ⟨hc27117, ht27115⟩ | ⟨hc27117, ht27115⟩
    · refine WL_run rfl (yield_of rfl (congrArg Value.bool hc27117)) rfl (Exec.load_box_agg (ds := [Value.int .i64 (x25720.States), Value.int .i64 (x25720.Init), v25721, v25723, v25725]) (hS27100) A26 rfl rfl rfl ?_)
      obtain ⟨y27120, q27119, ht27115⟩ := bind_some ht27115
      refine WL_run rfl (yield_of rfl (congrArg Value.bool hc27117)) rfl (Exec.call rfl rfl Try.func17 rfl N17 (args_cons rfl args_nil) ((ref44_Valid_sim q27119 hS27100 a25722 a25724 a25726).mono ?_))
      rintro _ w27121 ⟨_, rfl, ⟨s27122, l27123, hS27124, rfl⟩⟩
      refine ⟨_, rfl, ?_⟩
      refine WL_step rfl rfl (Exec.pick_t (v := Value.bool (y27120)) rfl (congrArg Value.bool hc27117) rfl ?_)
      refine WL_step rfl rfl (Exec.move (v := Value.bool (y27120)) rfl rfl ?_)
      rcases ite_some ht27115 with ⟨hc27125, ht27115⟩ | ⟨hc27125, ht27115⟩
      · refine WL_pass rfl (yield_of rfl (congrArg Value.bool hc27125)) rfl rfl ?_
        refine WL_pass rfl (yield_of rfl (congrArg Value.bool hc27125)) rfl rfl ?_
        refine WL_pass rfl (yield_of rfl (congrArg Value.bool hc27125)) rfl rfl ?_
        refine WL_pass rfl (yield_of rfl (congrArg Value.bool hc27125)) rfl rfl ?_
        refine WL_step rfl rfl (Exec.pick_t (v := Value.bool (true)) rfl (congrArg Value.bool hc27125) rfl ?_)
        refine WL_step rfl rfl (Exec.move (v := Value.bool (true)) rfl rfl ?_)
        refine WL_pass rfl (yield_of rfl rfl) rfl rfl ?_
        refine WL_pass rfl (yield_of rfl rfl) rfl rfl ?_
        refine WL_pass rfl (yield_of rfl rfl) rfl rfl ?_
        refine WL_pass rfl (yield_of rfl rfl) rfl rfl ?_
        refine WL_step rfl rfl (Exec.pick_t (v := Value.bool (true)) rfl rfl rfl ?_)
        refine WL_step rfl rfl (Exec.move (v := Value.bool (true)) rfl rfl ?_)
        refine WL_pass rfl (yield_of rfl rfl) rfl rfl ?_
        refine WL_pass rfl (yield_of rfl rfl) rfl rfl ?_
        refine WL_pass rfl (yield_of rfl rfl) rfl rfl ?_
        refine WL_pass rfl (yield_of rfl rfl) rfl rfl ?_
        refine WL_step rfl rfl (Exec.pick_t (v := Value.bool (true)) rfl rfl rfl ?_)
        refine WL_step rfl rfl (Exec.assign (v := Value.bool (true)) rfl rfl ?_)
        refine WL_nil (at_normal ?_)
        have e27126 := Option.some.inj ht27115
        subst z27114
        have hS27127 := (hS27124).drop
        exact ⟨s27122, l27123, hS27127, rfl⟩
      · replace hc27125 := not_true hc27125
        refine WL_run rfl (yield_of rfl (congrArg Value.bool hc27125)) rfl (Exec.field F26_4 rfl rfl rfl ?_)
        refine WL_run rfl (yield_of rfl (congrArg Value.bool hc27125)) rfl (Exec.load_box (hS27124) A24 rfl rfl rfl ?_)
        refine WL_run rfl (yield_of rfl (congrArg Value.bool hc27125)) rfl (Exec.len_rep S24 rfl rfl (a25726.mono l27123) ?_)
        refine WL_run rfl (yield_of rfl (congrArg Value.bool hc27125)) rfl (Exec.gtr rfl rfl rfl ?_)
        refine WL_step rfl rfl (Exec.pick_f (v := Value.bool (decide (5000 < (x25720.Goals.length : Int)))) rfl (congrArg Value.bool hc27125) rfl ?_)
        refine WL_step rfl rfl (Exec.move (v := Value.bool (decide (5000 < (x25720.Goals.length : Int)))) rfl rfl ?_)
        rcases ite_some ht27115 with ⟨hc27128, ht27115⟩ | ⟨hc27128, ht27115⟩
        · refine WL_pass rfl (yield_of rfl (congrArg Value.bool hc27128)) rfl rfl ?_
          refine WL_pass rfl (yield_of rfl (congrArg Value.bool hc27128)) rfl rfl ?_
          refine WL_pass rfl (yield_of rfl (congrArg Value.bool hc27128)) rfl rfl ?_
          refine WL_pass rfl (yield_of rfl (congrArg Value.bool hc27128)) rfl rfl ?_
          refine WL_step rfl rfl (Exec.pick_t (v := Value.bool (true)) rfl (congrArg Value.bool hc27128) rfl ?_)
          refine WL_step rfl rfl (Exec.move (v := Value.bool (true)) rfl rfl ?_)
          refine WL_pass rfl (yield_of rfl rfl) rfl rfl ?_
          refine WL_pass rfl (yield_of rfl rfl) rfl rfl ?_
          refine WL_pass rfl (yield_of rfl rfl) rfl rfl ?_
          refine WL_pass rfl (yield_of rfl rfl) rfl rfl ?_
          refine WL_step rfl rfl (Exec.pick_t (v := Value.bool (true)) rfl rfl rfl ?_)
          refine WL_step rfl rfl (Exec.assign (v := Value.bool (true)) rfl rfl ?_)
          refine WL_nil (at_normal ?_)
          have e27129 := Option.some.inj ht27115
          subst z27114
          have hS27130 := (hS27124).drop
          exact ⟨s27122, l27123, hS27130, rfl⟩
        · replace hc27128 := not_true hc27128
          refine WL_run rfl (yield_of rfl (congrArg Value.bool hc27128)) rfl (Exec.field F26_3 rfl rfl rfl ?_)
          refine WL_run rfl (yield_of rfl (congrArg Value.bool hc27128)) rfl (Exec.load_box (hS27124) A23 rfl rfl rfl ?_)
          refine WL_run rfl (yield_of rfl (congrArg Value.bool hc27128)) rfl (Exec.len_rep S23 rfl rfl (a25724.mono l27123) ?_)
          refine WL_run rfl (yield_of rfl (congrArg Value.bool hc27128)) rfl (Exec.gtr rfl rfl rfl ?_)
          refine WL_step rfl rfl (Exec.pick_f (v := Value.bool (decide (150 < (x25720.Edges.length : Int)))) rfl (congrArg Value.bool hc27128) rfl ?_)
          refine WL_step rfl rfl (Exec.move (v := Value.bool (decide (150 < (x25720.Edges.length : Int)))) rfl rfl ?_)
          rcases ite_some ht27115 with ⟨hc27131, ht27115⟩ | ⟨hc27131, ht27115⟩
          · refine WL_pass rfl (yield_of rfl (congrArg Value.bool hc27131)) rfl rfl ?_
            refine WL_pass rfl (yield_of rfl (congrArg Value.bool hc27131)) rfl rfl ?_
            refine WL_pass rfl (yield_of rfl (congrArg Value.bool hc27131)) rfl rfl ?_
            refine WL_pass rfl (yield_of rfl (congrArg Value.bool hc27131)) rfl rfl ?_
            refine WL_step rfl rfl (Exec.pick_t (v := Value.bool (true)) rfl (congrArg Value.bool hc27131) rfl ?_)
            refine WL_step rfl rfl (Exec.assign (v := Value.bool (true)) rfl rfl ?_)
            refine WL_nil (at_normal ?_)
            have e27132 := Option.some.inj ht27115
            subst z27114
            have hS27133 := (hS27124).drop
            exact ⟨s27122, l27123, hS27133, rfl⟩
          · replace hc27131 := not_true hc27131
            refine WL_run rfl (yield_of rfl (congrArg Value.bool hc27131)) rfl (Exec.field F26_2 rfl rfl rfl ?_)
            refine WL_run rfl (yield_of rfl (congrArg Value.bool hc27131)) rfl (Exec.load_box (hS27124) A22 rfl rfl rfl ?_)
            refine WL_run rfl (yield_of rfl (congrArg Value.bool hc27131)) rfl (Exec.len_rep S22 rfl rfl (a25722.mono l27123) ?_)
            refine WL_run rfl (yield_of rfl (congrArg Value.bool hc27131)) rfl (Exec.gtr rfl rfl rfl ?_)
            refine WL_step rfl rfl (Exec.pick_f (v := Value.bool (decide (40 < (x25720.Costs.length : Int)))) rfl (congrArg Value.bool hc27131) rfl ?_)
            refine WL_step rfl rfl (Exec.assign (v := Value.bool (decide (40 < (x25720.Costs.length : Int)))) rfl rfl ?_)
            refine WL_nil (at_normal ?_)
            have e27134 := Option.some.inj ht27115
            subst z27114
            have hS27135 := (hS27124).drop
            exact ⟨s27122, l27123, hS27135, rfl⟩
    · replace hc27117 := not_true hc27117
      refine WL_pass rfl (yield_of rfl (congrArg Value.bool hc27117)) rfl rfl ?_
      refine WL_pass rfl (yield_of rfl (congrArg Value.bool hc27117)) rfl rfl ?_
      refine WL_step rfl rfl (Exec.pick_f (v := Value.bool (false)) rfl (congrArg Value.bool hc27117) rfl ?_)
      refine WL_step rfl rfl (Exec.move (v := Value.bool (false)) rfl rfl ?_)
      refine WL_run rfl (yield_of rfl rfl) rfl (Exec.field F26_4 rfl rfl rfl ?_)
      refine WL_run rfl (yield_of rfl rfl) rfl (Exec.load_box (hS27100) A24 rfl rfl rfl ?_)
      refine WL_run rfl (yield_of rfl rfl) rfl (Exec.len_rep S24 rfl rfl a25726 ?_)
      refine WL_run rfl (yield_of rfl rfl) rfl (Exec.gtr rfl rfl rfl ?_)
      refine WL_step rfl rfl (Exec.pick_f (v := Value.bool (decide (5000 < (x25720.Goals.length : Int)))) rfl rfl rfl ?_)
      refine WL_step rfl rfl (Exec.move (v := Value.bool (decide (5000 < (x25720.Goals.length : Int)))) rfl rfl ?_)
      rcases ite_some ht27115 with ⟨hc27136, ht27115⟩ | ⟨hc27136, ht27115⟩
      · refine WL_pass rfl (yield_of rfl (congrArg Value.bool hc27136)) rfl rfl ?_
        refine WL_pass rfl (yield_of rfl (congrArg Value.bool hc27136)) rfl rfl ?_
        refine WL_pass rfl (yield_of rfl (congrArg Value.bool hc27136)) rfl rfl ?_
        refine WL_pass rfl (yield_of rfl (congrArg Value.bool hc27136)) rfl rfl ?_
        refine WL_step rfl rfl (Exec.pick_t (v := Value.bool (true)) rfl (congrArg Value.bool hc27136) rfl ?_)
        refine WL_step rfl rfl (Exec.move (v := Value.bool (true)) rfl rfl ?_)
        refine WL_pass rfl (yield_of rfl rfl) rfl rfl ?_
        refine WL_pass rfl (yield_of rfl rfl) rfl rfl ?_
        refine WL_pass rfl (yield_of rfl rfl) rfl rfl ?_
        refine WL_pass rfl (yield_of rfl rfl) rfl rfl ?_
        refine WL_step rfl rfl (Exec.pick_t (v := Value.bool (true)) rfl rfl rfl ?_)
        refine WL_step rfl rfl (Exec.assign (v := Value.bool (true)) rfl rfl ?_)
        refine WL_nil (at_normal ?_)
        have e27137 := Option.some.inj ht27115
        subst z27114
        have hS27138 := (hS27100).drop
        exact ⟨s, (PHeap.le_refl _), hS27138, rfl⟩
      · replace hc27136 := not_true hc27136
        refine WL_run rfl (yield_of rfl (congrArg Value.bool hc27136)) rfl (Exec.field F26_3 rfl rfl rfl ?_)
        refine WL_run rfl (yield_of rfl (congrArg Value.bool hc27136)) rfl (Exec.load_box (hS27100) A23 rfl rfl rfl ?_)
        refine WL_run rfl (yield_of rfl (congrArg Value.bool hc27136)) rfl (Exec.len_rep S23 rfl rfl a25724 ?_)
        refine WL_run rfl (yield_of rfl (congrArg Value.bool hc27136)) rfl (Exec.gtr rfl rfl rfl ?_)
        refine WL_step rfl rfl (Exec.pick_f (v := Value.bool (decide (150 < (x25720.Edges.length : Int)))) rfl (congrArg Value.bool hc27136) rfl ?_)
        refine WL_step rfl rfl (Exec.move (v := Value.bool (decide (150 < (x25720.Edges.length : Int)))) rfl rfl ?_)
        rcases ite_some ht27115 with ⟨hc27139, ht27115⟩ | ⟨hc27139, ht27115⟩
        · refine WL_pass rfl (yield_of rfl (congrArg Value.bool hc27139)) rfl rfl ?_
          refine WL_pass rfl (yield_of rfl (congrArg Value.bool hc27139)) rfl rfl ?_
          refine WL_pass rfl (yield_of rfl (congrArg Value.bool hc27139)) rfl rfl ?_
          refine WL_pass rfl (yield_of rfl (congrArg Value.bool hc27139)) rfl rfl ?_
          refine WL_step rfl rfl (Exec.pick_t (v := Value.bool (true)) rfl (congrArg Value.bool hc27139) rfl ?_)
          refine WL_step rfl rfl (Exec.assign (v := Value.bool (true)) rfl rfl ?_)
          refine WL_nil (at_normal ?_)
          have e27140 := Option.some.inj ht27115
          subst z27114
          have hS27141 := (hS27100).drop
          exact ⟨s, (PHeap.le_refl _), hS27141, rfl⟩
        · replace hc27139 := not_true hc27139
          refine WL_run rfl (yield_of rfl (congrArg Value.bool hc27139)) rfl (Exec.field F26_2 rfl rfl rfl ?_)
          refine WL_run rfl (yield_of rfl (congrArg Value.bool hc27139)) rfl (Exec.load_box (hS27100) A22 rfl rfl rfl ?_)
          refine WL_run rfl (yield_of rfl (congrArg Value.bool hc27139)) rfl (Exec.len_rep S22 rfl rfl a25722 ?_)
          refine WL_run rfl (yield_of rfl (congrArg Value.bool hc27139)) rfl (Exec.gtr rfl rfl rfl ?_)
          refine WL_step rfl rfl (Exec.pick_f (v := Value.bool (decide (40 < (x25720.Costs.length : Int)))) rfl (congrArg Value.bool hc27139) rfl ?_)
          refine WL_step rfl rfl (Exec.assign (v := Value.bool (decide (40 < (x25720.Costs.length : Int)))) rfl rfl ?_)
          refine WL_nil (at_normal ?_)
          have e27142 := Option.some.inj ht27115
          subst z27114
          have hS27143 := (hS27100).drop
          exact ⟨s, (PHeap.le_refl _), hS27143, rfl⟩
  · intro f27144 w27145 hM27146
    obtain ⟨s27147, l27148, hS27149, p27150⟩ := hM27146
    refine (at_normal ?_)
    refine W_ret ?_
    have e27152 := Option.some.inj hm
    subst r
    refine ⟨_, ret1 rfl, ?_⟩
    exact ⟨s27147, l27148, hS27149, p27150⟩

theorem N23 : (Try.f23.name == "runtime.NumGoroutine") = false := by kernel_rfl

theorem transys_Trim_sim {w0 w : World} {s : PHeap} {H : List Res} {x27220 : System} {v27221 : Value} {v27223 : Value} {v27225 : Value} {r : (List Int) × (Option Int) × System} (hm : transys_Trim_p x27220 = some r) (hS : St w0 s (H) w) (a27222 : SliceRep (encInt .i64) s v27221 x27220.Costs) (a27224 : SliceRep encEdge s v27223 x27220.Edges) (a27226 : SliceRep encBool s v27225 x27220.Goals) :
    Calls Try.prog 23 #[Value.agg #[Value.int .i64 (x27220.States), Value.int .i64 (x27220.Init), v27221, v27223, v27225]] w fun e w' => ∃ v, e = .returned v ∧ ((un3 fun (y29584 : (List Int)) (y29585 : (Option Int)) (y29583 : System) => ∃ (s29610 : PHeap) (v29606 : Value) (v29607 : Value) (v29608 : Value) (v29609 : Value), PHeap.le s s29610 ∧ St w0 s29610 (H) w' ∧ v = Value.tuple #[Value.agg #[Value.int .i64 (y29583.States), Value.int .i64 (y29583.Init), v29607, v29608, v29609], v29606, errV 39 (y29585)] ∧ SliceRep (encInt .i64) s29610 v29606 y29584 ∧ SliceRep (encInt .i64) s29610 v29607 y29583.Costs ∧ SliceRep encEdge s29610 v29608 y29583.Edges ∧ SliceRep encBool s29610 v29609 y29583.Goals) r) := by
  unfold transys_Trim_p at hm
  refine calls_of_W Try.func23 rfl rfl ?_
  refine W_seq ?_
  refine W_region ?_
  refine WL_step rfl rfl (Exec.box (cs := [Value.int .i64 (x27220.States), Value.int .i64 (x27220.Init), v27221, v27223, v27225]) hS rfl rfl rfl ?_)
  intro b29617 w29618 hS29619
  refine WL_step rfl rfl (Exec.alloc (cs := [Value.int .i64 (0), Value.int .i64 (0), Value.slice none 0 0, Value.slice none 0 0, Value.slice none 0 0]) hS29619 Z26 rfl rfl ?_)
  intro b29620 w29621 hS29622
  refine WL_step rfl rfl (Exec.assign (v := Value.slice none 0 0) rfl rfl ?_)
  refine WL_step rfl rfl (Exec.assign (v := errV 39 (none)) rfl rfl ?_)
  refine WL_nil (at_normal ?_)
  refine W_seq ?_
  refine W_seq ?_
  refine W_region ?_
  refine WL_step rfl rfl (Exec.load_box_agg (ds := [Value.int .i64 (x27220.States), Value.int .i64 (x27220.Init), v27221, v27223, v27225]) ((hS29622).f1) A26 rfl rfl rfl ?_)
  obtain ⟨y29632, q29631, hm⟩ := bind_some hm
  refine WL_step rfl rfl (Exec.call rfl rfl Try.func25 rfl N25 (args_cons rfl args_nil) ((transys_Valid_sim q29631 hS29622 a27222 a27224 a27226).mono ?_))
  rintro _ w29633 ⟨_, rfl, ⟨s29634, l29635, hS29636, rfl⟩⟩
  refine ⟨_, rfl, ?_⟩
  refine WL_step rfl rfl (Exec.not rfl rfl ?_)
  refine WL_nil (at_normal ?_)
  rcases ite_some hm with ⟨hc29637, hm⟩ | ⟨hc29637, hm⟩
  · refine W_cond_t rfl hc29637 ?_
    refine W_seq ?_
    refine W_region ?_
    refine WL_step rfl rfl (Exec.build rfl parts_nil (v := Value.agg #[Value.int .i64 (0), Value.int .i64 (0), Value.slice none 0 0, Value.slice none 0 0, Value.slice none 0 0]) (fun _ => by kernel_rfl) ?_)
    refine WL_step rfl rfl (Exec.makeInterface C39 rfl rfl ?_)
    refine WL_step rfl rfl (Exec.store_box (ds := [Value.int .i64 (0), Value.int .i64 (0), Value.slice none 0 0, Value.slice none 0 0, Value.slice none 0 0]) (es := [Value.int .i64 (0), Value.int .i64 (0), Value.slice none 0 0, Value.slice none 0 0, Value.slice none 0 0]) hS29636 A26 rfl rfl rfl rfl (one_cons rfl (one_cons rfl (one_cons rfl (one_cons rfl (one_cons rfl one_nil))))) (Nat.le_of_ble_eq_true rfl) rfl ?_)
    intro w29640 hS29641
    refine WL_step rfl rfl (Exec.assign (v := Value.slice none 0 0) rfl rfl ?_)
    refine WL_step rfl rfl (Exec.assign (v := errV 39 (some 2)) rfl rfl ?_)
    refine WL_nil (at_normal ?_)
    refine W_ret (at_ret ?_)
    have e29643 := Option.some.inj hm
    subst r
    refine ⟨_, retG3 rfl ⟨_, _, rfl, cellRes (hS29641) A26⟩ rfl rfl, ?_⟩
    have hS29644 := (hS29641).drop
    have hS29645 := (hS29644).drop
    exact ⟨s29634, (Value.slice none 0 0), (Value.slice none 0 0), (Value.slice none 0 0), (Value.slice none 0 0), l29635, hS29645, (tup3 rfl rfl rfl), (SliceRep.nil _ _), (SliceRep.nil _ _), (SliceRep.nil _ _), (SliceRep.nil _ _)⟩
  · refine W_cond_f rfl hc29637 ?_
    replace hc29637 := not_true hc29637
    refine W_skip (at_normal ?_)
    refine W_seq ?_
    refine W_dl (n0 := 10) (.q 0 (.q 1 (.q 2 (.q 5 (.q 6 (.e 3 [0, 5, 6] (.e 4 [5, 6] (.e 7 [5] (.e 8 [] (.q 9 .done)))))))))) hmix (by kernel_rfl) (by kernel_rfl) ?_
    have hS29754 := hS29636.drew
    refine DL_q rfl rfl (Exec.load_box_agg (ds := [Value.int .i64 (x27220.States), Value.int .i64 (x27220.Init), v27221, v27223, v27225]) ((hS29754).f1) A26 rfl rfl rfl ⟨rfl, ?_⟩)
    refine DL_q rfl rfl (Exec.field F26_1 rfl rfl rfl ⟨rfl, ?_⟩)
    refine DL_q rfl rfl (Exec.load_box ((hS29754).f1) A3 rfl rfl rfl ⟨rfl, ?_⟩)
    refine DL_q rfl rfl (Exec.load_box_agg (ds := [Value.int .i64 (x27220.States), Value.int .i64 (x27220.Init), v27221, v27223, v27225]) ((hS29754).f1) A26 rfl rfl rfl ⟨rfl, ?_⟩)
    refine DL_q rfl rfl (Exec.load_box_agg (ds := [Value.int .i64 (x27220.States), Value.int .i64 (x27220.Init), v27221, v27223, v27225]) ((hS29754).f1) A26 rfl rfl rfl ⟨rfl, ?_⟩)
    refine DL_e rfl rfl (Exec.buildSlice (Te := 3) (cs := [Value.int .i64 (x27220.Init)]) hS29754 rfl (parts_cons (c := [Value.int .i64 (x27220.Init)]) (cells_of rfl rfl) parts_nil) (fun _ => by kernel_rfl) ?_)
    intro b29755 w29756 hS29757
    refine ⟨(ag_cons (ag_r rfl rfl (Exec.load_box_agg (ds := [Value.int .i64 (x27220.States), Value.int .i64 (x27220.Init), v27221, v27223, v27225]) ((hS29757).f2) A26 rfl rfl rfl ⟨rfl, rfl⟩)) (ag_cons (ag_r rfl rfl (Exec.load_box_agg (ds := [Value.int .i64 (x27220.States), Value.int .i64 (x27220.Init), v27221, v27223, v27225]) ((hS29757).f2) A26 rfl rfl rfl ⟨rfl, rfl⟩)) (ag_cons (ag_r rfl rfl (Exec.load_box_agg (ds := [Value.int .i64 (x27220.States), Value.int .i64 (x27220.Init), v27221, v27223, v27225]) ((hS29757).f2) A26 rfl rfl rfl ⟨rfl, rfl⟩)) ag_nil))), ?_⟩
    have hS29758 := St.boxArr (E := (encInt .i64)) (xs := [x27220.Init]) hS29757 ⟨[Value.int .i64 (x27220.Init)], [], rfl, rfl, rfl⟩ (by simp [maxLen])
    obtain ⟨s29759, l29760, hS29761, r29762⟩ := hS29758.freezeArr
    obtain ⟨y29765, q29764, hm⟩ := bind_some hm
    refine DL_e rfl rfl (Exec.call rfl rfl Try.func42 rfl N42 (args_cons rfl (args_cons rfl (args_cons rfl args_nil))) ((transys_shortest_sim q29764 hS29761 (a27222.mono (PHeap.le.trans l29635 l29760)) (a27224.mono (PHeap.le.trans l29635 l29760)) (a27226.mono (PHeap.le.trans l29635 l29760)) r29762).mono ?_))
    rintro _ w29766 ⟨v29770, rfl, ⟨s29767, _, l29768, hS29769, rfl, r29771⟩⟩
    refine ⟨_, rfl, ?_⟩
    refine ⟨(ag_cons (ag_r rfl rfl (Exec.load_box_agg (ds := [Value.int .i64 (x27220.States), Value.int .i64 (x27220.Init), v27221, v27223, v27225]) ((hS29769).f1) A26 rfl rfl rfl ⟨rfl, rfl⟩)) (ag_cons (ag_r rfl rfl (Exec.load_box_agg (ds := [Value.int .i64 (x27220.States), Value.int .i64 (x27220.Init), v27221, v27223, v27225]) ((hS29769).f1) A26 rfl rfl rfl ⟨rfl, rfl⟩)) ag_nil)), ?_⟩
    obtain ⟨y29774, q29773, hm⟩ := bind_some hm
    refine DL_e rfl rfl (Exec.call rfl rfl Try.func43 rfl N43 (args_cons rfl args_nil) ((transys_goals_sim q29773 hS29769 (a27222.mono (PHeap.le.trans (PHeap.le.trans l29635 l29760) l29768)) (a27224.mono (PHeap.le.trans (PHeap.le.trans l29635 l29760) l29768)) (a27226.mono (PHeap.le.trans (PHeap.le.trans l29635 l29760) l29768))).mono ?_))
    rintro _ w29775 ⟨v29779, rfl, ⟨s29776, _, l29777, hS29778, rfl, r29780⟩⟩
    refine ⟨_, rfl, ?_⟩
    refine ⟨(ag_cons (ag_r rfl rfl (Exec.load_box_agg (ds := [Value.int .i64 (x27220.States), Value.int .i64 (x27220.Init), v27221, v27223, v27225]) ((hS29778).f1) A26 rfl rfl rfl ⟨rfl, rfl⟩)) ag_nil), ?_⟩
    obtain ⟨y29783, q29782, hm⟩ := bind_some hm
    refine DL_e rfl rfl (Exec.call rfl rfl Try.func42 rfl N42 (args_cons rfl (args_cons rfl (args_cons rfl args_nil))) ((transys_shortest_sim q29782 hS29778 (a27222.mono (PHeap.le.trans (PHeap.le.trans (PHeap.le.trans l29635 l29760) l29768) l29777)) (a27224.mono (PHeap.le.trans (PHeap.le.trans (PHeap.le.trans l29635 l29760) l29768) l29777)) (a27226.mono (PHeap.le.trans (PHeap.le.trans (PHeap.le.trans l29635 l29760) l29768) l29777)) r29780).mono ?_))
    rintro _ w29784 ⟨v29788, rfl, ⟨s29785, _, l29786, hS29787, rfl, r29789⟩⟩
    refine ⟨_, rfl, ?_⟩
    refine ⟨ag_nil, ?_⟩
    refine DL_q rfl rfl (Exec.assign (v := v29770) rfl rfl ⟨rfl, ?_⟩)
    refine DL_done ?_
    refine WL_step rfl rfl (Exec.assign (v := v29788) rfl rfl ?_)
    refine WL_nil (at_normal ?_)
    refine W_seq ?_
    refine W_region ?_
    refine WL_step rfl rfl (Exec.field F26_2 rfl rfl rfl ?_)
    refine WL_step rfl rfl (Exec.load_box ((hS29787).f1) A22 rfl rfl rfl ?_)
    obtain ⟨y29805, q29804, hm⟩ := bind_some hm
    refine WL_step rfl rfl (Exec.call rfl rfl Try.func36 rfl N36 (args_cons rfl args_nil) ((slices_Clone___int_int__sim q29804 hS29787 (a27222.mono (PHeap.le.trans (PHeap.le.trans (PHeap.le.trans (PHeap.le.trans l29635 l29760) l29768) l29777) l29786))).mono ?_))
    rintro _ w29806 ⟨v29810, rfl, ⟨s29807, _, l29808, hS29809, rfl⟩⟩
    refine ⟨_, rfl, ?_⟩
    refine WL_step rfl rfl (Exec.build rfl (parts_cons (c := [v29810]) (cells_of rfl (cells_one (hS29809).arr_one)) parts_nil) (v := Value.agg #[Value.int .i64 (0), Value.int .i64 (0), v29810, Value.slice none 0 0, Value.slice none 0 0]) (fun _ => by kernel_rfl) ?_)
    refine WL_step rfl rfl (Exec.alloc (cs := [Value.int .i64 (0), Value.int .i64 (0), Value.slice none 0 0, Value.slice none 0 0, Value.slice none 0 0]) hS29809 Z26 rfl rfl ?_)
    intro b29811 w29812 hS29813
    refine WL_step rfl rfl (Exec.store_box (ds := [Value.int .i64 (0), Value.int .i64 (0), v29810, Value.slice none 0 0, Value.slice none 0 0]) (es := [Value.int .i64 (0), Value.int .i64 (0), v29810, Value.slice none 0 0, Value.slice none 0 0]) hS29813 A26 rfl rfl rfl rfl (one_cons rfl (one_cons rfl (one_cons ((hS29813).f1).arr_one (one_cons rfl (one_cons rfl one_nil))))) (Nat.le_of_ble_eq_true rfl) rfl ?_)
    intro w29814 hS29815
    refine WL_nil (at_normal ?_)
    refine W_seq ?_
    refine W_region ?_
    refine WL_step rfl rfl (Exec.field F26_0 rfl rfl rfl ?_)
    refine WL_step rfl rfl (Exec.load_box ((hS29815).f3) A3 rfl rfl rfl ?_)
    obtain ⟨l29821, q29822, hm⟩ := bind_some hm
    refine WL_step rfl rfl (Exec.make (E := (encInt .i64)) hS29815 S22 Z3 rfl rfl rfl rfl q29822 ?_)
    intro v29823 w29824 hS29825
    refine WL_step rfl rfl (Exec.assign (v := v29823) rfl rfl ?_)
    refine WL_nil (at_normal ?_)
    refine W_seq ?_
    refine W_seq ?_
    refine W_region ?_
    refine WL_step rfl rfl (Exec.move (v := v29823) rfl rfl ?_)
    refine WL_step rfl rfl (Exec.len_arr (hS29825) S22 rfl rfl ?_)
    refine WL_step rfl rfl (Exec.move (v := Value.int .i64 (0)) rfl rfl ?_)
    refine WL_nil (at_normal ?_)
    obtain ⟨t30522, hB30523, hm⟩ := bind_some hm
    refine W_block (W_forS (fun k' s' f' w' => (un3 fun (z30177 : Int) (z30178 : (List Bool)) (l30180 : (List Int)) => ∃ (s30524 : PHeap) (v30179 : Value), PHeap.le s29807 s30524 ∧ St w0 s30524 (Res.box b29617 26 [Value.int .i64 (x27220.States), Value.int .i64 (x27220.Init), v27221, v27223, v27225] :: Res.box b29620 26 [Value.int .i64 (0), Value.int .i64 (0), Value.slice none 0 0, Value.slice none 0 0, Value.slice none 0 0] :: Res.box b29811 26 [Value.int .i64 (z30177), Value.int .i64 (0), v29810, Value.slice none 0 0, v30179] :: Res.arr (encInt .i64) 3 v29823 l30180 :: Res.arr (encInt .i64) 3 v29810 y29805 :: Res.arr encBool 4 v30179 z30178 :: H) w' ∧ f' 1 = Value.pointer (some ⟨b29617, 0, none⟩) ∧ f' 2 = Value.pointer (some ⟨b29620, 0, none⟩) ∧ f' 5 = v29770 ∧ f' 6 = v29788 ∧ f' 7 = Value.pointer (some ⟨b29811, 0, none⟩) ∧ f' 8 = v29823 ∧ f' 34 = Value.int .i64 ((l29821.length : Int)) ∧ f' 35 = Value.int .i64 (k' : Int)) s') hB30523 ?_ ?_ ?_)
    · have hS30525 := hS29825.nilArr encBool 4
      have hS30526 := (hS30525).f3
      have hS30527 := (hS30526).f2
      have hS30528 := (hS30527).f3
      have hS30529 := (hS30528).f4
      have hS30530 := (hS30529).f5
      exact ⟨s29807, (Value.slice none 0 0), (PHeap.le_refl _), hS30530, rfl, rfl, rfl, rfl, rfl, rfl, rfl, rfl⟩
    · intro i29826 t30538 s30532 f30533 w30534 hi30535 hI30536 hm30537
      obtain ⟨z30177, z30178, l30180⟩ := t30538
      replace hm30537 := un3_eq hm30537
      obtain ⟨s30539, v30179, l30540, hS30541, p30542, p30543, p30544, p30545, p30546, p30547, p30548, x30549⟩ := hI30536
      refine W_seq ?_
      refine W_region ?_
      refine WL_step rfl rfl (Exec.lss rfl x30549 p30548 ?_)
      refine WL_nil (at_normal ?_)
      refine W_seq ?_
      refine W_true (congrArg Value.bool (decide_eq_true (by omega))) ?_
      refine W_skip (at_normal ?_)
      refine W_seq ?_
      refine W_block ?_
      refine W_seq ?_
      refine W_region ?_
      refine WL_step rfl rfl (Exec.move (v := Value.int .i64 ((i29826 : Int))) rfl x30549 ?_)
      refine WL_step rfl rfl (Exec.assign (v := Value.int .i64 ((i29826 : Int))) rfl rfl ?_)
      refine WL_nil (at_normal ?_)
      refine W_seq ?_
      refine W_region ?_
      refine WL_step rfl rfl (Exec.move (v := v29823) rfl p30547 ?_)
      refine WL_step rfl rfl (Exec.move (v := Value.int .i64 ((i29826 : Int))) rfl rfl ?_)
      obtain ⟨x30560, q30561, hm30537⟩ := bind_some hm30537
      obtain ⟨g30562, c30563, e30564⟩ := ((hS30541).f3).arr_at q30561
      refine WL_step rfl rfl (Exec.index_slice S22 rfl e30564 rfl (idx_some q30561).1 (idx_some q30561).2.1 ?_)
      obtain ⟨l30565, q30566, hm30537⟩ := bind_some hm30537
      have hS30567 := (hS30541).f3
      refine WL_step rfl rfl (Exec.store_arr hS30567 e30564 A3 rfl rfl rfl rfl (encInt_val.2 rfl) q30566 ?_)
      intro w30568 hS30569
      refine WL_nil (at_normal ?_)
      refine W_seq ?_
      obtain ⟨z30586, ht30587, hm30537⟩ := bind_some hm30537
      refine W_mid (M := fun f' w' => (fun (z30586 : Bool) => ∃ (s30588 : PHeap) , PHeap.le s30539 s30588 ∧ St w0 s30588 (Res.box b29617 26 [Value.int .i64 (x27220.States), Value.int .i64 (x27220.Init), v27221, v27223, v27225] :: Res.box b29620 26 [Value.int .i64 (0), Value.int .i64 (0), Value.slice none 0 0, Value.slice none 0 0, Value.slice none 0 0] :: Res.box b29811 26 [Value.int .i64 (z30177), Value.int .i64 (0), v29810, Value.slice none 0 0, v30179] :: Res.arr (encInt .i64) 3 v29823 l30565 :: Res.arr (encInt .i64) 3 v29810 y29805 :: Res.arr encBool 4 v30179 z30178 :: H) w' ∧ f' 1 = Value.pointer (some ⟨b29617, 0, none⟩) ∧ f' 2 = Value.pointer (some ⟨b29620, 0, none⟩) ∧ f' 5 = v29770 ∧ f' 6 = v29788 ∧ f' 7 = Value.pointer (some ⟨b29811, 0, none⟩) ∧ f' 8 = v29823 ∧ f' 9 = Value.int .i64 ((i29826 : Int)) ∧ f' 34 = Value.int .i64 ((l29821.length : Int)) ∧ f' 35 = Value.int .i64 ((i29826 : Int)) ∧ f' 58 = Value.bool (z30586)) z30586) ?_ ?_
      · refine W_region ?_
        refine WL_step rfl rfl (Exec.move (v := Value.int .i64 ((i29826 : Int))) rfl rfl ?_)
        refine WL_step rfl rfl (Exec.field F26_1 rfl p30542 rfl ?_)
        refine WL_step rfl rfl (Exec.load_box ((hS30569).f1) A3 rfl rfl rfl ?_)
        refine WL_step rfl rfl (Exec.eql rfl rfl rfl ?_)
        refine WL_step rfl rfl (Exec.move (v := Value.bool (decide ((i29826 : Int) = x27220.Init))) rfl rfl ?_)
        rcases ite_some ht30587 with ⟨hc30589, ht30587⟩ | ⟨hc30589, ht30587⟩
        · refine WL_pass rfl (yield_of rfl (congrArg Value.bool hc30589)) rfl rfl ?_
          refine WL_pass rfl (yield_of rfl (congrArg Value.bool hc30589)) rfl rfl ?_
          refine WL_pass rfl (yield_of rfl (congrArg Value.bool hc30589)) rfl rfl ?_
          refine WL_pass rfl (yield_of rfl (congrArg Value.bool hc30589)) rfl rfl ?_
          refine WL_pass rfl (yield_of rfl (congrArg Value.bool hc30589)) rfl rfl ?_
          refine WL_pass rfl (yield_of rfl (congrArg Value.bool hc30589)) rfl rfl ?_
          refine WL_pass_none rfl (yield_undef rfl rfl) rfl ?_
          refine WL_pass_none rfl (yield_undef rfl rfl) rfl ?_
          refine WL_pass_none rfl (yield_undef rfl rfl) rfl ?_
          refine WL_pass_none rfl (yield_undef rfl rfl) rfl ?_
          refine WL_pass_none rfl (yield_undef rfl rfl) rfl ?_
          refine WL_pass rfl (yield_of rfl (congrArg Value.bool hc30589)) rfl rfl ?_
          refine WL_step rfl rfl (Exec.pick_t (v := Value.bool (true)) rfl (congrArg Value.bool hc30589) rfl ?_)
          refine WL_nil (at_normal ?_)
          have e30590 := Option.some.inj ht30587
          subst z30586
          have hS30591 := (hS30569).f5
          have hS30592 := (hS30591).f5
          have hS30593 := (hS30592).f2
          have hS30594 := (hS30593).f5
          have hS30595 := (hS30594).f5
          have hS30596 := (hS30595).f5
          exact ⟨s30539, (PHeap.le_refl _), hS30596, p30542, p30543, p30544, p30545, p30546, p30547, rfl, p30548, x30549, rfl⟩
        · replace hc30589 := not_true hc30589
          refine WL_run rfl (yield_of rfl (congrArg Value.bool hc30589)) rfl (Exec.move (v := v29770) rfl p30544 ?_)
          refine WL_run rfl (yield_of rfl (congrArg Value.bool hc30589)) rfl (Exec.move (v := Value.int .i64 ((i29826 : Int))) rfl rfl ?_)
          obtain ⟨x30597, q30598, ht30587⟩ := bind_some ht30587
          refine WL_run rfl (yield_of rfl (congrArg Value.bool hc30589)) rfl (Exec.index_rep S22 rfl rfl rfl (r29771.mono (PHeap.le.trans (PHeap.le.trans (PHeap.le.trans l29777 l29786) l29808) l30540)) q30598 ?_)
          intro b30599 o30600 a30601
          refine WL_run rfl (yield_of rfl (congrArg Value.bool hc30589)) rfl (Exec.load_at (E := (encInt .i64)) hS30569 A3 rfl rfl rfl a30601 ?_)
          intro v30602 q30603
          obtain rfl := encInt_val.1 q30603
          refine WL_run rfl (yield_of rfl (congrArg Value.bool hc30589)) rfl (Exec.lss rfl rfl rfl ?_)
          refine WL_run rfl (yield_of rfl (congrArg Value.bool hc30589)) rfl (Exec.move (v := Value.bool (decide (x30597 < 1125899906842624))) rfl rfl ?_)
          rcases ite_some ht30587 with ⟨hc30604, ht30587⟩ | ⟨hc30604, ht30587⟩
          · refine WL_run rfl (yield_of rfl (congrArg Value.bool hc30604)) rfl (Exec.move (v := v29788) rfl p30545 ?_)
            refine WL_run rfl (yield_of rfl (congrArg Value.bool hc30604)) rfl (Exec.move (v := Value.int .i64 ((i29826 : Int))) rfl rfl ?_)
            obtain ⟨x30605, q30606, ht30587⟩ := bind_some ht30587
            refine WL_run rfl (yield_of rfl (congrArg Value.bool hc30604)) rfl (Exec.index_rep S22 rfl rfl rfl (r29789.mono (PHeap.le.trans l29808 l30540)) q30606 ?_)
            intro b30607 o30608 a30609
            refine WL_run rfl (yield_of rfl (congrArg Value.bool hc30604)) rfl (Exec.load_at (E := (encInt .i64)) hS30569 A3 rfl rfl rfl a30609 ?_)
            intro v30610 q30611
            obtain rfl := encInt_val.1 q30611
            refine WL_run rfl (yield_of rfl (congrArg Value.bool hc30604)) rfl (Exec.lss rfl rfl rfl ?_)
            refine WL_run rfl (yield_of rfl (congrArg Value.bool hc30589)) rfl (Exec.pick_t (v := Value.bool (decide (x30605 < 1125899906842624))) rfl (congrArg Value.bool hc30604) rfl ?_)
            refine WL_step rfl rfl (Exec.pick_f (v := Value.bool (decide (x30605 < 1125899906842624))) rfl (congrArg Value.bool hc30589) rfl ?_)
            refine WL_nil (at_normal ?_)
            have e30612 := Option.some.inj ht30587
            subst z30586
            have hS30613 := (hS30569).f5
            have hS30614 := (hS30613).f5
            have hS30615 := (hS30614).f2
            have hS30616 := (hS30615).f5
            have hS30617 := (hS30616).f5
            have hS30618 := (hS30617).f5
            exact ⟨s30539, (PHeap.le_refl _), hS30618, p30542, p30543, p30544, p30545, p30546, p30547, rfl, p30548, x30549, rfl⟩
          · replace hc30604 := not_true hc30604
            refine WL_pass rfl (yield_of rfl (congrArg Value.bool hc30604)) rfl rfl ?_
            refine WL_pass rfl (yield_of rfl (congrArg Value.bool hc30604)) rfl rfl ?_
            refine WL_pass rfl (yield_of rfl (congrArg Value.bool hc30604)) rfl rfl ?_
            refine WL_pass rfl (yield_of rfl (congrArg Value.bool hc30604)) rfl rfl ?_
            refine WL_pass rfl (yield_of rfl (congrArg Value.bool hc30604)) rfl rfl ?_
            refine WL_run rfl (yield_of rfl (congrArg Value.bool hc30589)) rfl (Exec.pick_f (v := Value.bool (false)) rfl (congrArg Value.bool hc30604) rfl ?_)
            refine WL_step rfl rfl (Exec.pick_f (v := Value.bool (false)) rfl (congrArg Value.bool hc30589) rfl ?_)
            refine WL_nil (at_normal ?_)
            have e30619 := Option.some.inj ht30587
            subst z30586
            have hS30620 := (hS30569).f5
            have hS30621 := (hS30620).f5
            have hS30622 := (hS30621).f2
            have hS30623 := (hS30622).f5
            have hS30624 := (hS30623).f5
            have hS30625 := (hS30624).f5
            exact ⟨s30539, (PHeap.le_refl _), hS30625, p30542, p30543, p30544, p30545, p30546, p30547, rfl, p30548, x30549, rfl⟩
      · intro f30626 w30627 hM30628
        obtain ⟨s30629, l30630, hS30631, p30632, p30633, p30634, p30635, p30636, p30637, p30638, p30639, p30640, p30641⟩ := hM30628
        refine (at_normal ?_)
        obtain ⟨t30750, ht30751, hm30537⟩ := bind_some hm30537
        refine W_mid (M := fun f' w' => (un3 fun (z30746 : Int) (l30747 : (List Int)) (l30748 : (List Bool)) => ∃ (s30752 : PHeap) (v30749 : Value), PHeap.le s30629 s30752 ∧ St w0 s30752 (Res.box b29617 26 [Value.int .i64 (x27220.States), Value.int .i64 (x27220.Init), v27221, v27223, v27225] :: Res.box b29620 26 [Value.int .i64 (0), Value.int .i64 (0), Value.slice none 0 0, Value.slice none 0 0, Value.slice none 0 0] :: Res.box b29811 26 [Value.int .i64 (z30746), Value.int .i64 (0), v29810, Value.slice none 0 0, v30749] :: Res.arr (encInt .i64) 3 v29823 l30747 :: Res.arr (encInt .i64) 3 v29810 y29805 :: Res.arr encBool 4 v30749 l30748 :: H) w' ∧ f' 1 = Value.pointer (some ⟨b29617, 0, none⟩) ∧ f' 2 = Value.pointer (some ⟨b29620, 0, none⟩) ∧ f' 5 = v29770 ∧ f' 6 = v29788 ∧ f' 7 = Value.pointer (some ⟨b29811, 0, none⟩) ∧ f' 8 = v29823 ∧ f' 34 = Value.int .i64 ((l29821.length : Int)) ∧ f' 35 = Value.int .i64 ((i29826 : Int))) t30750) ?_ ?_
        · rcases ite_some ht30751 with ⟨hc30753, ht30751⟩ | ⟨hc30753, ht30751⟩
          · refine W_cond_t p30641 hc30753 ?_
            refine W_seq ?_
            refine W_region ?_
            refine WL_step rfl rfl (Exec.move (v := v29823) rfl p30637 ?_)
            refine WL_step rfl rfl (Exec.move (v := Value.int .i64 ((i29826 : Int))) rfl p30638 ?_)
            refine WL_step rfl rfl (Exec.field F26_0 rfl p30636 rfl ?_)
            refine WL_step rfl rfl (Exec.load_box ((hS30631).f2) A3 rfl rfl rfl ?_)
            obtain ⟨x30764, q30765, ht30751⟩ := bind_some ht30751
            obtain ⟨g30766, c30767, e30768⟩ := ((hS30631).f3).arr_at q30765
            refine WL_step rfl rfl (Exec.index_slice S22 rfl e30768 rfl (idx_some q30765).1 (idx_some q30765).2.1 ?_)
            obtain ⟨l30769, q30770, ht30751⟩ := bind_some ht30751
            have hS30771 := (hS30631).f3
            refine WL_step rfl rfl (Exec.store_arr hS30771 e30768 A3 rfl rfl rfl rfl (encInt_val.2 rfl) q30770 ?_)
            intro w30772 hS30773
            refine WL_nil (at_normal ?_)
            refine W_seq ?_
            refine W_region ?_
            refine WL_step rfl rfl (Exec.field F26_0 rfl p30636 rfl ?_)
            refine WL_step rfl rfl (Exec.load_box ((hS30773).f3) A3 rfl rfl rfl ?_)
            refine WL_step rfl rfl (Exec.add rfl rfl rfl ?_)
            refine WL_step rfl rfl (Exec.field F26_0 rfl p30636 rfl ?_)
            have hS30777 := (hS30773).f3
            refine WL_step rfl rfl (Exec.store_box (ds := [Value.int .i64 (IntKind.i64.wrap (z30177 + 1))]) (es := [Value.int .i64 (IntKind.i64.wrap (z30177 + 1)), Value.int .i64 (0), v29810, Value.slice none 0 0, v30179]) hS30777 A3 rfl rfl rfl rfl (one_cons rfl one_nil) (Nat.le_of_ble_eq_true rfl) rfl ?_)
            intro w30778 hS30779
            refine WL_nil (at_normal ?_)
            refine W_dl (n0 := 9) (.q 0 (.q 1 (.q 2 (.q 3 (.q 4 (.q 5 (.q 6 (.e 7 [0, 1] (.e 8 [] .done))))))))) hmix (by kernel_rfl) (by kernel_rfl) ?_
            have hS30837 := hS30779.drew
            refine DL_q rfl rfl (Exec.field F26_4 rfl p30636 rfl ⟨rfl, ?_⟩)
            refine DL_q rfl rfl (Exec.load_box (hS30837) A24 rfl rfl rfl ⟨rfl, ?_⟩)
            refine DL_q rfl rfl (Exec.field F26_4 rfl p30632 rfl ⟨rfl, ?_⟩)
            refine DL_q rfl rfl (Exec.load_box ((hS30837).f2) A24 rfl rfl rfl ⟨rfl, ?_⟩)
            refine DL_q rfl rfl (Exec.move (v := Value.int .i64 ((i29826 : Int))) rfl p30638 ⟨rfl, ?_⟩)
            obtain ⟨x30838, q30839, ht30751⟩ := bind_some ht30751
            refine DL_q rfl rfl (Exec.index_repE S24 rfl rfl rfl (a27226.mono (PHeap.le.trans (PHeap.le.trans (PHeap.le.trans (PHeap.le.trans (PHeap.le.trans (PHeap.le.trans (PHeap.le.trans l29635 l29760) l29768) l29777) l29786) l29808) l30540) l30630)) q30839 ?_)
            intro b30840 o30841 a30842 e30843
            refine ⟨rfl, ?_⟩
            refine DL_q rfl rfl (Exec.load_at (E := encBool) hS30837 A4 rfl rfl rfl a30842 ?_)
            intro v30844 q30845
            obtain rfl := encBool_val.1 q30845
            refine ⟨rfl, ?_⟩
            refine DL_e rfl rfl (Exec.buildSlice (Te := 4) (cs := [Value.bool (x30838)]) hS30837 rfl (parts_cons (c := [Value.bool (x30838)]) (cells_of rfl rfl) parts_nil) (fun _ => by kernel_rfl) ?_)
            intro b30846 w30847 hS30848
            refine ⟨(ag_cons (ag_r rfl rfl (Exec.field F26_4 rfl p30636 rfl ⟨rfl, rfl⟩)) (ag_cons (ag_r rfl rfl (Exec.load_box ((hS30848).f1) A24 rfl rfl rfl ⟨rfl, rfl⟩)) ag_nil)), ?_⟩
            obtain ⟨l30849, q30850, ht30751⟩ := bind_some ht30751
            have hS30851 := (hS30848).f6
            refine DL_e rfl rfl (Exec.append_box (E := encBool) (ys := [x30838]) hS30851 S24 Z4 rfl (by decide) rfl rfl rfl rfl ⟨[Value.bool (x30838)], [], rfl, rfl, rfl⟩ rfl q30850 ?_)
            intro v30852 w30853 hS30854
            refine ⟨ag_nil, ?_⟩
            refine DL_done ?_
            refine WL_step rfl rfl (Exec.field F26_4 rfl p30636 rfl ?_)
            have hS30855 := (hS30854).f1
            refine WL_step rfl rfl (Exec.store_box (ds := [v30852]) (es := [Value.int .i64 (IntKind.i64.wrap (z30177 + 1)), Value.int .i64 (0), v29810, Value.slice none 0 0, v30852]) hS30855 A24 rfl rfl rfl (cells_one ((hS30855).f1).arr_one) (one_cons ((hS30855).f1).arr_one one_nil) (Nat.le_of_ble_eq_true rfl) rfl ?_)
            intro w30856 hS30857
            refine WL_nil (at_normal ?_)
            have e30858 := Option.some.inj ht30751
            subst t30750
            have hS30859 := (hS30857).f1
            have hS30860 := (hS30859).f5
            have hS30861 := (hS30860).f3
            have hS30862 := (hS30861).f3
            have hS30863 := (hS30862).f5
            have hS30864 := (hS30863).f5
            exact ⟨s30629, v30852, (PHeap.le_refl _), hS30864, p30632, p30633, p30634, p30635, p30636, p30637, p30639, p30640⟩
          · refine W_cond_f p30641 hc30753 ?_
            replace hc30753 := not_true hc30753
            refine W_skip (at_normal ?_)
            have e30865 := Option.some.inj ht30751
            subst t30750
            have hS30866 := (hS30631).f5
            have hS30867 := (hS30866).f5
            have hS30868 := (hS30867).f5
            have hS30869 := (hS30868).f5
            have hS30870 := (hS30869).f5
            have hS30871 := (hS30870).f5
            exact ⟨s30629, v30179, (PHeap.le_refl _), hS30871, p30632, p30633, p30634, p30635, p30636, p30637, p30639, p30640⟩
        · intro f30872 w30873 hM30874
          obtain ⟨z30746, l30747, l30748⟩ := t30750
          replace hm30537 := un3_eq hm30537
          obtain ⟨s30875, v30749, l30876, hS30877, p30878, p30879, p30880, p30881, p30882, p30883, p30884, p30885⟩ := hM30874
          refine (ib_normal (at_normal ?_))
          refine W_region ?_
          refine WL_step rfl rfl (Exec.add rfl p30885 rfl ?_)
          refine WL_step rfl rfl (Exec.move (v := Value.int .i64 (IntKind.i64.wrap ((i29826 : Int) + 1))) rfl rfl ?_)
          refine WL_nil (at_normal ?_)
          have e30886 := Option.some.inj hm30537
          subst s30532
          have hS30887 := (hS30877).f5
          have hS30888 := (hS30887).f5
          have hS30889 := (hS30888).f5
          have hS30890 := (hS30889).f5
          have hS30891 := (hS30890).f5
          have hS30892 := (hS30891).f5
          exact ⟨s30875, v30749, (PHeap.le.trans (PHeap.le.trans l30540 l30630) l30876), hS30892, p30878, p30879, p30880, p30881, p30882, p30883, p30884, (Eq.trans rfl (wrap_up hi30535 (hS29825).arr_le))⟩
    · intro f30893 w30894 hI30895
      obtain ⟨z30177, z30178, l30180⟩ := t30522
      replace hm := un3_eq hm
      obtain ⟨s30896, v30179, l30897, hS30898, p30899, p30900, p30901, p30902, p30903, p30904, p30905, x30906⟩ := hI30895
      refine W_seq ?_
      refine W_region ?_
      refine WL_step rfl rfl (Exec.lss rfl x30906 p30905 ?_)
      refine WL_nil (at_normal ?_)
      refine W_seq ?_
      refine W_false (congrArg Value.bool (decide_eq_false (by omega))) ?_
      refine W_exit (at_exit (at_exit (ib_here (at_normal ?_))))
      refine W_seq ?_
      refine W_region ?_
      refine WL_step rfl rfl (Exec.move (v := v29823) rfl p30904 ?_)
      refine WL_step rfl rfl (Exec.field F26_1 rfl p30899 rfl ?_)
      refine WL_step rfl rfl (Exec.load_box (hS30898) A3 rfl rfl rfl ?_)
      obtain ⟨x30917, q30918, hm⟩ := bind_some hm
      obtain ⟨g30919, c30920, e30921⟩ := ((hS30898).f3).arr_at q30918
      refine WL_step rfl rfl (Exec.index_slice S22 rfl e30921 rfl (idx_some q30918).1 (idx_some q30918).2.1 ?_)
      refine WL_step rfl rfl (Exec.load_arr (F := (encInt .i64)) ((hS30898).f3) e30921 A3 rfl rfl rfl q30918 (Sub.refl _) ?_)
      intro v30922 q30923
      obtain rfl := encInt_val.1 q30923
      refine WL_step rfl rfl (Exec.field F26_1 rfl p30903 rfl ?_)
      have hS30924 := (hS30898).f2
      refine WL_step rfl rfl (Exec.store_box (ds := [Value.int .i64 (x30917)]) (es := [Value.int .i64 (z30177), Value.int .i64 (x30917), v29810, Value.slice none 0 0, v30179]) hS30924 A3 rfl rfl rfl rfl (one_cons rfl one_nil) (Nat.le_of_ble_eq_true rfl) rfl ?_)
      intro w30925 hS30926
      refine WL_nil (at_normal ?_)
      refine W_seq ?_
      refine W_seq ?_
      refine W_region ?_
      refine WL_step rfl rfl (Exec.field F26_3 rfl p30899 rfl ?_)
      refine WL_step rfl rfl (Exec.load_box ((hS30926).f1) A23 rfl rfl rfl ?_)
      refine WL_step rfl rfl (Exec.len_rep S23 rfl rfl (a27224.mono (PHeap.le.trans (PHeap.le.trans (PHeap.le.trans (PHeap.le.trans (PHeap.le.trans (PHeap.le.trans l29635 l29760) l29768) l29777) l29786) l29808) l30897)) ?_)
      refine WL_step rfl rfl (Exec.move (v := Value.int .i64 (0)) rfl rfl ?_)
      refine WL_nil (at_normal ?_)
      obtain ⟨z31268, hB31597, hm⟩ := bind_some hm
      refine W_block (W_forS (fun k' s' f' w' => (fun (z31268 : (List Edge)) => ∃ (s31598 : PHeap) (v31269 : Value), PHeap.le s30896 s31598 ∧ St w0 s31598 (Res.box b29620 26 [Value.int .i64 (0), Value.int .i64 (0), Value.slice none 0 0, Value.slice none 0 0, Value.slice none 0 0] :: Res.box b29811 26 [Value.int .i64 (z30177), Value.int .i64 (x30917), v29810, v31269, v30179] :: Res.arr (encInt .i64) 3 v29823 l30180 :: Res.arr (encInt .i64) 3 v29810 y29805 :: Res.arr encEdge 66 v31269 z31268 :: Res.arr encBool 4 v30179 z30178 :: H) w' ∧ f' 2 = Value.pointer (some ⟨b29620, 0, none⟩) ∧ f' 7 = Value.pointer (some ⟨b29811, 0, none⟩) ∧ f' 8 = v29823 ∧ f' 86 = v27223 ∧ f' 87 = Value.int .i64 ((x27220.Edges.length : Int)) ∧ f' 88 = Value.int .i64 (k' : Int)) s') hB31597 ?_ ?_ ?_)
      · have hS31599 := hS30926.nilArr encEdge 66
        have hS31600 := ((hS31599).f2).drop
        have hS31601 := (hS31600).f5
        have hS31602 := (hS31601).f1
        have hS31603 := (hS31602).f5
        have hS31604 := (hS31603).f5
        have hS31605 := (hS31604).f4
        have hS31606 := (hS31605).f5
        exact ⟨s30896, (Value.slice none 0 0), (PHeap.le_refl _), hS31606, p30900, p30903, p30904, rfl, rfl, rfl⟩
      · intro i30927 z31268 s31608 f31609 w31610 hi31611 hI31612 hm31613
        obtain ⟨s31614, v31269, l31615, hS31616, p31617, p31618, p31619, p31620, p31621, x31622⟩ := hI31612
        refine W_seq ?_
        refine W_region ?_
        refine WL_step rfl rfl (Exec.lss rfl x31622 p31621 ?_)
        refine WL_nil (at_normal ?_)
        refine W_seq ?_
        refine W_true (congrArg Value.bool (decide_eq_true (by omega))) ?_
        refine W_skip (at_normal ?_)
        refine W_seq ?_
        refine W_block ?_
        refine W_seq ?_
        refine W_region ?_
        obtain ⟨x31635, q31636, hm31613⟩ := bind_some hm31613
        refine WL_step rfl rfl (Exec.index_rep S23 rfl p31620 x31622 (a27224.mono (PHeap.le.trans (PHeap.le.trans (PHeap.le.trans (PHeap.le.trans (PHeap.le.trans (PHeap.le.trans (PHeap.le.trans l29635 l29760) l29768) l29777) l29786) l29808) l30897) l31615)) q31636 ?_)
        intro b31637 o31638 a31639
        refine WL_step rfl rfl (Exec.load_at (E := encEdge) hS31616 A66 rfl rfl rfl a31639 ?_)
        intro v31640 q31641
        obtain rfl := encEdge_val.1 q31641
        refine WL_step rfl rfl (Exec.alloc (cs := [Value.int .i64 (0), Value.int .i64 (0), Value.int .i64 (0)]) hS31616 Z66 rfl rfl ?_)
        intro b31642 w31643 hS31644
        refine WL_step rfl rfl (Exec.store_box (ds := [Value.int .i64 (x31635.From), Value.int .i64 (x31635.Label), Value.int .i64 (x31635.To)]) (es := [Value.int .i64 (x31635.From), Value.int .i64 (x31635.Label), Value.int .i64 (x31635.To)]) hS31644 A66 rfl rfl rfl rfl (one_cons rfl (one_cons rfl (one_cons rfl one_nil))) (Nat.le_of_ble_eq_true rfl) rfl ?_)
        intro w31645 hS31646
        refine WL_nil (at_normal ?_)
        refine W_seq ?_
        obtain ⟨z31662, ht31663, hm31613⟩ := bind_some hm31613
        refine W_mid (M := fun f' w' => (fun (z31662 : Bool) => ∃ (s31664 : PHeap) , PHeap.le s31614 s31664 ∧ St w0 s31664 (Res.box b29620 26 [Value.int .i64 (0), Value.int .i64 (0), Value.slice none 0 0, Value.slice none 0 0, Value.slice none 0 0] :: Res.box b29811 26 [Value.int .i64 (z30177), Value.int .i64 (x30917), v29810, v31269, v30179] :: Res.arr (encInt .i64) 3 v29823 l30180 :: Res.box b31642 66 [Value.int .i64 (x31635.From), Value.int .i64 (x31635.Label), Value.int .i64 (x31635.To)] :: Res.arr (encInt .i64) 3 v29810 y29805 :: Res.arr encEdge 66 v31269 z31268 :: Res.arr encBool 4 v30179 z30178 :: H) w' ∧ f' 2 = Value.pointer (some ⟨b29620, 0, none⟩) ∧ f' 7 = Value.pointer (some ⟨b29811, 0, none⟩) ∧ f' 8 = v29823 ∧ f' 11 = Value.pointer (some ⟨b31642, 0, none⟩) ∧ f' 86 = v27223 ∧ f' 87 = Value.int .i64 ((x27220.Edges.length : Int)) ∧ f' 88 = Value.int .i64 ((i30927 : Int)) ∧ f' 105 = Value.bool (z31662)) z31662) ?_ ?_
        · refine W_region ?_
          refine WL_step rfl rfl (Exec.move (v := v29823) rfl p31619 ?_)
          refine WL_step rfl rfl (Exec.field F66_0 rfl rfl rfl ?_)
          refine WL_step rfl rfl (Exec.load_box (hS31646) A3 rfl rfl rfl ?_)
          obtain ⟨x31665, q31666, ht31663⟩ := bind_some ht31663
          obtain ⟨g31667, c31668, e31669⟩ := ((hS31646).f3).arr_at q31666
          refine WL_step rfl rfl (Exec.index_slice S22 rfl e31669 rfl (idx_some q31666).1 (idx_some q31666).2.1 ?_)
          refine WL_step rfl rfl (Exec.load_arr (F := (encInt .i64)) ((hS31646).f3) e31669 A3 rfl rfl rfl q31666 (Sub.refl _) ?_)
          intro v31670 q31671
          obtain rfl := encInt_val.1 q31671
          refine WL_step rfl rfl (Exec.geq rfl rfl rfl ?_)
          refine WL_step rfl rfl (Exec.move (v := Value.bool (decide (0 ≤ x31665))) rfl rfl ?_)
          rcases ite_some ht31663 with ⟨hc31672, ht31663⟩ | ⟨hc31672, ht31663⟩
          · refine WL_run rfl (yield_of rfl (congrArg Value.bool hc31672)) rfl (Exec.move (v := v29823) rfl p31619 ?_)
            refine WL_run rfl (yield_of rfl (congrArg Value.bool hc31672)) rfl (Exec.field F66_2 rfl rfl rfl ?_)
            refine WL_run rfl (yield_of rfl (congrArg Value.bool hc31672)) rfl (Exec.load_box (hS31646) A3 rfl rfl rfl ?_)
            obtain ⟨x31673, q31674, ht31663⟩ := bind_some ht31663
            obtain ⟨g31675, c31676, e31677⟩ := ((hS31646).f3).arr_at q31674
            refine WL_run rfl (yield_of rfl (congrArg Value.bool hc31672)) rfl (Exec.index_slice S22 rfl e31677 rfl (idx_some q31674).1 (idx_some q31674).2.1 ?_)
            refine WL_run rfl (yield_of rfl (congrArg Value.bool hc31672)) rfl (Exec.load_arr (F := (encInt .i64)) ((hS31646).f3) e31677 A3 rfl rfl rfl q31674 (Sub.refl _) ?_)
            intro v31678 q31679
            obtain rfl := encInt_val.1 q31679
            refine WL_run rfl (yield_of rfl (congrArg Value.bool hc31672)) rfl (Exec.geq rfl rfl rfl ?_)
            refine WL_step rfl rfl (Exec.pick_t (v := Value.bool (decide (0 ≤ x31673))) rfl (congrArg Value.bool hc31672) rfl ?_)
            refine WL_nil (at_normal ?_)
            have e31680 := Option.some.inj ht31663
            subst z31662
            have hS31681 := (hS31646).f6
            have hS31682 := (hS31681).f6
            have hS31683 := (hS31682).f6
            have hS31684 := (hS31683).f3
            have hS31685 := (hS31684).f6
            have hS31686 := (hS31685).f6
            have hS31687 := (hS31686).f6
            exact ⟨s31614, (PHeap.le_refl _), hS31687, p31617, p31618, p31619, rfl, p31620, p31621, x31622, rfl⟩
          · replace hc31672 := not_true hc31672
            refine WL_pass rfl (yield_of rfl (congrArg Value.bool hc31672)) rfl rfl ?_
            refine WL_pass rfl (yield_of rfl (congrArg Value.bool hc31672)) rfl rfl ?_
            refine WL_pass rfl (yield_of rfl (congrArg Value.bool hc31672)) rfl rfl ?_
            refine WL_pass rfl (yield_of rfl (congrArg Value.bool hc31672)) rfl rfl ?_
            refine WL_pass rfl (yield_of rfl (congrArg Value.bool hc31672)) rfl rfl ?_
            refine WL_pass rfl (yield_of rfl (congrArg Value.bool hc31672)) rfl rfl ?_
            refine WL_step rfl rfl (Exec.pick_f (v := Value.bool (false)) rfl (congrArg Value.bool hc31672) rfl ?_)
            refine WL_nil (at_normal ?_)
            have e31688 := Option.some.inj ht31663
            subst z31662
            have hS31689 := (hS31646).f6
            have hS31690 := (hS31689).f6
            have hS31691 := (hS31690).f6
            have hS31692 := (hS31691).f3
            have hS31693 := (hS31692).f6
            have hS31694 := (hS31693).f6
            have hS31695 := (hS31694).f6
            exact ⟨s31614, (PHeap.le_refl _), hS31695, p31617, p31618, p31619, rfl, p31620, p31621, x31622, rfl⟩
        · intro f31696 w31697 hM31698
          obtain ⟨s31699, l31700, hS31701, p31702, p31703, p31704, p31705, p31706, p31707, p31708, p31709⟩ := hM31698
          refine (at_normal ?_)
          obtain ⟨l31812, ht31814, hm31613⟩ := bind_some hm31613
          refine W_mid (M := fun f' w' => (fun (l31812 : (List Edge)) => ∃ (s31815 : PHeap) (v31813 : Value), PHeap.le s31699 s31815 ∧ St w0 s31815 (Res.box b29620 26 [Value.int .i64 (0), Value.int .i64 (0), Value.slice none 0 0, Value.slice none 0 0, Value.slice none 0 0] :: Res.box b29811 26 [Value.int .i64 (z30177), Value.int .i64 (x30917), v29810, v31813, v30179] :: Res.arr (encInt .i64) 3 v29823 l30180 :: Res.arr (encInt .i64) 3 v29810 y29805 :: Res.arr encEdge 66 v31813 l31812 :: Res.arr encBool 4 v30179 z30178 :: H) w' ∧ f' 2 = Value.pointer (some ⟨b29620, 0, none⟩) ∧ f' 7 = Value.pointer (some ⟨b29811, 0, none⟩) ∧ f' 8 = v29823 ∧ f' 86 = v27223 ∧ f' 87 = Value.int .i64 ((x27220.Edges.length : Int)) ∧ f' 88 = Value.int .i64 ((i30927 : Int))) l31812) ?_ ?_
          · rcases ite_some ht31814 with ⟨hc31816, ht31814⟩ | ⟨hc31816, ht31814⟩
            · refine W_cond_t p31709 hc31816 ?_
              refine W_dl (n0 := 17) (.q 0 (.q 1 (.q 2 (.q 3 (.q 4 (.q 5 (.q 6 (.q 7 (.q 8 (.q 9 (.q 10 (.q 11 (.q 12 (.q 13 (.q 14 (.e 15 [0, 1] (.e 16 [] .done))))))))))))))))) hmix (by kernel_rfl) (by kernel_rfl) ?_
              have hS31892 := hS31701.drew
              refine DL_q rfl rfl (Exec.field F26_3 rfl p31703 rfl ⟨rfl, ?_⟩)
              refine DL_q rfl rfl (Exec.load_box ((hS31892).f1) A23 rfl rfl rfl ⟨rfl, ?_⟩)
              refine DL_q rfl rfl (Exec.move (v := v29823) rfl p31704 ⟨rfl, ?_⟩)
              refine DL_q rfl rfl (Exec.field F66_0 rfl p31705 rfl ⟨rfl, ?_⟩)
              refine DL_q rfl rfl (Exec.load_box ((hS31892).f3) A3 rfl rfl rfl ⟨rfl, ?_⟩)
              obtain ⟨x31893, q31894, ht31814⟩ := bind_some ht31814
              obtain ⟨g31895, c31896, e31897⟩ := ((hS31892).f2).arr_at q31894
              refine DL_q rfl rfl (Exec.index_slice S22 rfl e31897 rfl (idx_some q31894).1 (idx_some q31894).2.1 ⟨rfl, ?_⟩)
              refine DL_q rfl rfl (Exec.load_arr (F := (encInt .i64)) ((hS31892).f2) e31897 A3 rfl rfl rfl q31894 (Sub.refl _) ?_)
              intro v31898 q31899
              obtain rfl := encInt_val.1 q31899
              refine ⟨rfl, ?_⟩
              refine DL_q rfl rfl (Exec.field F66_1 rfl p31705 rfl ⟨rfl, ?_⟩)
              refine DL_q rfl rfl (Exec.load_box ((hS31892).f3) A3 rfl rfl rfl ⟨rfl, ?_⟩)
              refine DL_q rfl rfl (Exec.move (v := v29823) rfl p31704 ⟨rfl, ?_⟩)
              refine DL_q rfl rfl (Exec.field F66_2 rfl p31705 rfl ⟨rfl, ?_⟩)
              refine DL_q rfl rfl (Exec.load_box ((hS31892).f3) A3 rfl rfl rfl ⟨rfl, ?_⟩)
              obtain ⟨x31900, q31901, ht31814⟩ := bind_some ht31814
              obtain ⟨g31902, c31903, e31904⟩ := ((hS31892).f2).arr_at q31901
              refine DL_q rfl rfl (Exec.index_slice S22 rfl e31904 rfl (idx_some q31901).1 (idx_some q31901).2.1 ⟨rfl, ?_⟩)
              refine DL_q rfl rfl (Exec.load_arr (F := (encInt .i64)) ((hS31892).f2) e31904 A3 rfl rfl rfl q31901 (Sub.refl _) ?_)
              intro v31905 q31906
              obtain rfl := encInt_val.1 q31906
              refine ⟨rfl, ?_⟩
              refine DL_q rfl rfl (Exec.build rfl (parts_cons (c := [Value.int .i64 (x31893)]) (cells_of rfl rfl) (parts_cons (c := [Value.int .i64 (x31635.Label)]) (cells_of rfl rfl) (parts_cons (c := [Value.int .i64 (x31900)]) (cells_of rfl rfl) parts_nil))) (v := Value.agg #[Value.int .i64 (x31893), Value.int .i64 (x31635.Label), Value.int .i64 (x31900)]) (fun _ => by kernel_rfl) ⟨rfl, ?_⟩)
              refine DL_e rfl rfl (Exec.buildSlice (Te := 66) (cs := [Value.int .i64 (x31893), Value.int .i64 (x31635.Label), Value.int .i64 (x31900)]) hS31892 rfl (parts_cons (c := [Value.int .i64 (x31893), Value.int .i64 (x31635.Label), Value.int .i64 (x31900)]) (cells_of rfl rfl) parts_nil) (fun _ => by kernel_rfl) ?_)
              intro b31907 w31908 hS31909
              refine ⟨(ag_cons (ag_r rfl rfl (Exec.field F26_3 rfl p31703 rfl ⟨rfl, rfl⟩)) (ag_cons (ag_r rfl rfl (Exec.load_box ((hS31909).f2) A23 rfl rfl rfl ⟨rfl, rfl⟩)) ag_nil)), ?_⟩
              obtain ⟨l31910, q31911, ht31814⟩ := bind_some ht31814
              have hS31912 := (hS31909).f6
              refine DL_e rfl rfl (Exec.append_box (E := encEdge) (ys := [(⟨x31893, x31635.Label, x31900⟩ : Edge)]) hS31912 S23 Z66 rfl (by decide) rfl rfl rfl rfl ⟨[Value.int .i64 (x31893), Value.int .i64 (x31635.Label), Value.int .i64 (x31900)], [], rfl, ⟨[Value.int .i64 (x31893)], [Value.int .i64 (x31635.Label), Value.int .i64 (x31900)], rfl, rfl, ⟨[Value.int .i64 (x31635.Label)], [Value.int .i64 (x31900)], rfl, rfl, rfl⟩⟩, rfl⟩ rfl q31911 ?_)
              intro v31913 w31914 hS31915
              refine ⟨ag_nil, ?_⟩
              refine DL_done ?_
              refine WL_step rfl rfl (Exec.field F26_3 rfl p31703 rfl ?_)
              have hS31916 := (hS31915).f2
              refine WL_step rfl rfl (Exec.store_box (ds := [v31913]) (es := [Value.int .i64 (z30177), Value.int .i64 (x30917), v29810, v31913, v30179]) hS31916 A23 rfl rfl rfl (cells_one ((hS31916).f1).arr_one) (one_cons ((hS31916).f1).arr_one one_nil) (Nat.le_of_ble_eq_true rfl) rfl ?_)
              intro w31917 hS31918
              refine WL_nil (at_normal ?_)
              have e31919 := Option.some.inj ht31814
              subst l31812
              have hS31920 := ((hS31918).f4).drop
              have hS31921 := (hS31920).f5
              have hS31922 := (hS31921).f2
              have hS31923 := (hS31922).f5
              have hS31924 := (hS31923).f5
              have hS31925 := (hS31924).f4
              have hS31926 := (hS31925).f5
              exact ⟨s31699, v31913, (PHeap.le_refl _), hS31926, p31702, p31703, p31704, p31706, p31707, p31708⟩
            · refine W_cond_f p31709 hc31816 ?_
              replace hc31816 := not_true hc31816
              refine W_skip (at_normal ?_)
              have e31927 := Option.some.inj ht31814
              subst l31812
              have hS31928 := ((hS31701).f3).drop
              have hS31929 := (hS31928).f5
              have hS31930 := (hS31929).f5
              have hS31931 := (hS31930).f5
              have hS31932 := (hS31931).f5
              have hS31933 := (hS31932).f5
              have hS31934 := (hS31933).f5
              exact ⟨s31699, v31269, (PHeap.le_refl _), hS31934, p31702, p31703, p31704, p31706, p31707, p31708⟩
          · intro f31935 w31936 hM31937
            obtain ⟨s31938, v31813, l31939, hS31940, p31941, p31942, p31943, p31944, p31945, p31946⟩ := hM31937
            refine (ib_normal (at_normal ?_))
            refine W_region ?_
            refine WL_step rfl rfl (Exec.add rfl p31946 rfl ?_)
            refine WL_step rfl rfl (Exec.move (v := Value.int .i64 (IntKind.i64.wrap ((i30927 : Int) + 1))) rfl rfl ?_)
            refine WL_nil (at_normal ?_)
            have e31947 := Option.some.inj hm31613
            subst s31608
            have hS31948 := (hS31940).f5
            have hS31949 := (hS31948).f5
            have hS31950 := (hS31949).f5
            have hS31951 := (hS31950).f5
            have hS31952 := (hS31951).f5
            have hS31953 := (hS31952).f5
            exact ⟨s31938, v31813, (PHeap.le.trans (PHeap.le.trans l31615 l31700) l31939), hS31953, p31941, p31942, p31943, p31944, p31945, (Eq.trans rfl (wrap_up hi31611 (SliceRep.le (a27224.mono (PHeap.le.trans (PHeap.le.trans (PHeap.le.trans (PHeap.le.trans (PHeap.le.trans (PHeap.le.trans l29635 l29760) l29768) l29777) l29786) l29808) l30897)))))⟩
      · intro f31954 w31955 hI31956
        obtain ⟨s31957, v31269, l31958, hS31959, p31960, p31961, p31962, p31963, p31964, x31965⟩ := hI31956
        refine W_seq ?_
        refine W_region ?_
        refine WL_step rfl rfl (Exec.lss rfl x31965 p31964 ?_)
        refine WL_nil (at_normal ?_)
        refine W_seq ?_
        refine W_false (congrArg Value.bool (decide_eq_false (by omega))) ?_
        refine W_exit (at_exit (at_exit (ib_here (at_normal ?_))))
        refine W_seq ?_
        refine W_region ?_
        refine WL_step rfl rfl (Exec.load_box_agg (ds := [Value.int .i64 (z30177), Value.int .i64 (x30917), v29810, v31269, v30179]) ((hS31959).f1) A26 rfl p31961 rfl ?_)
        refine WL_step rfl rfl (Exec.move (v := v29823) rfl p31962 ?_)
        refine WL_step rfl rfl (Exec.store_box (ds := [Value.int .i64 (z30177), Value.int .i64 (x30917), v29810, v31269, v30179]) (es := [Value.int .i64 (z30177), Value.int .i64 (x30917), v29810, v31269, v30179]) hS31959 A26 rfl p31960 rfl rfl (one_cons rfl (one_cons rfl (one_cons ((hS31959).f3).arr_one (one_cons ((hS31959).f4).arr_one (one_cons ((hS31959).f5).arr_one one_nil))))) (Nat.le_of_ble_eq_true rfl) rfl ?_)
        intro w31968 hS31969
        refine WL_step rfl rfl (Exec.assign (v := v29823) rfl rfl ?_)
        refine WL_step rfl rfl (Exec.assign (v := errV 39 (none)) rfl rfl ?_)
        refine WL_nil (at_normal ?_)
        refine W_ret ?_
        have e31971 := Option.some.inj hm
        subst r
        refine ⟨_, retG3 rfl ⟨_, _, p31960, cellRes (hS31969) A26⟩ rfl rfl, ?_⟩
        have hS31972 := (hS31969).f2
        obtain ⟨s31973, l31974, hS31975, r31976⟩ := hS31972.freezeArr
        have hS31977 := (hS31975).f2
        obtain ⟨s31978, l31979, hS31980, r31981⟩ := hS31977.freezeArr
        have hS31982 := (hS31980).f2
        obtain ⟨s31983, l31984, hS31985, r31986⟩ := hS31982.freezeArr
        have hS31987 := (hS31985).f2
        obtain ⟨s31988, l31989, hS31990, r31991⟩ := hS31987.freezeArr
        have hS31992 := (hS31990).drop
        have hS31993 := (hS31992).drop
        exact ⟨s31988, v29823, v29810, v31269, v30179, (PHeap.le.trans (PHeap.le.trans (PHeap.le.trans (PHeap.le.trans (PHeap.le.trans (PHeap.le.trans (PHeap.le.trans (PHeap.le.trans (PHeap.le.trans (PHeap.le.trans (PHeap.le.trans l29635 l29760) l29768) l29777) l29786) l29808) l30897) l31958) l31974) l31979) l31984) l31989), hS31993, (tup3 rfl rfl rfl), (r31976.mono (PHeap.le.trans (PHeap.le.trans l31979 l31984) l31989)), (r31981.mono (PHeap.le.trans l31984 l31989)), (r31986.mono l31989), r31991⟩

theorem N21 : (Try.f21.name == "runtime.NumGoroutine") = false := by kernel_rfl

theorem ref44_Distances_sim {w0 w : World} {s : PHeap} {H : List Res} {x32058 : System} {v32059 : Value} {v32061 : Value} {v32063 : Value} {r : (List Int)} (hm : ref44_Distances_p x32058 = some r) (hS : St w0 s (H) w) (a32060 : SliceRep (encInt .i64) s v32059 x32058.Costs) (a32062 : SliceRep encEdge s v32061 x32058.Edges) (a32064 : SliceRep encBool s v32063 x32058.Goals) :
    Calls Try.prog 21 #[Value.agg #[Value.int .i64 (x32058.States), Value.int .i64 (x32058.Init), v32059, v32061, v32063]] w fun e w' => ∃ v, e = .returned v ∧ ((fun (y36774 : (List Int)) => ∃ (s36781 : PHeap) (v36780 : Value), PHeap.le s s36781 ∧ St w0 s36781 (H) w' ∧ v = v36780 ∧ SliceRep (encInt .i64) s36781 v36780 y36774) r) := by
  unfold ref44_Distances_p at hm
  refine calls_of_W Try.func21 rfl rfl ?_
  refine W_seq ?_
  refine W_region ?_
  refine WL_step rfl rfl (Exec.box (cs := [Value.int .i64 (x32058.States), Value.int .i64 (x32058.Init), v32059, v32061, v32063]) hS rfl rfl rfl ?_)
  intro b36785 w36786 hS36787
  refine WL_step rfl rfl (Exec.assign (v := Value.slice none 0 0) rfl rfl ?_)
  refine WL_nil (at_normal ?_)
  refine W_seq ?_
  refine W_region ?_
  refine WL_step rfl rfl (Exec.assign (v := Value.slice none 0 0) rfl rfl ?_)
  refine WL_nil (at_normal ?_)
  refine W_seq ?_
  refine W_seq ?_
  refine W_region ?_
  refine WL_step rfl rfl (Exec.field F26_4 rfl rfl rfl ?_)
  refine WL_step rfl rfl (Exec.load_box (hS36787) A24 rfl rfl rfl ?_)
  refine WL_step rfl rfl (Exec.len_rep S24 rfl rfl a32064 ?_)
  refine WL_step rfl rfl (Exec.move (v := Value.int .i64 (0)) rfl rfl ?_)
  refine WL_nil (at_normal ?_)
  obtain ⟨out36844, hB36903, hm⟩ := bind_some hm
  refine W_block (W_forS (fun k' s' f' w' => (fun (out36844 : (List Int)) => ∃ (s36904 : PHeap) (v36845 : Value), PHeap.le s s36904 ∧ St w0 s36904 (Res.box b36785 26 [Value.int .i64 (x32058.States), Value.int .i64 (x32058.Init), v32059, v32061, v32063] :: Res.arr (encInt .i64) 3 v36845 out36844 :: H) w' ∧ f' 1 = Value.pointer (some ⟨b36785, 0, none⟩) ∧ f' 3 = v36845 ∧ f' 11 = v32063 ∧ f' 12 = Value.int .i64 ((x32058.Goals.length : Int)) ∧ f' 13 = Value.int .i64 (k' : Int)) s') hB36903 ?_ ?_ ?_)
  · have hS36905 := hS36787.nilArr (encInt .i64) 3
    have hS36906 := (hS36905).f1
    exact ⟨s, (Value.slice none 0 0), (PHeap.le_refl _), hS36906, rfl, rfl, rfl, rfl, rfl⟩
  · intro i36788 out36844 s36908 f36909 w36910 hi36911 hI36912 hm36913
    obtain ⟨s36914, v36845, l36915, hS36916, p36917, p36918, p36919, p36920, x36921⟩ := hI36912
    refine W_seq ?_
    refine W_region ?_
    refine WL_step rfl rfl (Exec.lss rfl x36921 p36920 ?_)
    refine WL_nil (at_normal ?_)
    refine W_seq ?_
    refine W_true (congrArg Value.bool (decide_eq_true (by omega))) ?_
    refine W_skip (at_normal ?_)
    refine W_seq ?_
    refine W_block ?_
    refine W_seq ?_
    refine W_region ?_
    obtain ⟨x36929, q36930, hm36913⟩ := bind_some hm36913
    refine WL_step rfl rfl (Exec.index_rep S24 rfl p36919 x36921 (a32064.mono l36915) q36930 ?_)
    intro b36931 o36932 a36933
    refine WL_step rfl rfl (Exec.load_at (E := encBool) hS36916 A4 rfl rfl rfl a36933 ?_)
    intro v36934 q36935
    obtain rfl := encBool_val.1 q36935
    refine WL_step rfl rfl (Exec.assign (v := Value.bool (x36929)) rfl rfl ?_)
    refine WL_nil (at_normal ?_)
    refine W_seq ?_
    refine W_region ?_
    refine WL_step rfl rfl (Exec.assign (v := Value.int .i64 (1125899906842624)) rfl rfl ?_)
    refine WL_nil (at_normal ?_)
    refine W_seq ?_
    refine W_seq ?_
    refine W_region ?_
    refine WL_step rfl rfl (Exec.move (v := Value.bool (x36929)) rfl rfl ?_)
    refine WL_nil (at_normal ?_)
    obtain ⟨d36936, ht36937, hm36913⟩ := bind_some hm36913
    refine W_mid (M := fun f' w' => (fun (d36936 : Int) => ∃ (s36938 : PHeap) , PHeap.le s36914 s36938 ∧ St w0 s36938 (Res.box b36785 26 [Value.int .i64 (x32058.States), Value.int .i64 (x32058.Init), v32059, v32061, v32063] :: Res.arr (encInt .i64) 3 v36845 out36844 :: H) w' ∧ f' 1 = Value.pointer (some ⟨b36785, 0, none⟩) ∧ f' 3 = v36845 ∧ f' 6 = Value.int .i64 (d36936) ∧ f' 11 = v32063 ∧ f' 12 = Value.int .i64 ((x32058.Goals.length : Int)) ∧ f' 13 = Value.int .i64 ((i36788 : Int))) d36936) ?_ ?_
    · rcases ite_some ht36937 with ⟨hc36939, ht36937⟩ | ⟨hc36939, ht36937⟩
      · refine W_cond_t rfl hc36939 ?_
        refine W_region ?_
        refine WL_step rfl rfl (Exec.assign (v := Value.int .i64 (0)) rfl rfl ?_)
        refine WL_nil (at_normal ?_)
        have e36940 := Option.some.inj ht36937
        subst d36936
        have hS36941 := (hS36916).f1
        have hS36942 := (hS36941).f1
        exact ⟨s36914, (PHeap.le_refl _), hS36942, p36917, p36918, rfl, p36919, p36920, x36921⟩
      · refine W_cond_f rfl hc36939 ?_
        replace hc36939 := not_true hc36939
        refine W_skip (at_normal ?_)
        have e36943 := Option.some.inj ht36937
        subst d36936
        have hS36944 := (hS36916).f1
        have hS36945 := (hS36944).f1
        exact ⟨s36914, (PHeap.le_refl _), hS36945, p36917, p36918, rfl, p36919, p36920, x36921⟩
    · intro f36946 w36947 hM36948
      obtain ⟨s36949, l36950, hS36951, p36952, p36953, p36954, p36955, p36956, p36957⟩ := hM36948
      refine (at_normal ?_)
      refine W_region ?_
      refine WL_step rfl rfl (Exec.move (v := v36845) rfl p36953 ?_)
      refine WL_step rfl rfl (Exec.move (v := Value.int .i64 (d36936)) rfl p36954 ?_)
      refine WL_step rfl rfl (Exec.buildSlice (Te := 3) (cs := [Value.int .i64 (d36936)]) hS36951 rfl (parts_cons (c := [Value.int .i64 (d36936)]) (cells_of rfl rfl) parts_nil) (fun _ => by kernel_rfl) ?_)
      intro b36967 w36968 hS36969
      obtain ⟨l36970, q36971, hm36913⟩ := bind_some hm36913
      have hS36972 := (hS36969).f2
      refine WL_step rfl rfl (Exec.append_box (E := (encInt .i64)) (ys := [d36936]) hS36972 S22 Z3 rfl (by decide) rfl rfl rfl rfl ⟨[Value.int .i64 (d36936)], [], rfl, rfl, rfl⟩ rfl q36971 ?_)
      intro v36973 w36974 hS36975
      refine WL_step rfl rfl (Exec.assign (v := v36973) rfl rfl ?_)
      refine WL_nil (ib_normal (at_normal ?_))
      refine W_region ?_
      refine WL_step rfl rfl (Exec.add rfl p36957 rfl ?_)
      refine WL_step rfl rfl (Exec.move (v := Value.int .i64 (IntKind.i64.wrap ((i36788 : Int) + 1))) rfl rfl ?_)
      refine WL_nil (at_normal ?_)
      have e36976 := Option.some.inj hm36913
      subst s36908
      have hS36977 := (hS36975).f1
      exact ⟨s36949, v36973, (PHeap.le.trans l36915 l36950), hS36977, p36952, rfl, p36955, p36956, (Eq.trans rfl (wrap_up hi36911 (SliceRep.le a32064)))⟩
  · intro f36978 w36979 hI36980
    obtain ⟨s36981, v36845, l36982, hS36983, p36984, p36985, p36986, p36987, x36988⟩ := hI36980
    refine W_seq ?_
    refine W_region ?_
    refine WL_step rfl rfl (Exec.lss rfl x36988 p36987 ?_)
    refine WL_nil (at_normal ?_)
    refine W_seq ?_
    refine W_false (congrArg Value.bool (decide_eq_false (by omega))) ?_
    refine W_exit (at_exit (at_exit (ib_here (at_normal ?_))))
    refine W_seq ?_
    refine W_seq ?_
    refine W_region ?_
    refine WL_step rfl rfl (Exec.assign (v := Value.bool (true)) rfl rfl ?_)
    refine WL_nil (at_normal ?_)
    obtain ⟨c40337, hB40338, hr40339, hn40340, hb40341⟩ := ctl_some hm
    refine W_mid (M := fun f' w' => ∃ s', (c40337 = .next s' ∨ c40337 = .brk s') ∧ (un2 fun (changed40335 : Bool) (l40336 : (List Int)) => ∃ (s40343 : PHeap) , PHeap.le s36981 s40343 ∧ St w0 s40343 (Res.box b36785 26 [Value.int .i64 (x32058.States), Value.int .i64 (x32058.Init), v32059, v32061, v32063] :: Res.arr (encInt .i64) 3 v36845 l40336 :: H) w' ∧ f' 1 = Value.pointer (some ⟨b36785, 0, none⟩) ∧ f' 3 = v36845 ∧ f' 7 = Value.bool (changed40335)) s') ?_ ?_
    · refine W_block (W_while (fun s' f' w' => (un2 fun (changed38102 : Bool) (l38103 : (List Int)) => ∃ (s40342 : PHeap) , PHeap.le s36981 s40342 ∧ St w0 s40342 (Res.box b36785 26 [Value.int .i64 (x32058.States), Value.int .i64 (x32058.Init), v32059, v32061, v32063] :: Res.arr (encInt .i64) 3 v36845 l38103 :: H) w' ∧ f' 1 = Value.pointer (some ⟨b36785, 0, none⟩) ∧ f' 3 = v36845 ∧ f' 7 = Value.bool (changed38102)) s') hB40338 ?_ ?_)
      · have hS40344 := (hS36983).f1
        have hS40345 := (hS40344).f1
        exact ⟨s36981, (PHeap.le_refl _), hS40345, p36984, p36985, rfl⟩
      · intro t40353 c40347 f40348 w40349 hI40350 hm40351 hres40352
        obtain ⟨changed38102, l38103⟩ := t40353
        replace hm40351 := un2_eq hm40351
        obtain ⟨s40354, l40355, hS40356, p40357, p40358, p40359⟩ := hI40350
        refine W_seq ?_
        refine W_seq ?_
        refine W_region ?_
        refine WL_step rfl rfl (Exec.move (v := Value.bool (changed38102)) rfl p40359 ?_)
        refine WL_nil (at_normal ?_)
        rcases ite_some hm40351 with ⟨hc40360, hm40351⟩ | ⟨hc40360, hm40351⟩
        · refine W_cond_t rfl hc40360 ?_
          refine W_skip (at_normal ?_)
          refine W_block ?_
          refine W_seq ?_
          refine W_region ?_
          refine WL_step rfl rfl (Exec.assign (v := Value.bool (false)) rfl rfl ?_)
          refine WL_nil (at_normal ?_)
          refine W_seq ?_
          refine W_region ?_
          refine WL_step rfl rfl (Exec.field F26_3 rfl p40357 rfl ?_)
          refine WL_step rfl rfl (Exec.load_box (hS40356) A23 rfl rfl rfl ?_)
          refine WL_step rfl rfl (Exec.len_rep S23 rfl rfl (a32062.mono (PHeap.le.trans l36982 l40355)) ?_)
          refine WL_step rfl rfl (Exec.move (v := Value.int .i64 (0)) rfl rfl ?_)
          refine WL_nil (at_normal ?_)
          obtain ⟨t41080, hB41081, hm40351⟩ := bind_some hm40351
          refine W_block (W_forS (fun k' s' f' w' => (un2 fun (changed40719 : Bool) (l40720 : (List Int)) => ∃ (s41082 : PHeap) , PHeap.le s40354 s41082 ∧ St w0 s41082 (Res.box b36785 26 [Value.int .i64 (x32058.States), Value.int .i64 (x32058.Init), v32059, v32061, v32063] :: Res.arr (encInt .i64) 3 v36845 l40720 :: H) w' ∧ f' 1 = Value.pointer (some ⟨b36785, 0, none⟩) ∧ f' 3 = v36845 ∧ f' 7 = Value.bool (changed40719) ∧ f' 25 = v32061 ∧ f' 26 = Value.int .i64 ((x32058.Edges.length : Int)) ∧ f' 27 = Value.int .i64 (k' : Int)) s') hB41081 ?_ ?_ ?_)
          · have hS41083 := (hS40356).f1
            have hS41084 := (hS41083).f1
            exact ⟨s40354, (PHeap.le_refl _), hS41084, p40357, p40358, rfl, rfl, rfl, rfl⟩
          · intro i40361 t41092 s41086 f41087 w41088 hi41089 hI41090 hm41091
            obtain ⟨changed40719, l40720⟩ := t41092
            replace hm41091 := un2_eq hm41091
            obtain ⟨s41093, l41094, hS41095, p41096, p41097, p41098, p41099, p41100, x41101⟩ := hI41090
            refine W_seq ?_
            refine W_region ?_
            refine WL_step rfl rfl (Exec.lss rfl x41101 p41100 ?_)
            refine WL_nil (at_normal ?_)
            refine W_seq ?_
            refine W_true (congrArg Value.bool (decide_eq_true (by omega))) ?_
            refine W_skip (at_normal ?_)
            refine W_seq ?_
            refine W_block ?_
            refine W_seq ?_
            refine W_region ?_
            obtain ⟨x41114, q41115, hm41091⟩ := bind_some hm41091
            refine WL_step rfl rfl (Exec.index_rep S23 rfl p41099 x41101 (a32062.mono (PHeap.le.trans (PHeap.le.trans l36982 l40355) l41094)) q41115 ?_)
            intro b41116 o41117 a41118
            refine WL_step rfl rfl (Exec.load_at (E := encEdge) hS41095 A66 rfl rfl rfl a41118 ?_)
            intro v41119 q41120
            obtain rfl := encEdge_val.1 q41120
            refine WL_step rfl rfl (Exec.alloc (cs := [Value.int .i64 (0), Value.int .i64 (0), Value.int .i64 (0)]) hS41095 Z66 rfl rfl ?_)
            intro b41121 w41122 hS41123
            refine WL_step rfl rfl (Exec.store_box (ds := [Value.int .i64 (x41114.From), Value.int .i64 (x41114.Label), Value.int .i64 (x41114.To)]) (es := [Value.int .i64 (x41114.From), Value.int .i64 (x41114.Label), Value.int .i64 (x41114.To)]) hS41123 A66 rfl rfl rfl rfl (one_cons rfl (one_cons rfl (one_cons rfl one_nil))) (Nat.le_of_ble_eq_true rfl) rfl ?_)
            intro w41124 hS41125
            refine WL_nil (at_normal ?_)
            refine W_seq ?_
            obtain ⟨z41184, ht41185, hm41091⟩ := bind_some hm41091
            refine W_mid (M := fun f' w' => (fun (z41184 : Bool) => ∃ (s41186 : PHeap) , PHeap.le s41093 s41186 ∧ St w0 s41186 (Res.box b36785 26 [Value.int .i64 (x32058.States), Value.int .i64 (x32058.Init), v32059, v32061, v32063] :: Res.arr (encInt .i64) 3 v36845 l40720 :: Res.box b41121 66 [Value.int .i64 (x41114.From), Value.int .i64 (x41114.Label), Value.int .i64 (x41114.To)] :: H) w' ∧ f' 1 = Value.pointer (some ⟨b36785, 0, none⟩) ∧ f' 3 = v36845 ∧ f' 7 = Value.bool (changed40719) ∧ f' 9 = Value.pointer (some ⟨b41121, 0, none⟩) ∧ f' 25 = v32061 ∧ f' 26 = Value.int .i64 ((x32058.Edges.length : Int)) ∧ f' 27 = Value.int .i64 ((i40361 : Int)) ∧ f' 56 = Value.bool (z41184)) z41184) ?_ ?_
            · refine W_dl (n0 := 26) (.q 0 (.q 1 (.q 2 (.q 3 (.q 4 (.q 5 (.q 6 (.q 7 (.q 8 (.q 9 (.q 10 (.q 11 (.q 12 (.q 13 (.q 14 (.q 15 (.q 16 (.q 17 (.q 18 (.q 19 (.q 20 (.q 21 (.q 22 (.q 23 (.q 24 (.q 25 .done)))))))))))))))))))))))))) hmix (by kernel_rfl) (by kernel_rfl) ?_
              have hS41216 := hS41125.drew
              refine DL_q rfl rfl (Exec.move (v := v36845) rfl p41097 ⟨rfl, ?_⟩)
              refine DL_q rfl rfl (Exec.field F66_2 rfl rfl rfl ⟨rfl, ?_⟩)
              refine DL_q rfl rfl (Exec.load_box (hS41216) A3 rfl rfl rfl ⟨rfl, ?_⟩)
              obtain ⟨x41217, q41218, ht41185⟩ := bind_some ht41185
              obtain ⟨g41219, c41220, e41221⟩ := ((hS41216).f2).arr_at q41218
              refine DL_q rfl rfl (Exec.index_slice S22 rfl e41221 rfl (idx_some q41218).1 (idx_some q41218).2.1 ⟨rfl, ?_⟩)
              refine DL_q rfl rfl (Exec.load_arr (F := (encInt .i64)) ((hS41216).f2) e41221 A3 rfl rfl rfl q41218 (Sub.refl _) ?_)
              intro v41222 q41223
              obtain rfl := encInt_val.1 q41223
              refine ⟨rfl, ?_⟩
              refine DL_q rfl rfl (Exec.lss rfl rfl rfl ⟨rfl, ?_⟩)
              refine DL_q rfl rfl (Exec.move (v := Value.bool (decide (x41217 < 1125899906842624))) rfl rfl ⟨rfl, ?_⟩)
              rcases ite_some ht41185 with ⟨hc41224, ht41185⟩ | ⟨hc41224, ht41185⟩
              · refine DL_qg rfl rfl (yield_of rfl (congrArg Value.bool hc41224)) (Exec.move (v := v36845) rfl p41097 ⟨rfl, ?_⟩)
                refine DL_qg rfl rfl (yield_of rfl (congrArg Value.bool hc41224)) (Exec.field F66_2 rfl rfl rfl ⟨rfl, ?_⟩)
                refine DL_qg rfl rfl (yield_of rfl (congrArg Value.bool hc41224)) (Exec.load_box (hS41216) A3 rfl rfl rfl ⟨rfl, ?_⟩)
                obtain ⟨g41225, c41226, e41227⟩ := ((hS41216).f2).arr_at q41218
                refine DL_qg rfl rfl (yield_of rfl (congrArg Value.bool hc41224)) (Exec.index_slice S22 rfl e41227 rfl (idx_some q41218).1 (idx_some q41218).2.1 ⟨rfl, ?_⟩)
                refine DL_qg rfl rfl (yield_of rfl (congrArg Value.bool hc41224)) (Exec.load_arr (F := (encInt .i64)) ((hS41216).f2) e41227 A3 rfl rfl rfl q41218 (Sub.refl _) ?_)
                intro v41228 q41229
                obtain rfl := encInt_val.1 q41229
                refine ⟨rfl, ?_⟩
                refine DL_qg rfl rfl (yield_of rfl (congrArg Value.bool hc41224)) (Exec.field F26_2 rfl p41096 rfl ⟨rfl, ?_⟩)
                refine DL_qg rfl rfl (yield_of rfl (congrArg Value.bool hc41224)) (Exec.load_box ((hS41216).f1) A22 rfl rfl rfl ⟨rfl, ?_⟩)
                refine DL_qg rfl rfl (yield_of rfl (congrArg Value.bool hc41224)) (Exec.field F66_1 rfl rfl rfl ⟨rfl, ?_⟩)
                refine DL_qg rfl rfl (yield_of rfl (congrArg Value.bool hc41224)) (Exec.load_box (hS41216) A3 rfl rfl rfl ⟨rfl, ?_⟩)
                obtain ⟨x41230, q41231, ht41185⟩ := bind_some ht41185
                refine DL_qg rfl rfl (yield_of rfl (congrArg Value.bool hc41224)) (Exec.index_repE S22 rfl rfl rfl (a32060.mono (PHeap.le.trans (PHeap.le.trans l36982 l40355) l41094)) q41231 ?_)
                intro b41232 o41233 a41234 e41235
                refine ⟨rfl, ?_⟩
                refine DL_qg rfl rfl (yield_of rfl (congrArg Value.bool hc41224)) (Exec.load_at (E := (encInt .i64)) hS41216 A3 rfl rfl rfl a41234 ?_)
                intro v41236 q41237
                obtain rfl := encInt_val.1 q41237
                refine ⟨rfl, ?_⟩
                refine DL_qg rfl rfl (yield_of rfl (congrArg Value.bool hc41224)) (Exec.add rfl rfl rfl ⟨rfl, ?_⟩)
                refine DL_qg rfl rfl (yield_of rfl (congrArg Value.bool hc41224)) (Exec.move (v := v36845) rfl p41097 ⟨rfl, ?_⟩)
                refine DL_qg rfl rfl (yield_of rfl (congrArg Value.bool hc41224)) (Exec.field F66_0 rfl rfl rfl ⟨rfl, ?_⟩)
                refine DL_qg rfl rfl (yield_of rfl (congrArg Value.bool hc41224)) (Exec.load_box (hS41216) A3 rfl rfl rfl ⟨rfl, ?_⟩)
                obtain ⟨x41238, q41239, ht41185⟩ := bind_some ht41185
                obtain ⟨g41240, c41241, e41242⟩ := ((hS41216).f2).arr_at q41239
                refine DL_qg rfl rfl (yield_of rfl (congrArg Value.bool hc41224)) (Exec.index_slice S22 rfl e41242 rfl (idx_some q41239).1 (idx_some q41239).2.1 ⟨rfl, ?_⟩)
                refine DL_qg rfl rfl (yield_of rfl (congrArg Value.bool hc41224)) (Exec.load_arr (F := (encInt .i64)) ((hS41216).f2) e41242 A3 rfl rfl rfl q41239 (Sub.refl _) ?_)
                intro v41243 q41244
                obtain rfl := encInt_val.1 q41244
                refine ⟨rfl, ?_⟩
                refine DL_qg rfl rfl (yield_of rfl (congrArg Value.bool hc41224)) (Exec.lss rfl rfl rfl ⟨rfl, ?_⟩)
                refine DL_q rfl rfl (Exec.pick_t (v := Value.bool (decide ((IntKind.i64.wrap (x41217 + x41230)) < x41238))) rfl (congrArg Value.bool hc41224) rfl ⟨rfl, ?_⟩)
                refine DL_done ?_
                refine WL_nil (at_normal ?_)
                have e41245 := Option.some.inj ht41185
                subst z41184
                have hS41246 := (hS41216).f2
                have hS41247 := (hS41246).f2
                exact ⟨s41093, (PHeap.le_refl _), hS41247, p41096, p41097, p41098, rfl, p41099, p41100, x41101, rfl⟩
              · replace hc41224 := not_true hc41224
                refine DL_qp rfl rfl (yield_of rfl (congrArg Value.bool hc41224)) rfl ?_
                refine DL_qp rfl rfl (yield_of rfl (congrArg Value.bool hc41224)) rfl ?_
                refine DL_qp rfl rfl (yield_of rfl (congrArg Value.bool hc41224)) rfl ?_
                refine DL_qp rfl rfl (yield_of rfl (congrArg Value.bool hc41224)) rfl ?_
                refine DL_qp rfl rfl (yield_of rfl (congrArg Value.bool hc41224)) rfl ?_
                refine DL_qp rfl rfl (yield_of rfl (congrArg Value.bool hc41224)) rfl ?_
                refine DL_qp rfl rfl (yield_of rfl (congrArg Value.bool hc41224)) rfl ?_
                refine DL_qp rfl rfl (yield_of rfl (congrArg Value.bool hc41224)) rfl ?_
                refine DL_qp rfl rfl (yield_of rfl (congrArg Value.bool hc41224)) rfl ?_
                refine DL_qp rfl rfl (yield_of rfl (congrArg Value.bool hc41224)) rfl ?_
                refine DL_qp rfl rfl (yield_of rfl (congrArg Value.bool hc41224)) rfl ?_
                refine DL_qp rfl rfl (yield_of rfl (congrArg Value.bool hc41224)) rfl ?_
                refine DL_qp rfl rfl (yield_of rfl (congrArg Value.bool hc41224)) rfl ?_
                refine DL_qp rfl rfl (yield_of rfl (congrArg Value.bool hc41224)) rfl ?_
                refine DL_qp rfl rfl (yield_of rfl (congrArg Value.bool hc41224)) rfl ?_
                refine DL_qp rfl rfl (yield_of rfl (congrArg Value.bool hc41224)) rfl ?_
                refine DL_qp rfl rfl (yield_of rfl (congrArg Value.bool hc41224)) rfl ?_
                refine DL_qp rfl rfl (yield_of rfl (congrArg Value.bool hc41224)) rfl ?_
                refine DL_q rfl rfl (Exec.pick_f (v := Value.bool (false)) rfl (congrArg Value.bool hc41224) rfl ⟨rfl, ?_⟩)
                refine DL_done ?_
                refine WL_nil (at_normal ?_)
                have e41248 := Option.some.inj ht41185
                subst z41184
                have hS41249 := (hS41216).f2
                have hS41250 := (hS41249).f2
                exact ⟨s41093, (PHeap.le_refl _), hS41250, p41096, p41097, p41098, rfl, p41099, p41100, x41101, rfl⟩
            · intro f41251 w41252 hM41253
              obtain ⟨s41254, l41255, hS41256, p41257, p41258, p41259, p41260, p41261, p41262, p41263, p41264⟩ := hM41253
              refine (at_normal ?_)
              obtain ⟨t41351, ht41352, hm41091⟩ := bind_some hm41091
              refine W_mid (M := fun f' w' => (un2 fun (changed41349 : Bool) (l41350 : (List Int)) => ∃ (s41353 : PHeap) , PHeap.le s41254 s41353 ∧ St w0 s41353 (Res.box b36785 26 [Value.int .i64 (x32058.States), Value.int .i64 (x32058.Init), v32059, v32061, v32063] :: Res.arr (encInt .i64) 3 v36845 l41350 :: H) w' ∧ f' 1 = Value.pointer (some ⟨b36785, 0, none⟩) ∧ f' 3 = v36845 ∧ f' 7 = Value.bool (changed41349) ∧ f' 25 = v32061 ∧ f' 26 = Value.int .i64 ((x32058.Edges.length : Int)) ∧ f' 27 = Value.int .i64 ((i40361 : Int))) t41351) ?_ ?_
              · rcases ite_some ht41352 with ⟨hc41354, ht41352⟩ | ⟨hc41354, ht41352⟩
                · refine W_cond_t p41264 hc41354 ?_
                  refine W_dl (n0 := 15) (.q 0 (.q 1 (.q 2 (.q 3 (.q 4 (.q 5 (.q 6 (.q 7 (.q 8 (.q 9 (.q 10 (.q 11 (.q 12 (.q 13 (.q 14 .done))))))))))))))) hmix (by kernel_rfl) (by kernel_rfl) ?_
                  have hS41413 := hS41256.drew
                  refine DL_q rfl rfl (Exec.move (v := v36845) rfl p41258 ⟨rfl, ?_⟩)
                  refine DL_q rfl rfl (Exec.field F66_0 rfl p41260 rfl ⟨rfl, ?_⟩)
                  refine DL_q rfl rfl (Exec.load_box ((hS41413).f2) A3 rfl rfl rfl ⟨rfl, ?_⟩)
                  refine DL_q rfl rfl (Exec.move (v := v36845) rfl p41258 ⟨rfl, ?_⟩)
                  refine DL_q rfl rfl (Exec.field F66_2 rfl p41260 rfl ⟨rfl, ?_⟩)
                  refine DL_q rfl rfl (Exec.load_box ((hS41413).f2) A3 rfl rfl rfl ⟨rfl, ?_⟩)
                  obtain ⟨x41414, q41415, ht41352⟩ := bind_some ht41352
                  obtain ⟨g41416, c41417, e41418⟩ := ((hS41413).f1).arr_at q41415
                  refine DL_q rfl rfl (Exec.index_slice S22 rfl e41418 rfl (idx_some q41415).1 (idx_some q41415).2.1 ⟨rfl, ?_⟩)
                  refine DL_q rfl rfl (Exec.load_arr (F := (encInt .i64)) ((hS41413).f1) e41418 A3 rfl rfl rfl q41415 (Sub.refl _) ?_)
                  intro v41419 q41420
                  obtain rfl := encInt_val.1 q41420
                  refine ⟨rfl, ?_⟩
                  refine DL_q rfl rfl (Exec.field F26_2 rfl p41257 rfl ⟨rfl, ?_⟩)
                  refine DL_q rfl rfl (Exec.load_box (hS41413) A22 rfl rfl rfl ⟨rfl, ?_⟩)
                  refine DL_q rfl rfl (Exec.field F66_1 rfl p41260 rfl ⟨rfl, ?_⟩)
                  refine DL_q rfl rfl (Exec.load_box ((hS41413).f2) A3 rfl rfl rfl ⟨rfl, ?_⟩)
                  obtain ⟨x41421, q41422, ht41352⟩ := bind_some ht41352
                  refine DL_q rfl rfl (Exec.index_repE S22 rfl rfl rfl (a32060.mono (PHeap.le.trans (PHeap.le.trans (PHeap.le.trans l36982 l40355) l41094) l41255)) q41422 ?_)
                  intro b41423 o41424 a41425 e41426
                  refine ⟨rfl, ?_⟩
                  refine DL_q rfl rfl (Exec.load_at (E := (encInt .i64)) hS41413 A3 rfl rfl rfl a41425 ?_)
                  intro v41427 q41428
                  obtain rfl := encInt_val.1 q41428
                  refine ⟨rfl, ?_⟩
                  refine DL_q rfl rfl (Exec.add rfl rfl rfl ⟨rfl, ?_⟩)
                  refine DL_done ?_
                  obtain ⟨x41429, q41430, ht41352⟩ := bind_some ht41352
                  obtain ⟨g41431, c41432, e41433⟩ := ((hS41413).f1).arr_at q41430
                  refine WL_step rfl rfl (Exec.index_slice S22 rfl e41433 rfl (idx_some q41430).1 (idx_some q41430).2.1 ?_)
                  obtain ⟨l41434, q41435, ht41352⟩ := bind_some ht41352
                  have hS41436 := (hS41413).f1
                  refine WL_step rfl rfl (Exec.store_arr hS41436 e41433 A3 rfl rfl rfl rfl (encInt_val.2 rfl) q41435 ?_)
                  intro w41437 hS41438
                  refine WL_step rfl rfl (Exec.assign (v := Value.bool (true)) rfl rfl ?_)
                  refine WL_nil (at_normal ?_)
                  have e41439 := Option.some.inj ht41352
                  subst t41351
                  have hS41440 := ((hS41438).f2).drop
                  have hS41441 := (hS41440).f1
                  exact ⟨s41254, (PHeap.le_refl _), hS41441, p41257, p41258, rfl, p41261, p41262, p41263⟩
                · refine W_cond_f p41264 hc41354 ?_
                  replace hc41354 := not_true hc41354
                  refine W_skip (at_normal ?_)
                  have e41442 := Option.some.inj ht41352
                  subst t41351
                  have hS41443 := ((hS41256).f2).drop
                  have hS41444 := (hS41443).f1
                  have hS41445 := (hS41444).f1
                  exact ⟨s41254, (PHeap.le_refl _), hS41445, p41257, p41258, p41259, p41261, p41262, p41263⟩
              · intro f41446 w41447 hM41448
                obtain ⟨changed41349, l41350⟩ := t41351
                replace hm41091 := un2_eq hm41091
                obtain ⟨s41449, l41450, hS41451, p41452, p41453, p41454, p41455, p41456, p41457⟩ := hM41448
                refine (ib_normal (at_normal ?_))
                refine W_region ?_
                refine WL_step rfl rfl (Exec.add rfl p41457 rfl ?_)
                refine WL_step rfl rfl (Exec.move (v := Value.int .i64 (IntKind.i64.wrap ((i40361 : Int) + 1))) rfl rfl ?_)
                refine WL_nil (at_normal ?_)
                have e41458 := Option.some.inj hm41091
                subst s41086
                have hS41459 := (hS41451).f1
                have hS41460 := (hS41459).f1
                exact ⟨s41449, (PHeap.le.trans (PHeap.le.trans l41094 l41255) l41450), hS41460, p41452, p41453, p41454, p41455, p41456, (Eq.trans rfl (wrap_up hi41089 (SliceRep.le (a32062.mono (PHeap.le.trans l36982 l40355)))))⟩
          · intro f41461 w41462 hI41463
            obtain ⟨changed40719, l40720⟩ := t41080
            replace hm40351 := un2_eq hm40351
            obtain ⟨s41464, l41465, hS41466, p41467, p41468, p41469, p41470, p41471, x41472⟩ := hI41463
            refine W_seq ?_
            refine W_region ?_
            refine WL_step rfl rfl (Exec.lss rfl x41472 p41471 ?_)
            refine WL_nil (at_normal ?_)
            refine W_seq ?_
            refine W_false (congrArg Value.bool (decide_eq_false (by omega))) ?_
            refine W_exit (at_exit (at_exit (ib_here (ib_normal (at_normal ?_)))))
            have e41473 := Option.some.inj hm40351
            subst c40347
            have hS41474 := (hS41466).f1
            have hS41475 := (hS41474).f1
            refine ⟨_, rfl, ?_⟩; exact ⟨s41464, (PHeap.le.trans l40355 l41465), hS41475, p41467, p41468, p41469⟩
        · refine W_cond_f rfl hc40360 ?_
          replace hc40360 := not_true hc40360
          refine W_exit (at_exit (at_exit (ib_here (at_normal ?_))))
          have e41476 := Option.some.inj hm40351
          subst c40347
          have hS41477 := (hS40356).f1
          have hS41478 := (hS41477).f1
          refine ⟨_, .inr (hres40352 (by intro _ h; cases h)), ?_⟩; exact ⟨s40354, l40355, hS41478, p40357, p40358, p40359⟩
    · rintro f41479 w41480 ⟨t41481, hc41482, hM41483⟩
      have hm := hc41482.elim (hn40340 _) (hb40341 _)
      clear hc41482
      obtain ⟨changed40335, l40336⟩ := t41481
      replace hm := un2_eq hm
      obtain ⟨s41484, l41485, hS41486, p41487, p41488, p41489⟩ := hM41483
      refine (at_normal ?_)
      refine W_seq ?_
      refine W_region ?_
      refine WL_step rfl rfl (Exec.move (v := v36845) rfl p41488 ?_)
      refine WL_step rfl rfl (Exec.assign (v := v36845) rfl rfl ?_)
      refine WL_nil (at_normal ?_)
      refine W_ret ?_
      have e41491 := Option.some.inj hm
      subst r
      refine ⟨_, ret1 rfl, ?_⟩
      have hS41492 := (hS41486).f1
      obtain ⟨s41493, l41494, hS41495, r41496⟩ := hS41492.freezeArr
      have hS41497 := (hS41495).drop
      exact ⟨s41493, v36845, (PHeap.le.trans (PHeap.le.trans l36982 l41485) l41494), hS41497, rfl, r41496⟩

theorem N22 : (Try.f22.name == "runtime.NumGoroutine") = false := by kernel_rfl

theorem ref44_Costs_sim {w0 w : World} {s : PHeap} {H : List Res} {x41507 : System} {v41508 : Value} {v41510 : Value} {v41512 : Value} {r : (List Int)} (hm : ref44_Costs_p x41507 = some r) (hS : St w0 s (H) w) (a41509 : SliceRep (encInt .i64) s v41508 x41507.Costs) (a41511 : SliceRep encEdge s v41510 x41507.Edges) (a41513 : SliceRep encBool s v41512 x41507.Goals) :
    Calls Try.prog 22 #[Value.agg #[Value.int .i64 (x41507.States), Value.int .i64 (x41507.Init), v41508, v41510, v41512]] w fun e w' => ∃ v, e = .returned v ∧ ((fun (y41803 : (List Int)) => ∃ (s41805 : PHeap) (v41804 : Value), PHeap.le s s41805 ∧ St w0 s41805 (H) w' ∧ v = v41804 ∧ SliceRep (encInt .i64) s41805 v41804 y41803) r) := by
  unfold ref44_Costs_p at hm
  refine calls_of_W Try.func22 rfl rfl ?_
  refine W_seq ?_
  refine W_region ?_
  refine WL_step rfl rfl (Exec.box (cs := [Value.int .i64 (x41507.States), Value.int .i64 (x41507.Init), v41508, v41510, v41512]) hS rfl rfl rfl ?_)
  intro b41809 w41810 hS41811
  refine WL_step rfl rfl (Exec.assign (v := Value.slice none 0 0) rfl rfl ?_)
  refine WL_nil (at_normal ?_)
  refine W_seq ?_
  obtain ⟨l41813, q41814, hm⟩ := bind_some hm
  refine W_mid (M := fun f' w' => ∃ (s41836 : PHeap) (b41833 : Nat) (v41835 : Value), PHeap.le s s41836 ∧ St w0 s41836 (Res.box b41809 26 [Value.int .i64 (x41507.States), Value.int .i64 (x41507.Init), v41508, v41510, v41512] :: Res.box b41833 26 [Value.int .i64 (x41507.States), Value.int .i64 (0), v41508, Value.slice none 0 0, v41835] :: Res.arr encBool 4 v41835 l41813 :: H) w' ∧ f' 1 = Value.pointer (some ⟨b41809, 0, none⟩) ∧ f' 3 = Value.pointer (some ⟨b41833, 0, none⟩)) ?_ ?_
  · refine W_dl (n0 := 9) (.q 0 (.q 1 (.q 2 (.q 3 (.q 4 (.q 5 (.alt (.e 6 [0, 1, 2, 3] (.q 7 (.e 8 [0, 1, 2, 3, 7] .done))) (.e 8 [0, 1, 2, 3, 4, 5] (.e 6 [0, 1, 2, 3] (.q 7 .done)))))))))) hmix (by kernel_rfl) (by kernel_rfl) ?_
    have hS41837 := hS41811.drew
    refine DL_q rfl rfl (Exec.field F26_0 rfl rfl rfl ⟨rfl, ?_⟩)
    refine DL_q rfl rfl (Exec.load_box (hS41837) A3 rfl rfl rfl ⟨rfl, ?_⟩)
    refine DL_q rfl rfl (Exec.field F26_2 rfl rfl rfl ⟨rfl, ?_⟩)
    refine DL_q rfl rfl (Exec.load_box (hS41837) A22 rfl rfl rfl ⟨rfl, ?_⟩)
    refine DL_q rfl rfl (Exec.field F26_0 rfl rfl rfl ⟨rfl, ?_⟩)
    refine DL_q rfl rfl (Exec.load_box (hS41837) A3 rfl rfl rfl ⟨rfl, ?_⟩)
    refine DL_alt ?_ ?_
    · refine DL_e rfl rfl (Exec.make (E := encBool) hS41837 S24 Z4 rfl rfl rfl rfl q41814 ?_)
      intro v41838 w41839 hS41840
      refine ⟨(ag_cons (ag_r rfl rfl (Exec.field F26_0 rfl rfl rfl ⟨rfl, rfl⟩)) (ag_cons (ag_r rfl rfl (Exec.load_box ((hS41840).f1) A3 rfl rfl rfl ⟨rfl, rfl⟩)) (ag_cons (ag_r rfl rfl (Exec.field F26_2 rfl rfl rfl ⟨rfl, rfl⟩)) (ag_cons (ag_r rfl rfl (Exec.load_box ((hS41840).f1) A22 rfl rfl rfl ⟨rfl, rfl⟩)) ag_nil)))), ?_⟩
      refine DL_q rfl rfl (Exec.build rfl (parts_cons (c := [Value.int .i64 (x41507.States)]) (cells_of rfl rfl) (parts_cons (c := [v41508]) (cells_of rfl (cells_one (a41509).one)) (parts_cons (c := [v41838]) (cells_of rfl (cells_one (hS41840).arr_one)) parts_nil))) (v := Value.agg #[Value.int .i64 (x41507.States), Value.int .i64 (0), v41508, Value.slice none 0 0, v41838]) (fun _ => by kernel_rfl) ⟨rfl, ?_⟩)
      refine DL_e rfl rfl (Exec.alloc (cs := [Value.int .i64 (0), Value.int .i64 (0), Value.slice none 0 0, Value.slice none 0 0, Value.slice none 0 0]) hS41840 Z26 rfl rfl ?_)
      intro b41841 w41842 hS41843
      refine ⟨(ag_cons (ag_r rfl rfl (Exec.field F26_0 rfl rfl rfl ⟨rfl, rfl⟩)) (ag_cons (ag_r rfl rfl (Exec.load_box ((hS41843).f2) A3 rfl rfl rfl ⟨rfl, rfl⟩)) (ag_cons (ag_r rfl rfl (Exec.field F26_2 rfl rfl rfl ⟨rfl, rfl⟩)) (ag_cons (ag_r rfl rfl (Exec.load_box ((hS41843).f2) A22 rfl rfl rfl ⟨rfl, rfl⟩)) (ag_cons (ag_r rfl rfl (Exec.build rfl (parts_cons (c := [Value.int .i64 (x41507.States)]) (cells_of rfl rfl) (parts_cons (c := [v41508]) (cells_of rfl (cells_one (a41509).one)) (parts_cons (c := [v41838]) (cells_of rfl (cells_one ((hS41843).f1).arr_one)) parts_nil))) (v := Value.agg #[Value.int .i64 (x41507.States), Value.int .i64 (0), v41508, Value.slice none 0 0, v41838]) (fun _ => by kernel_rfl) ⟨rfl, rfl⟩)) ag_nil))))), ?_⟩
      refine DL_done ?_
      refine WL_step rfl rfl (Exec.store_box (ds := [Value.int .i64 (x41507.States), Value.int .i64 (0), v41508, Value.slice none 0 0, v41838]) (es := [Value.int .i64 (x41507.States), Value.int .i64 (0), v41508, Value.slice none 0 0, v41838]) hS41843 A26 rfl rfl rfl rfl (one_cons rfl (one_cons rfl (one_cons (a41509).one (one_cons rfl (one_cons ((hS41843).f1).arr_one one_nil))))) (Nat.le_of_ble_eq_true rfl) rfl ?_)
      intro w41844 hS41845
      refine WL_nil (at_normal ?_)
      have hS41846 := (hS41845).f1
      have hS41847 := (hS41846).f1
      have hS41848 := (hS41847).f2
      exact ⟨s, b41841, v41838, (PHeap.le_refl _), hS41848, rfl, rfl⟩
    refine DL_e rfl rfl (Exec.alloc (cs := [Value.int .i64 (0), Value.int .i64 (0), Value.slice none 0 0, Value.slice none 0 0, Value.slice none 0 0]) hS41837 Z26 rfl rfl ?_)
    intro b41849 w41850 hS41851
    refine ⟨(ag_cons (ag_r rfl rfl (Exec.field F26_0 rfl rfl rfl ⟨rfl, rfl⟩)) (ag_cons (ag_r rfl rfl (Exec.load_box ((hS41851).f1) A3 rfl rfl rfl ⟨rfl, rfl⟩)) (ag_cons (ag_r rfl rfl (Exec.field F26_2 rfl rfl rfl ⟨rfl, rfl⟩)) (ag_cons (ag_r rfl rfl (Exec.load_box ((hS41851).f1) A22 rfl rfl rfl ⟨rfl, rfl⟩)) (ag_cons (ag_r rfl rfl (Exec.field F26_0 rfl rfl rfl ⟨rfl, rfl⟩)) (ag_cons (ag_r rfl rfl (Exec.load_box ((hS41851).f1) A3 rfl rfl rfl ⟨rfl, rfl⟩)) ag_nil)))))), ?_⟩
    refine DL_e rfl rfl (Exec.make (E := encBool) hS41851 S24 Z4 rfl rfl rfl rfl q41814 ?_)
    intro v41852 w41853 hS41854
    refine ⟨(ag_cons (ag_r rfl rfl (Exec.field F26_0 rfl rfl rfl ⟨rfl, rfl⟩)) (ag_cons (ag_r rfl rfl (Exec.load_box ((hS41854).f2) A3 rfl rfl rfl ⟨rfl, rfl⟩)) (ag_cons (ag_r rfl rfl (Exec.field F26_2 rfl rfl rfl ⟨rfl, rfl⟩)) (ag_cons (ag_r rfl rfl (Exec.load_box ((hS41854).f2) A22 rfl rfl rfl ⟨rfl, rfl⟩)) ag_nil)))), ?_⟩
    refine DL_q rfl rfl (Exec.build rfl (parts_cons (c := [Value.int .i64 (x41507.States)]) (cells_of rfl rfl) (parts_cons (c := [v41508]) (cells_of rfl (cells_one (a41509).one)) (parts_cons (c := [v41852]) (cells_of rfl (cells_one (hS41854).arr_one)) parts_nil))) (v := Value.agg #[Value.int .i64 (x41507.States), Value.int .i64 (0), v41508, Value.slice none 0 0, v41852]) (fun _ => by kernel_rfl) ⟨rfl, ?_⟩)
    refine DL_done ?_
    have hS41855 := (hS41854).f1
    refine WL_step rfl rfl (Exec.store_box (ds := [Value.int .i64 (x41507.States), Value.int .i64 (0), v41508, Value.slice none 0 0, v41852]) (es := [Value.int .i64 (x41507.States), Value.int .i64 (0), v41508, Value.slice none 0 0, v41852]) hS41855 A26 rfl rfl rfl rfl (one_cons rfl (one_cons rfl (one_cons (a41509).one (one_cons rfl (one_cons ((hS41855).f1).arr_one one_nil))))) (Nat.le_of_ble_eq_true rfl) rfl ?_)
    intro w41856 hS41857
    refine WL_nil (at_normal ?_)
    have hS41858 := (hS41857).f1
    have hS41859 := (hS41858).f1
    have hS41860 := (hS41859).f2
    exact ⟨s, b41849, v41852, (PHeap.le_refl _), hS41860, rfl, rfl⟩
  · intro f41861 w41862 hM41863
    obtain ⟨s41864, b41833, v41835, l41865, hS41866, p41867, p41868⟩ := hM41863
    refine (at_normal ?_)
    refine W_seq ?_
    refine W_region ?_
    refine WL_step rfl rfl (Exec.field F26_4 rfl p41868 rfl ?_)
    refine WL_step rfl rfl (Exec.load_box ((hS41866).f1) A24 rfl rfl rfl ?_)
    refine WL_step rfl rfl (Exec.field F26_1 rfl p41867 rfl ?_)
    refine WL_step rfl rfl (Exec.load_box (hS41866) A3 rfl rfl rfl ?_)
    obtain ⟨x41879, q41880, hm⟩ := bind_some hm
    obtain ⟨g41881, c41882, e41883⟩ := ((hS41866).f2).arr_at q41880
    refine WL_step rfl rfl (Exec.index_slice S24 rfl e41883 rfl (idx_some q41880).1 (idx_some q41880).2.1 ?_)
    obtain ⟨l41884, q41885, hm⟩ := bind_some hm
    have hS41886 := (hS41866).f2
    refine WL_step rfl rfl (Exec.store_arr hS41886 e41883 A4 rfl rfl rfl rfl (encBool_val.2 rfl) q41885 ?_)
    intro w41887 hS41888
    refine WL_nil (at_normal ?_)
    refine W_seq ?_
    refine W_seq ?_
    refine W_region ?_
    refine WL_step rfl rfl (Exec.field F26_3 rfl p41867 rfl ?_)
    refine WL_step rfl rfl (Exec.load_box ((hS41888).f1) A23 rfl rfl rfl ?_)
    refine WL_step rfl rfl (Exec.len_rep S23 rfl rfl (a41511.mono l41865) ?_)
    refine WL_step rfl rfl (Exec.move (v := Value.int .i64 (0)) rfl rfl ?_)
    refine WL_nil (at_normal ?_)
    obtain ⟨z41943, hB41996, hm⟩ := bind_some hm
    refine W_block (W_forS (fun k' s' f' w' => (fun (z41943 : (List Edge)) => ∃ (s41997 : PHeap) (v41944 : Value), PHeap.le s41864 s41997 ∧ St w0 s41997 (Res.box b41833 26 [Value.int .i64 (x41507.States), Value.int .i64 (0), v41508, v41944, v41835] :: Res.arr encEdge 66 v41944 z41943 :: Res.arr encBool 4 v41835 l41884 :: H) w' ∧ f' 3 = Value.pointer (some ⟨b41833, 0, none⟩) ∧ f' 20 = v41510 ∧ f' 21 = Value.int .i64 ((x41507.Edges.length : Int)) ∧ f' 22 = Value.int .i64 (k' : Int)) s') hB41996 ?_ ?_ ?_)
    · have hS41998 := hS41888.nilArr encEdge 66
      have hS41999 := ((hS41998).f2).drop
      have hS42000 := (hS41999).f1
      have hS42001 := (hS42000).f1
      have hS42002 := (hS42001).f2
      exact ⟨s41864, (Value.slice none 0 0), (PHeap.le_refl _), hS42002, p41868, rfl, rfl, rfl⟩
    · intro i41889 z41943 s42004 f42005 w42006 hi42007 hI42008 hm42009
      obtain ⟨s42010, v41944, l42011, hS42012, p42013, p42014, p42015, x42016⟩ := hI42008
      refine W_seq ?_
      refine W_region ?_
      refine WL_step rfl rfl (Exec.lss rfl x42016 p42015 ?_)
      refine WL_nil (at_normal ?_)
      refine W_seq ?_
      refine W_true (congrArg Value.bool (decide_eq_true (by omega))) ?_
      refine W_skip (at_normal ?_)
      refine W_seq ?_
      refine W_block ?_
      refine W_seq ?_
      refine W_region ?_
      obtain ⟨x42029, q42030, hm42009⟩ := bind_some hm42009
      refine WL_step rfl rfl (Exec.index_rep S23 rfl p42014 x42016 (a41511.mono (PHeap.le.trans l41865 l42011)) q42030 ?_)
      intro b42031 o42032 a42033
      refine WL_step rfl rfl (Exec.load_at (E := encEdge) hS42012 A66 rfl rfl rfl a42033 ?_)
      intro v42034 q42035
      obtain rfl := encEdge_val.1 q42035
      refine WL_step rfl rfl (Exec.alloc (cs := [Value.int .i64 (0), Value.int .i64 (0), Value.int .i64 (0)]) hS42012 Z66 rfl rfl ?_)
      intro b42036 w42037 hS42038
      refine WL_step rfl rfl (Exec.store_box (ds := [Value.int .i64 (x42029.From), Value.int .i64 (x42029.Label), Value.int .i64 (x42029.To)]) (es := [Value.int .i64 (x42029.From), Value.int .i64 (x42029.Label), Value.int .i64 (x42029.To)]) hS42038 A66 rfl rfl rfl rfl (one_cons rfl (one_cons rfl (one_cons rfl one_nil))) (Nat.le_of_ble_eq_true rfl) rfl ?_)
      intro w42039 hS42040
      refine WL_nil (at_normal ?_)
      refine W_region ?_
      refine WL_step rfl rfl (Exec.field F26_3 rfl p42013 rfl ?_)
      refine WL_step rfl rfl (Exec.load_box ((hS42040).f1) A23 rfl rfl rfl ?_)
      refine WL_step rfl rfl (Exec.field F66_2 rfl rfl rfl ?_)
      refine WL_step rfl rfl (Exec.load_box (hS42040) A3 rfl rfl rfl ?_)
      refine WL_step rfl rfl (Exec.field F66_1 rfl rfl rfl ?_)
      refine WL_step rfl rfl (Exec.load_box (hS42040) A3 rfl rfl rfl ?_)
      refine WL_step rfl rfl (Exec.field F66_0 rfl rfl rfl ?_)
      refine WL_step rfl rfl (Exec.load_box (hS42040) A3 rfl rfl rfl ?_)
      refine WL_step rfl rfl (Exec.build rfl (parts_cons (c := [Value.int .i64 (x42029.To)]) (cells_of rfl rfl) (parts_cons (c := [Value.int .i64 (x42029.Label)]) (cells_of rfl rfl) (parts_cons (c := [Value.int .i64 (x42029.From)]) (cells_of rfl rfl) parts_nil))) (v := Value.agg #[Value.int .i64 (x42029.To), Value.int .i64 (x42029.Label), Value.int .i64 (x42029.From)]) (fun _ => by kernel_rfl) ?_)
      refine WL_step rfl rfl (Exec.buildSlice (Te := 66) (cs := [Value.int .i64 (x42029.To), Value.int .i64 (x42029.Label), Value.int .i64 (x42029.From)]) hS42040 rfl (parts_cons (c := [Value.int .i64 (x42029.To), Value.int .i64 (x42029.Label), Value.int .i64 (x42029.From)]) (cells_of rfl rfl) parts_nil) (fun _ => by kernel_rfl) ?_)
      intro b42053 w42054 hS42055
      obtain ⟨l42056, q42057, hm42009⟩ := bind_some hm42009
      have hS42058 := (hS42055).f3
      refine WL_step rfl rfl (Exec.append_box (E := encEdge) (ys := [(⟨x42029.To, x42029.Label, x42029.From⟩ : Edge)]) hS42058 S23 Z66 rfl (by decide) rfl rfl rfl rfl ⟨[Value.int .i64 (x42029.To), Value.int .i64 (x42029.Label), Value.int .i64 (x42029.From)], [], rfl, ⟨[Value.int .i64 (x42029.To)], [Value.int .i64 (x42029.Label), Value.int .i64 (x42029.From)], rfl, rfl, ⟨[Value.int .i64 (x42029.Label)], [Value.int .i64 (x42029.From)], rfl, rfl, rfl⟩⟩, rfl⟩ rfl q42057 ?_)
      intro v42059 w42060 hS42061
      refine WL_step rfl rfl (Exec.field F26_3 rfl p42013 rfl ?_)
      have hS42062 := (hS42061).f2
      refine WL_step rfl rfl (Exec.store_box (ds := [v42059]) (es := [Value.int .i64 (x41507.States), Value.int .i64 (0), v41508, v42059, v41835]) hS42062 A23 rfl rfl rfl (cells_one ((hS42062).f1).arr_one) (one_cons ((hS42062).f1).arr_one one_nil) (Nat.le_of_ble_eq_true rfl) rfl ?_)
      intro w42063 hS42064
      refine WL_nil (ib_normal (at_normal ?_))
      refine W_region ?_
      refine WL_step rfl rfl (Exec.add rfl x42016 rfl ?_)
      refine WL_step rfl rfl (Exec.move (v := Value.int .i64 (IntKind.i64.wrap ((i41889 : Int) + 1))) rfl rfl ?_)
      refine WL_nil (at_normal ?_)
      have e42065 := Option.some.inj hm42009
      subst s42004
      have hS42066 := ((hS42064).f2).drop
      have hS42067 := (hS42066).f2
      have hS42068 := (hS42067).f2
      have hS42069 := (hS42068).f2
      exact ⟨s42010, v42059, l42011, hS42069, p42013, p42014, p42015, (Eq.trans rfl (wrap_up hi42007 (SliceRep.le (a41511.mono l41865))))⟩
    · intro f42070 w42071 hI42072
      obtain ⟨s42073, v41944, l42074, hS42075, p42076, p42077, p42078, x42079⟩ := hI42072
      refine W_seq ?_
      refine W_region ?_
      refine WL_step rfl rfl (Exec.lss rfl x42079 p42078 ?_)
      refine WL_nil (at_normal ?_)
      refine W_seq ?_
      refine W_false (congrArg Value.bool (decide_eq_false (by omega))) ?_
      refine W_exit (at_exit (at_exit (ib_here (at_normal ?_))))
      refine W_seq ?_
      refine W_region ?_
      refine WL_step rfl rfl (Exec.load_box_agg (ds := [Value.int .i64 (x41507.States), Value.int .i64 (0), v41508, v41944, v41835]) (hS42075) A26 rfl p42076 rfl ?_)
      have hS42099 := (hS42075).f1
      obtain ⟨s42100, l42101, hS42102, r42103⟩ := hS42099.freezeArr
      have hS42104 := (hS42102).f1
      obtain ⟨s42105, l42106, hS42107, r42108⟩ := hS42104.freezeArr
      obtain ⟨y42111, q42110, hm⟩ := bind_some hm
      refine WL_step rfl rfl (Exec.call rfl rfl Try.func21 rfl N21 (args_cons rfl args_nil) ((ref44_Distances_sim q42110 hS42107 (a41509.mono (PHeap.le.trans (PHeap.le.trans (PHeap.le.trans l41865 l42074) l42101) l42106)) (r42103.mono l42106) r42108).mono ?_))
      rintro _ w42112 ⟨v42116, rfl, ⟨s42113, _, l42114, hS42115, rfl, r42117⟩⟩
      refine ⟨_, rfl, ?_⟩
      refine WL_step rfl rfl (Exec.assign (v := v42116) rfl rfl ?_)
      refine WL_nil (at_normal ?_)
      refine W_ret ?_
      have e42119 := Option.some.inj hm
      subst r
      refine ⟨_, ret1 rfl, ?_⟩
      have hS42120 := (hS42115).drop
      exact ⟨s42113, v42116, (PHeap.le.trans (PHeap.le.trans (PHeap.le.trans (PHeap.le.trans l41865 l42074) l42101) l42106) l42114), hS42120, rfl, r42117⟩

theorem N24 : (Try.f24.name == "runtime.NumGoroutine") = false := by kernel_rfl

theorem ref44_Trim_sim {w0 w : World} {s : PHeap} {H : List Res} {x32038 : System} {v32039 : Value} {v32041 : Value} {v32043 : Value} {r : (List Int) × System} (hm : ref44_Trim_p x32038 = some r) (hS : St w0 s (H) w) (a32040 : SliceRep (encInt .i64) s v32039 x32038.Costs) (a32042 : SliceRep encEdge s v32041 x32038.Edges) (a32044 : SliceRep encBool s v32043 x32038.Goals) :
    Calls Try.prog 24 #[Value.agg #[Value.int .i64 (x32038.States), Value.int .i64 (x32038.Init), v32039, v32041, v32043]] w fun e w' => ∃ v, e = .returned v ∧ ((un2 fun (y43939 : (List Int)) (y43938 : System) => ∃ (s43964 : PHeap) (v43960 : Value) (v43961 : Value) (v43962 : Value) (v43963 : Value), PHeap.le s s43964 ∧ St w0 s43964 (H) w' ∧ v = Value.tuple #[Value.agg #[Value.int .i64 (y43938.States), Value.int .i64 (y43938.Init), v43961, v43962, v43963], v43960] ∧ SliceRep (encInt .i64) s43964 v43960 y43939 ∧ SliceRep (encInt .i64) s43964 v43961 y43938.Costs ∧ SliceRep encEdge s43964 v43962 y43938.Edges ∧ SliceRep encBool s43964 v43963 y43938.Goals) r) := by
  unfold ref44_Trim_p at hm
  refine calls_of_W Try.func24 rfl rfl ?_
  refine W_seq ?_
  refine W_region ?_
  refine WL_step rfl rfl (Exec.box (cs := [Value.int .i64 (x32038.States), Value.int .i64 (x32038.Init), v32039, v32041, v32043]) hS rfl rfl rfl ?_)
  intro b43971 w43972 hS43973
  refine WL_step rfl rfl (Exec.alloc (cs := [Value.int .i64 (0), Value.int .i64 (0), Value.slice none 0 0, Value.slice none 0 0, Value.slice none 0 0]) hS43973 Z26 rfl rfl ?_)
  intro b43974 w43975 hS43976
  refine WL_step rfl rfl (Exec.assign (v := Value.slice none 0 0) rfl rfl ?_)
  refine WL_nil (at_normal ?_)
  refine W_seq ?_
  refine W_dl (n0 := 5) (.q 0 (.q 2 (.e 1 [2] (.e 3 [] (.q 4 .done))))) hmix (by kernel_rfl) (by kernel_rfl) ?_
  have hS44034 := hS43976.drew
  refine DL_q rfl rfl (Exec.load_box_agg (ds := [Value.int .i64 (x32038.States), Value.int .i64 (x32038.Init), v32039, v32041, v32043]) ((hS44034).f1) A26 rfl rfl rfl ⟨rfl, ?_⟩)
  refine DL_q rfl rfl (Exec.load_box_agg (ds := [Value.int .i64 (x32038.States), Value.int .i64 (x32038.Init), v32039, v32041, v32043]) ((hS44034).f1) A26 rfl rfl rfl ⟨rfl, ?_⟩)
  obtain ⟨y44037, q44036, hm⟩ := bind_some hm
  refine DL_e rfl rfl (Exec.call rfl rfl Try.func21 rfl N21 (args_cons rfl args_nil) ((ref44_Distances_sim q44036 hS44034 a32040 a32042 a32044).mono ?_))
  rintro _ w44038 ⟨v44042, rfl, ⟨s44039, _, l44040, hS44041, rfl, r44043⟩⟩
  refine ⟨_, rfl, ?_⟩
  refine ⟨(ag_cons (ag_r rfl rfl (Exec.load_box_agg (ds := [Value.int .i64 (x32038.States), Value.int .i64 (x32038.Init), v32039, v32041, v32043]) ((hS44041).f1) A26 rfl rfl rfl ⟨rfl, rfl⟩)) ag_nil), ?_⟩
  obtain ⟨y44046, q44045, hm⟩ := bind_some hm
  refine DL_e rfl rfl (Exec.call rfl rfl Try.func22 rfl N22 (args_cons rfl args_nil) ((ref44_Costs_sim q44045 hS44041 (a32040.mono l44040) (a32042.mono l44040) (a32044.mono l44040)).mono ?_))
  rintro _ w44047 ⟨v44051, rfl, ⟨s44048, _, l44049, hS44050, rfl, r44052⟩⟩
  refine ⟨_, rfl, ?_⟩
  refine ⟨ag_nil, ?_⟩
  refine DL_q rfl rfl (Exec.assign (v := v44042) rfl rfl ⟨rfl, ?_⟩)
  refine DL_done ?_
  refine WL_step rfl rfl (Exec.assign (v := v44051) rfl rfl ?_)
  refine WL_nil (at_normal ?_)
  refine W_seq ?_
  refine W_region ?_
  refine WL_step rfl rfl (Exec.buildSlice (Te := 3) (cs := []) hS44050 rfl parts_nil (fun _ => by kernel_rfl) ?_)
  intro b44067 w44068 hS44069
  refine WL_step rfl rfl (Exec.field F26_2 rfl rfl rfl ?_)
  refine WL_step rfl rfl (Exec.load_box ((hS44069).f2) A22 rfl rfl rfl ?_)
  have hS44070 := St.boxArr (E := (encInt .i64)) (xs := []) hS44069 rfl (by simp [maxLen])
  obtain ⟨l44071, q44072, hm⟩ := bind_some hm
  refine WL_step rfl rfl (Exec.append_rep (E := (encInt .i64)) (ys := x32038.Costs) hS44070 S22 Z3 rfl (by decide) rfl rfl rfl (a32040.mono (PHeap.le.trans l44040 l44049)) q44072 ?_)
  intro v44073 w44074 hS44075
  refine WL_step rfl rfl (Exec.build rfl (parts_cons (c := [v44073]) (cells_of rfl (cells_one (hS44075).arr_one)) parts_nil) (v := Value.agg #[Value.int .i64 (0), Value.int .i64 (0), v44073, Value.slice none 0 0, Value.slice none 0 0]) (fun _ => by kernel_rfl) ?_)
  refine WL_step rfl rfl (Exec.alloc (cs := [Value.int .i64 (0), Value.int .i64 (0), Value.slice none 0 0, Value.slice none 0 0, Value.slice none 0 0]) hS44075 Z26 rfl rfl ?_)
  intro b44076 w44077 hS44078
  refine WL_step rfl rfl (Exec.store_box (ds := [Value.int .i64 (0), Value.int .i64 (0), v44073, Value.slice none 0 0, Value.slice none 0 0]) (es := [Value.int .i64 (0), Value.int .i64 (0), v44073, Value.slice none 0 0, Value.slice none 0 0]) hS44078 A26 rfl rfl rfl rfl (one_cons rfl (one_cons rfl (one_cons ((hS44078).f1).arr_one (one_cons rfl (one_cons rfl one_nil))))) (Nat.le_of_ble_eq_true rfl) rfl ?_)
  intro w44079 hS44080
  refine WL_nil (at_normal ?_)
  refine W_seq ?_
  refine W_region ?_
  refine WL_step rfl rfl (Exec.assign (v := Value.slice none 0 0) rfl rfl ?_)
  refine WL_nil (at_normal ?_)
  refine W_seq ?_
  refine W_seq ?_
  refine W_region ?_
  refine WL_step rfl rfl (Exec.move (v := v44042) rfl rfl ?_)
  refine WL_step rfl rfl (Exec.len_rep S22 rfl rfl (r44043.mono l44049) ?_)
  refine WL_step rfl rfl (Exec.move (v := Value.int .i64 (0)) rfl rfl ?_)
  refine WL_nil (at_normal ?_)
  obtain ⟨t44490, hB44491, hm⟩ := bind_some hm
  refine W_block (W_forS (fun k' s' f' w' => (un3 fun (to44286 : (List Int)) (z44288 : Int) (z44289 : (List Bool)) => ∃ (s44492 : PHeap) (v44287 : Value) (v44290 : Value), PHeap.le s44048 s44492 ∧ St w0 s44492 (Res.box b43971 26 [Value.int .i64 (x32038.States), Value.int .i64 (x32038.Init), v32039, v32041, v32043] :: Res.box b43974 26 [Value.int .i64 (0), Value.int .i64 (0), Value.slice none 0 0, Value.slice none 0 0, Value.slice none 0 0] :: Res.box b44076 26 [Value.int .i64 (z44288), Value.int .i64 (0), v44073, Value.slice none 0 0, v44290] :: Res.arr (encInt .i64) 3 v44287 to44286 :: Res.arr (encInt .i64) 3 v44073 l44071 :: Res.arr encBool 4 v44290 z44289 :: H) w' ∧ f' 1 = Value.pointer (some ⟨b43971, 0, none⟩) ∧ f' 2 = Value.pointer (some ⟨b43974, 0, none⟩) ∧ f' 4 = v44042 ∧ f' 5 = v44051 ∧ f' 6 = Value.pointer (some ⟨b44076, 0, none⟩) ∧ f' 7 = v44287 ∧ f' 21 = Value.int .i64 ((y44037.length : Int)) ∧ f' 22 = Value.int .i64 (k' : Int)) s') hB44491 ?_ ?_ ?_)
  · have hS44493 := hS44080.nilArr (encInt .i64) 3
    have hS44494 := hS44493.nilArr encBool 4
    have hS44495 := (hS44494).f3
    have hS44496 := (hS44495).f2
    have hS44497 := (hS44496).f3
    have hS44498 := (hS44497).f4
    have hS44499 := (hS44498).f5
    exact ⟨s44048, (Value.slice none 0 0), (Value.slice none 0 0), (PHeap.le_refl _), hS44499, rfl, rfl, rfl, rfl, rfl, rfl, rfl, rfl⟩
  · intro i44081 t44507 s44501 f44502 w44503 hi44504 hI44505 hm44506
    obtain ⟨to44286, z44288, z44289⟩ := t44507
    replace hm44506 := un3_eq hm44506
    obtain ⟨s44508, v44287, v44290, l44509, hS44510, p44511, p44512, p44513, p44514, p44515, p44516, p44517, x44518⟩ := hI44505
    refine W_seq ?_
    refine W_region ?_
    refine WL_step rfl rfl (Exec.lss rfl x44518 p44517 ?_)
    refine WL_nil (at_normal ?_)
    refine W_seq ?_
    refine W_true (congrArg Value.bool (decide_eq_true (by omega))) ?_
    refine W_skip (at_normal ?_)
    refine W_seq ?_
    refine W_block ?_
    refine W_seq ?_
    refine W_region ?_
    refine WL_step rfl rfl (Exec.move (v := Value.int .i64 ((i44081 : Int))) rfl x44518 ?_)
    refine WL_step rfl rfl (Exec.assign (v := Value.int .i64 ((i44081 : Int))) rfl rfl ?_)
    refine WL_nil (at_normal ?_)
    refine W_seq ?_
    refine W_seq ?_
    obtain ⟨z44535, ht44536, hm44506⟩ := bind_some hm44506
    refine W_mid (M := fun f' w' => (fun (z44535 : Bool) => ∃ (s44537 : PHeap) , PHeap.le s44508 s44537 ∧ St w0 s44537 (Res.box b43971 26 [Value.int .i64 (x32038.States), Value.int .i64 (x32038.Init), v32039, v32041, v32043] :: Res.box b43974 26 [Value.int .i64 (0), Value.int .i64 (0), Value.slice none 0 0, Value.slice none 0 0, Value.slice none 0 0] :: Res.box b44076 26 [Value.int .i64 (z44288), Value.int .i64 (0), v44073, Value.slice none 0 0, v44290] :: Res.arr (encInt .i64) 3 v44287 to44286 :: Res.arr (encInt .i64) 3 v44073 l44071 :: Res.arr encBool 4 v44290 z44289 :: H) w' ∧ f' 1 = Value.pointer (some ⟨b43971, 0, none⟩) ∧ f' 2 = Value.pointer (some ⟨b43974, 0, none⟩) ∧ f' 4 = v44042 ∧ f' 5 = v44051 ∧ f' 6 = Value.pointer (some ⟨b44076, 0, none⟩) ∧ f' 7 = v44287 ∧ f' 8 = Value.int .i64 ((i44081 : Int)) ∧ f' 21 = Value.int .i64 ((y44037.length : Int)) ∧ f' 22 = Value.int .i64 ((i44081 : Int)) ∧ f' 42 = Value.bool (z44535)) z44535) ?_ ?_
    · refine W_region ?_
      refine WL_step rfl rfl (Exec.move (v := Value.int .i64 ((i44081 : Int))) rfl rfl ?_)
      refine WL_step rfl rfl (Exec.field F26_1 rfl p44511 rfl ?_)
      refine WL_step rfl rfl (Exec.load_box (hS44510) A3 rfl rfl rfl ?_)
      refine WL_step rfl rfl (Exec.neq rfl rfl rfl ?_)
      refine WL_step rfl rfl (Exec.move (v := Value.bool (!decide ((i44081 : Int) = x32038.Init))) rfl rfl ?_)
      rcases ite_some ht44536 with ⟨hc44538, ht44536⟩ | ⟨hc44538, ht44536⟩
      · refine WL_run rfl (yield_of rfl (congrArg Value.bool hc44538)) rfl (Exec.move (v := v44042) rfl p44513 ?_)
        refine WL_run rfl (yield_of rfl (congrArg Value.bool hc44538)) rfl (Exec.move (v := Value.int .i64 ((i44081 : Int))) rfl rfl ?_)
        obtain ⟨x44539, q44540, ht44536⟩ := bind_some ht44536
        refine WL_run rfl (yield_of rfl (congrArg Value.bool hc44538)) rfl (Exec.index_rep S22 rfl rfl rfl (r44043.mono (PHeap.le.trans l44049 l44509)) q44540 ?_)
        intro b44541 o44542 a44543
        refine WL_run rfl (yield_of rfl (congrArg Value.bool hc44538)) rfl (Exec.load_at (E := (encInt .i64)) hS44510 A3 rfl rfl rfl a44543 ?_)
        intro v44544 q44545
        obtain rfl := encInt_val.1 q44545
        refine WL_run rfl (yield_of rfl (congrArg Value.bool hc44538)) rfl (Exec.eql rfl rfl rfl ?_)
        refine WL_run rfl (yield_of rfl (congrArg Value.bool hc44538)) rfl (Exec.move (v := Value.bool (decide (x44539 = 1125899906842624))) rfl rfl ?_)
        rcases ite_some ht44536 with ⟨hc44546, ht44536⟩ | ⟨hc44546, ht44536⟩
        · refine WL_pass rfl (yield_of rfl (congrArg Value.bool hc44546)) rfl rfl ?_
          refine WL_pass rfl (yield_of rfl (congrArg Value.bool hc44546)) rfl rfl ?_
          refine WL_pass rfl (yield_of rfl (congrArg Value.bool hc44546)) rfl rfl ?_
          refine WL_pass rfl (yield_of rfl (congrArg Value.bool hc44546)) rfl rfl ?_
          refine WL_pass rfl (yield_of rfl (congrArg Value.bool hc44546)) rfl rfl ?_
          refine WL_run rfl (yield_of rfl (congrArg Value.bool hc44538)) rfl (Exec.pick_t (v := Value.bool (true)) rfl (congrArg Value.bool hc44546) rfl ?_)
          refine WL_step rfl rfl (Exec.pick_t (v := Value.bool (true)) rfl (congrArg Value.bool hc44538) rfl ?_)
          refine WL_nil (at_normal ?_)
          have e44547 := Option.some.inj ht44536
          subst z44535
          have hS44548 := (hS44510).f5
          have hS44549 := (hS44548).f5
          have hS44550 := (hS44549).f5
          have hS44551 := (hS44550).f5
          have hS44552 := (hS44551).f5
          have hS44553 := (hS44552).f5
          exact ⟨s44508, (PHeap.le_refl _), hS44553, p44511, p44512, p44513, p44514, p44515, p44516, rfl, p44517, x44518, rfl⟩
        · replace hc44546 := not_true hc44546
          refine WL_run rfl (yield_of rfl (congrArg Value.bool hc44546)) rfl (Exec.move (v := v44051) rfl p44514 ?_)
          refine WL_run rfl (yield_of rfl (congrArg Value.bool hc44546)) rfl (Exec.move (v := Value.int .i64 ((i44081 : Int))) rfl rfl ?_)
          obtain ⟨x44554, q44555, ht44536⟩ := bind_some ht44536
          refine WL_run rfl (yield_of rfl (congrArg Value.bool hc44546)) rfl (Exec.index_rep S22 rfl rfl rfl (r44052.mono l44509) q44555 ?_)
          intro b44556 o44557 a44558
          refine WL_run rfl (yield_of rfl (congrArg Value.bool hc44546)) rfl (Exec.load_at (E := (encInt .i64)) hS44510 A3 rfl rfl rfl a44558 ?_)
          intro v44559 q44560
          obtain rfl := encInt_val.1 q44560
          refine WL_run rfl (yield_of rfl (congrArg Value.bool hc44546)) rfl (Exec.eql rfl rfl rfl ?_)
          refine WL_run rfl (yield_of rfl (congrArg Value.bool hc44538)) rfl (Exec.pick_f (v := Value.bool (decide (x44554 = 1125899906842624))) rfl (congrArg Value.bool hc44546) rfl ?_)
          refine WL_step rfl rfl (Exec.pick_t (v := Value.bool (decide (x44554 = 1125899906842624))) rfl (congrArg Value.bool hc44538) rfl ?_)
          refine WL_nil (at_normal ?_)
          have e44561 := Option.some.inj ht44536
          subst z44535
          have hS44562 := (hS44510).f5
          have hS44563 := (hS44562).f5
          have hS44564 := (hS44563).f5
          have hS44565 := (hS44564).f5
          have hS44566 := (hS44565).f5
          have hS44567 := (hS44566).f5
          exact ⟨s44508, (PHeap.le_refl _), hS44567, p44511, p44512, p44513, p44514, p44515, p44516, rfl, p44517, x44518, rfl⟩
      · replace hc44538 := not_true hc44538
        refine WL_pass rfl (yield_of rfl (congrArg Value.bool hc44538)) rfl rfl ?_
        refine WL_pass rfl (yield_of rfl (congrArg Value.bool hc44538)) rfl rfl ?_
        refine WL_pass rfl (yield_of rfl (congrArg Value.bool hc44538)) rfl rfl ?_
        refine WL_pass rfl (yield_of rfl (congrArg Value.bool hc44538)) rfl rfl ?_
        refine WL_pass rfl (yield_of rfl (congrArg Value.bool hc44538)) rfl rfl ?_
        refine WL_pass rfl (yield_of rfl (congrArg Value.bool hc44538)) rfl rfl ?_
        refine WL_pass_none rfl (yield_undef rfl rfl) rfl ?_
        refine WL_pass_none rfl (yield_undef rfl rfl) rfl ?_
        refine WL_pass_none rfl (yield_undef rfl rfl) rfl ?_
        refine WL_pass_none rfl (yield_undef rfl rfl) rfl ?_
        refine WL_pass_none rfl (yield_undef rfl rfl) rfl ?_
        refine WL_pass rfl (yield_of rfl (congrArg Value.bool hc44538)) rfl rfl ?_
        refine WL_step rfl rfl (Exec.pick_f (v := Value.bool (false)) rfl (congrArg Value.bool hc44538) rfl ?_)
        refine WL_nil (at_normal ?_)
        have e44568 := Option.some.inj ht44536
        subst z44535
        have hS44569 := (hS44510).f5
        have hS44570 := (hS44569).f5
        have hS44571 := (hS44570).f5
        have hS44572 := (hS44571).f5
        have hS44573 := (hS44572).f5
        have hS44574 := (hS44573).f5
        exact ⟨s44508, (PHeap.le_refl _), hS44574, p44511, p44512, p44513, p44514, p44515, p44516, rfl, p44517, x44518, rfl⟩
    · intro f44575 w44576 hM44577
      obtain ⟨s44578, l44579, hS44580, p44581, p44582, p44583, p44584, p44585, p44586, p44587, p44588, p44589, p44590⟩ := hM44577
      refine (at_normal ?_)
      rcases ite_some hm44506 with ⟨hc44591, hm44506⟩ | ⟨hc44591, hm44506⟩
      · refine W_cond_t p44590 hc44591 ?_
        refine W_seq ?_
        refine W_region ?_
        refine WL_step rfl rfl (Exec.move (v := v44287) rfl p44586 ?_)
        refine WL_step rfl rfl (Exec.buildSlice (Te := 3) (cs := [Value.int .i64 ((-1))]) hS44580 rfl (parts_cons (c := [Value.int .i64 ((-1))]) (cells_of rfl rfl) parts_nil) (fun _ => by kernel_rfl) ?_)
        intro b44601 w44602 hS44603
        obtain ⟨l44604, q44605, hm44506⟩ := bind_some hm44506
        have hS44606 := (hS44603).f4
        refine WL_step rfl rfl (Exec.append_box (E := (encInt .i64)) (ys := [(-1)]) hS44606 S22 Z3 rfl (by decide) rfl rfl rfl rfl ⟨[Value.int .i64 ((-1))], [], rfl, rfl, rfl⟩ rfl q44605 ?_)
        intro v44607 w44608 hS44609
        refine WL_step rfl rfl (Exec.assign (v := v44607) rfl rfl ?_)
        refine WL_nil (at_normal ?_)
        refine W_exit (at_exit (ib_here (at_normal ?_)))
        refine W_region ?_
        refine WL_step rfl rfl (Exec.add rfl p44589 rfl ?_)
        refine WL_step rfl rfl (Exec.move (v := Value.int .i64 (IntKind.i64.wrap ((i44081 : Int) + 1))) rfl rfl ?_)
        refine WL_nil (at_normal ?_)
        have e44610 := Option.some.inj hm44506
        subst s44501
        have hS44611 := (hS44609).f5
        have hS44612 := (hS44611).f5
        have hS44613 := (hS44612).f2
        have hS44614 := (hS44613).f5
        have hS44615 := (hS44614).f5
        have hS44616 := (hS44615).f5
        exact ⟨s44578, v44607, v44290, (PHeap.le.trans l44509 l44579), hS44616, p44581, p44582, p44583, p44584, p44585, rfl, p44588, (Eq.trans rfl (wrap_up hi44504 (SliceRep.le (r44043.mono l44049))))⟩
      · refine W_cond_f p44590 hc44591 ?_
        replace hc44591 := not_true hc44591
        refine W_skip (at_normal ?_)
        refine W_seq ?_
        refine W_region ?_
        refine WL_step rfl rfl (Exec.move (v := v44287) rfl p44586 ?_)
        refine WL_step rfl rfl (Exec.field F26_0 rfl p44585 rfl ?_)
        refine WL_step rfl rfl (Exec.load_box ((hS44580).f2) A3 rfl rfl rfl ?_)
        refine WL_step rfl rfl (Exec.buildSlice (Te := 3) (cs := [Value.int .i64 (z44288)]) hS44580 rfl (parts_cons (c := [Value.int .i64 (z44288)]) (cells_of rfl rfl) parts_nil) (fun _ => by kernel_rfl) ?_)
        intro b44626 w44627 hS44628
        obtain ⟨l44629, q44630, hm44506⟩ := bind_some hm44506
        have hS44631 := (hS44628).f4
        refine WL_step rfl rfl (Exec.append_box (E := (encInt .i64)) (ys := [z44288]) hS44631 S22 Z3 rfl (by decide) rfl rfl rfl rfl ⟨[Value.int .i64 (z44288)], [], rfl, rfl, rfl⟩ rfl q44630 ?_)
        intro v44632 w44633 hS44634
        refine WL_step rfl rfl (Exec.assign (v := v44632) rfl rfl ?_)
        refine WL_nil (at_normal ?_)
        refine W_seq ?_
        refine W_region ?_
        refine WL_step rfl rfl (Exec.field F26_0 rfl p44585 rfl ?_)
        refine WL_step rfl rfl (Exec.load_box ((hS44634).f3) A3 rfl rfl rfl ?_)
        refine WL_step rfl rfl (Exec.add rfl rfl rfl ?_)
        refine WL_step rfl rfl (Exec.field F26_0 rfl p44585 rfl ?_)
        have hS44638 := (hS44634).f3
        refine WL_step rfl rfl (Exec.store_box (ds := [Value.int .i64 (IntKind.i64.wrap (z44288 + 1))]) (es := [Value.int .i64 (IntKind.i64.wrap (z44288 + 1)), Value.int .i64 (0), v44073, Value.slice none 0 0, v44290]) hS44638 A3 rfl rfl rfl rfl (one_cons rfl one_nil) (Nat.le_of_ble_eq_true rfl) rfl ?_)
        intro w44639 hS44640
        refine WL_nil (at_normal ?_)
        refine W_dl (n0 := 9) (.q 0 (.q 1 (.q 2 (.q 3 (.q 4 (.q 5 (.q 6 (.e 7 [0, 1] (.e 8 [] .done))))))))) hmix (by kernel_rfl) (by kernel_rfl) ?_
        have hS44698 := hS44640.drew
        refine DL_q rfl rfl (Exec.field F26_4 rfl p44585 rfl ⟨rfl, ?_⟩)
        refine DL_q rfl rfl (Exec.load_box (hS44698) A24 rfl rfl rfl ⟨rfl, ?_⟩)
        refine DL_q rfl rfl (Exec.field F26_4 rfl p44581 rfl ⟨rfl, ?_⟩)
        refine DL_q rfl rfl (Exec.load_box ((hS44698).f2) A24 rfl rfl rfl ⟨rfl, ?_⟩)
        refine DL_q rfl rfl (Exec.move (v := Value.int .i64 ((i44081 : Int))) rfl p44587 ⟨rfl, ?_⟩)
        obtain ⟨x44699, q44700, hm44506⟩ := bind_some hm44506
        refine DL_q rfl rfl (Exec.index_repE S24 rfl rfl rfl (a32044.mono (PHeap.le.trans (PHeap.le.trans (PHeap.le.trans l44040 l44049) l44509) l44579)) q44700 ?_)
        intro b44701 o44702 a44703 e44704
        refine ⟨rfl, ?_⟩
        refine DL_q rfl rfl (Exec.load_at (E := encBool) hS44698 A4 rfl rfl rfl a44703 ?_)
        intro v44705 q44706
        obtain rfl := encBool_val.1 q44706
        refine ⟨rfl, ?_⟩
        refine DL_e rfl rfl (Exec.buildSlice (Te := 4) (cs := [Value.bool (x44699)]) hS44698 rfl (parts_cons (c := [Value.bool (x44699)]) (cells_of rfl rfl) parts_nil) (fun _ => by kernel_rfl) ?_)
        intro b44707 w44708 hS44709
        refine ⟨(ag_cons (ag_r rfl rfl (Exec.field F26_4 rfl p44585 rfl ⟨rfl, rfl⟩)) (ag_cons (ag_r rfl rfl (Exec.load_box ((hS44709).f1) A24 rfl rfl rfl ⟨rfl, rfl⟩)) ag_nil)), ?_⟩
        obtain ⟨l44710, q44711, hm44506⟩ := bind_some hm44506
        have hS44712 := (hS44709).f6
        refine DL_e rfl rfl (Exec.append_box (E := encBool) (ys := [x44699]) hS44712 S24 Z4 rfl (by decide) rfl rfl rfl rfl ⟨[Value.bool (x44699)], [], rfl, rfl, rfl⟩ rfl q44711 ?_)
        intro v44713 w44714 hS44715
        refine ⟨ag_nil, ?_⟩
        refine DL_done ?_
        refine WL_step rfl rfl (Exec.field F26_4 rfl p44585 rfl ?_)
        have hS44716 := (hS44715).f1
        refine WL_step rfl rfl (Exec.store_box (ds := [v44713]) (es := [Value.int .i64 (IntKind.i64.wrap (z44288 + 1)), Value.int .i64 (0), v44073, Value.slice none 0 0, v44713]) hS44716 A24 rfl rfl rfl (cells_one ((hS44716).f1).arr_one) (one_cons ((hS44716).f1).arr_one one_nil) (Nat.le_of_ble_eq_true rfl) rfl ?_)
        intro w44717 hS44718
        refine WL_nil (ib_normal (at_normal ?_))
        refine W_region ?_
        refine WL_step rfl rfl (Exec.add rfl p44589 rfl ?_)
        refine WL_step rfl rfl (Exec.move (v := Value.int .i64 (IntKind.i64.wrap ((i44081 : Int) + 1))) rfl rfl ?_)
        refine WL_nil (at_normal ?_)
        have e44719 := Option.some.inj hm44506
        subst s44501
        have hS44720 := (hS44718).f1
        have hS44721 := (hS44720).f5
        have hS44722 := (hS44721).f3
        have hS44723 := (hS44722).f3
        have hS44724 := (hS44723).f5
        have hS44725 := (hS44724).f5
        exact ⟨s44578, v44632, v44713, (PHeap.le.trans l44509 l44579), hS44725, p44581, p44582, p44583, p44584, p44585, rfl, p44588, (Eq.trans rfl (wrap_up hi44504 (SliceRep.le (r44043.mono l44049))))⟩
  · intro f44726 w44727 hI44728
    obtain ⟨to44286, z44288, z44289⟩ := t44490
    replace hm := un3_eq hm
    obtain ⟨s44729, v44287, v44290, l44730, hS44731, p44732, p44733, p44734, p44735, p44736, p44737, p44738, x44739⟩ := hI44728
    refine W_seq ?_
    refine W_region ?_
    refine WL_step rfl rfl (Exec.lss rfl x44739 p44738 ?_)
    refine WL_nil (at_normal ?_)
    refine W_seq ?_
    refine W_false (congrArg Value.bool (decide_eq_false (by omega))) ?_
    refine W_exit (at_exit (at_exit (ib_here (at_normal ?_))))
    refine W_seq ?_
    refine W_region ?_
    refine WL_step rfl rfl (Exec.move (v := v44287) rfl p44737 ?_)
    refine WL_step rfl rfl (Exec.field F26_1 rfl p44732 rfl ?_)
    refine WL_step rfl rfl (Exec.load_box (hS44731) A3 rfl rfl rfl ?_)
    obtain ⟨x44750, q44751, hm⟩ := bind_some hm
    obtain ⟨g44752, c44753, e44754⟩ := ((hS44731).f3).arr_at q44751
    refine WL_step rfl rfl (Exec.index_slice S22 rfl e44754 rfl (idx_some q44751).1 (idx_some q44751).2.1 ?_)
    refine WL_step rfl rfl (Exec.load_arr (F := (encInt .i64)) ((hS44731).f3) e44754 A3 rfl rfl rfl q44751 (Sub.refl _) ?_)
    intro v44755 q44756
    obtain rfl := encInt_val.1 q44756
    refine WL_step rfl rfl (Exec.field F26_1 rfl p44736 rfl ?_)
    have hS44757 := (hS44731).f2
    refine WL_step rfl rfl (Exec.store_box (ds := [Value.int .i64 (x44750)]) (es := [Value.int .i64 (z44288), Value.int .i64 (x44750), v44073, Value.slice none 0 0, v44290]) hS44757 A3 rfl rfl rfl rfl (one_cons rfl one_nil) (Nat.le_of_ble_eq_true rfl) rfl ?_)
    intro w44758 hS44759
    refine WL_nil (at_normal ?_)
    refine W_seq ?_
    refine W_seq ?_
    refine W_region ?_
    refine WL_step rfl rfl (Exec.field F26_3 rfl p44732 rfl ?_)
    refine WL_step rfl rfl (Exec.load_box ((hS44759).f1) A23 rfl rfl rfl ?_)
    refine WL_step rfl rfl (Exec.len_rep S23 rfl rfl (a32042.mono (PHeap.le.trans (PHeap.le.trans l44040 l44049) l44730)) ?_)
    refine WL_step rfl rfl (Exec.move (v := Value.int .i64 (0)) rfl rfl ?_)
    refine WL_nil (at_normal ?_)
    obtain ⟨z45101, hB45430, hm⟩ := bind_some hm
    refine W_block (W_forS (fun k' s' f' w' => (fun (z45101 : (List Edge)) => ∃ (s45431 : PHeap) (v45102 : Value), PHeap.le s44729 s45431 ∧ St w0 s45431 (Res.box b43974 26 [Value.int .i64 (0), Value.int .i64 (0), Value.slice none 0 0, Value.slice none 0 0, Value.slice none 0 0] :: Res.box b44076 26 [Value.int .i64 (z44288), Value.int .i64 (x44750), v44073, v45102, v44290] :: Res.arr (encInt .i64) 3 v44287 to44286 :: Res.arr (encInt .i64) 3 v44073 l44071 :: Res.arr encEdge 66 v45102 z45101 :: Res.arr encBool 4 v44290 z44289 :: H) w' ∧ f' 2 = Value.pointer (some ⟨b43974, 0, none⟩) ∧ f' 6 = Value.pointer (some ⟨b44076, 0, none⟩) ∧ f' 7 = v44287 ∧ f' 73 = v32041 ∧ f' 74 = Value.int .i64 ((x32038.Edges.length : Int)) ∧ f' 75 = Value.int .i64 (k' : Int)) s') hB45430 ?_ ?_ ?_)
    · have hS45432 := hS44759.nilArr encEdge 66
      have hS45433 := ((hS45432).f2).drop
      have hS45434 := (hS45433).f5
      have hS45435 := (hS45434).f1
      have hS45436 := (hS45435).f5
      have hS45437 := (hS45436).f5
      have hS45438 := (hS45437).f4
      have hS45439 := (hS45438).f5
      exact ⟨s44729, (Value.slice none 0 0), (PHeap.le_refl _), hS45439, p44733, p44736, p44737, rfl, rfl, rfl⟩
    · intro i44760 z45101 s45441 f45442 w45443 hi45444 hI45445 hm45446
      obtain ⟨s45447, v45102, l45448, hS45449, p45450, p45451, p45452, p45453, p45454, x45455⟩ := hI45445
      refine W_seq ?_
      refine W_region ?_
      refine WL_step rfl rfl (Exec.lss rfl x45455 p45454 ?_)
      refine WL_nil (at_normal ?_)
      refine W_seq ?_
      refine W_true (congrArg Value.bool (decide_eq_true (by omega))) ?_
      refine W_skip (at_normal ?_)
      refine W_seq ?_
      refine W_block ?_
      refine W_seq ?_
      refine W_region ?_
      obtain ⟨x45468, q45469, hm45446⟩ := bind_some hm45446
      refine WL_step rfl rfl (Exec.index_rep S23 rfl p45453 x45455 (a32042.mono (PHeap.le.trans (PHeap.le.trans (PHeap.le.trans l44040 l44049) l44730) l45448)) q45469 ?_)
      intro b45470 o45471 a45472
      refine WL_step rfl rfl (Exec.load_at (E := encEdge) hS45449 A66 rfl rfl rfl a45472 ?_)
      intro v45473 q45474
      obtain rfl := encEdge_val.1 q45474
      refine WL_step rfl rfl (Exec.alloc (cs := [Value.int .i64 (0), Value.int .i64 (0), Value.int .i64 (0)]) hS45449 Z66 rfl rfl ?_)
      intro b45475 w45476 hS45477
      refine WL_step rfl rfl (Exec.store_box (ds := [Value.int .i64 (x45468.From), Value.int .i64 (x45468.Label), Value.int .i64 (x45468.To)]) (es := [Value.int .i64 (x45468.From), Value.int .i64 (x45468.Label), Value.int .i64 (x45468.To)]) hS45477 A66 rfl rfl rfl rfl (one_cons rfl (one_cons rfl (one_cons rfl one_nil))) (Nat.le_of_ble_eq_true rfl) rfl ?_)
      intro w45478 hS45479
      refine WL_nil (at_normal ?_)
      refine W_seq ?_
      obtain ⟨z45495, ht45496, hm45446⟩ := bind_some hm45446
      refine W_mid (M := fun f' w' => (fun (z45495 : Bool) => ∃ (s45497 : PHeap) , PHeap.le s45447 s45497 ∧ St w0 s45497 (Res.box b43974 26 [Value.int .i64 (0), Value.int .i64 (0), Value.slice none 0 0, Value.slice none 0 0, Value.slice none 0 0] :: Res.box b44076 26 [Value.int .i64 (z44288), Value.int .i64 (x44750), v44073, v45102, v44290] :: Res.arr (encInt .i64) 3 v44287 to44286 :: Res.box b45475 66 [Value.int .i64 (x45468.From), Value.int .i64 (x45468.Label), Value.int .i64 (x45468.To)] :: Res.arr (encInt .i64) 3 v44073 l44071 :: Res.arr encEdge 66 v45102 z45101 :: Res.arr encBool 4 v44290 z44289 :: H) w' ∧ f' 2 = Value.pointer (some ⟨b43974, 0, none⟩) ∧ f' 6 = Value.pointer (some ⟨b44076, 0, none⟩) ∧ f' 7 = v44287 ∧ f' 10 = Value.pointer (some ⟨b45475, 0, none⟩) ∧ f' 73 = v32041 ∧ f' 74 = Value.int .i64 ((x32038.Edges.length : Int)) ∧ f' 75 = Value.int .i64 ((i44760 : Int)) ∧ f' 92 = Value.bool (z45495)) z45495) ?_ ?_
      · refine W_region ?_
        refine WL_step rfl rfl (Exec.move (v := v44287) rfl p45452 ?_)
        refine WL_step rfl rfl (Exec.field F66_0 rfl rfl rfl ?_)
        refine WL_step rfl rfl (Exec.load_box (hS45479) A3 rfl rfl rfl ?_)
        obtain ⟨x45498, q45499, ht45496⟩ := bind_some ht45496
        obtain ⟨g45500, c45501, e45502⟩ := ((hS45479).f3).arr_at q45499
        refine WL_step rfl rfl (Exec.index_slice S22 rfl e45502 rfl (idx_some q45499).1 (idx_some q45499).2.1 ?_)
        refine WL_step rfl rfl (Exec.load_arr (F := (encInt .i64)) ((hS45479).f3) e45502 A3 rfl rfl rfl q45499 (Sub.refl _) ?_)
        intro v45503 q45504
        obtain rfl := encInt_val.1 q45504
        refine WL_step rfl rfl (Exec.geq rfl rfl rfl ?_)
        refine WL_step rfl rfl (Exec.move (v := Value.bool (decide (0 ≤ x45498))) rfl rfl ?_)
        rcases ite_some ht45496 with ⟨hc45505, ht45496⟩ | ⟨hc45505, ht45496⟩
        · refine WL_run rfl (yield_of rfl (congrArg Value.bool hc45505)) rfl (Exec.move (v := v44287) rfl p45452 ?_)
          refine WL_run rfl (yield_of rfl (congrArg Value.bool hc45505)) rfl (Exec.field F66_2 rfl rfl rfl ?_)
          refine WL_run rfl (yield_of rfl (congrArg Value.bool hc45505)) rfl (Exec.load_box (hS45479) A3 rfl rfl rfl ?_)
          obtain ⟨x45506, q45507, ht45496⟩ := bind_some ht45496
          obtain ⟨g45508, c45509, e45510⟩ := ((hS45479).f3).arr_at q45507
          refine WL_run rfl (yield_of rfl (congrArg Value.bool hc45505)) rfl (Exec.index_slice S22 rfl e45510 rfl (idx_some q45507).1 (idx_some q45507).2.1 ?_)
          refine WL_run rfl (yield_of rfl (congrArg Value.bool hc45505)) rfl (Exec.load_arr (F := (encInt .i64)) ((hS45479).f3) e45510 A3 rfl rfl rfl q45507 (Sub.refl _) ?_)
          intro v45511 q45512
          obtain rfl := encInt_val.1 q45512
          refine WL_run rfl (yield_of rfl (congrArg Value.bool hc45505)) rfl (Exec.geq rfl rfl rfl ?_)
          refine WL_step rfl rfl (Exec.pick_t (v := Value.bool (decide (0 ≤ x45506))) rfl (congrArg Value.bool hc45505) rfl ?_)
          refine WL_nil (at_normal ?_)
          have e45513 := Option.some.inj ht45496
          subst z45495
          have hS45514 := (hS45479).f6
          have hS45515 := (hS45514).f6
          have hS45516 := (hS45515).f6
          have hS45517 := (hS45516).f3
          have hS45518 := (hS45517).f6
          have hS45519 := (hS45518).f6
          have hS45520 := (hS45519).f6
          exact ⟨s45447, (PHeap.le_refl _), hS45520, p45450, p45451, p45452, rfl, p45453, p45454, x45455, rfl⟩
        · replace hc45505 := not_true hc45505
          refine WL_pass rfl (yield_of rfl (congrArg Value.bool hc45505)) rfl rfl ?_
          refine WL_pass rfl (yield_of rfl (congrArg Value.bool hc45505)) rfl rfl ?_
          refine WL_pass rfl (yield_of rfl (congrArg Value.bool hc45505)) rfl rfl ?_
          refine WL_pass rfl (yield_of rfl (congrArg Value.bool hc45505)) rfl rfl ?_
          refine WL_pass rfl (yield_of rfl (congrArg Value.bool hc45505)) rfl rfl ?_
          refine WL_pass rfl (yield_of rfl (congrArg Value.bool hc45505)) rfl rfl ?_
          refine WL_step rfl rfl (Exec.pick_f (v := Value.bool (false)) rfl (congrArg Value.bool hc45505) rfl ?_)
          refine WL_nil (at_normal ?_)
          have e45521 := Option.some.inj ht45496
          subst z45495
          have hS45522 := (hS45479).f6
          have hS45523 := (hS45522).f6
          have hS45524 := (hS45523).f6
          have hS45525 := (hS45524).f3
          have hS45526 := (hS45525).f6
          have hS45527 := (hS45526).f6
          have hS45528 := (hS45527).f6
          exact ⟨s45447, (PHeap.le_refl _), hS45528, p45450, p45451, p45452, rfl, p45453, p45454, x45455, rfl⟩
      · intro f45529 w45530 hM45531
        obtain ⟨s45532, l45533, hS45534, p45535, p45536, p45537, p45538, p45539, p45540, p45541, p45542⟩ := hM45531
        refine (at_normal ?_)
        obtain ⟨l45645, ht45647, hm45446⟩ := bind_some hm45446
        refine W_mid (M := fun f' w' => (fun (l45645 : (List Edge)) => ∃ (s45648 : PHeap) (v45646 : Value), PHeap.le s45532 s45648 ∧ St w0 s45648 (Res.box b43974 26 [Value.int .i64 (0), Value.int .i64 (0), Value.slice none 0 0, Value.slice none 0 0, Value.slice none 0 0] :: Res.box b44076 26 [Value.int .i64 (z44288), Value.int .i64 (x44750), v44073, v45646, v44290] :: Res.arr (encInt .i64) 3 v44287 to44286 :: Res.arr (encInt .i64) 3 v44073 l44071 :: Res.arr encEdge 66 v45646 l45645 :: Res.arr encBool 4 v44290 z44289 :: H) w' ∧ f' 2 = Value.pointer (some ⟨b43974, 0, none⟩) ∧ f' 6 = Value.pointer (some ⟨b44076, 0, none⟩) ∧ f' 7 = v44287 ∧ f' 73 = v32041 ∧ f' 74 = Value.int .i64 ((x32038.Edges.length : Int)) ∧ f' 75 = Value.int .i64 ((i44760 : Int))) l45645) ?_ ?_
        · rcases ite_some ht45647 with ⟨hc45649, ht45647⟩ | ⟨hc45649, ht45647⟩
          · refine W_cond_t p45542 hc45649 ?_
            refine W_dl (n0 := 17) (.q 0 (.q 1 (.q 2 (.q 3 (.q 4 (.q 5 (.q 6 (.q 7 (.q 8 (.q 9 (.q 10 (.q 11 (.q 12 (.q 13 (.q 14 (.e 15 [0, 1] (.e 16 [] .done))))))))))))))))) hmix (by kernel_rfl) (by kernel_rfl) ?_
            have hS45725 := hS45534.drew
            refine DL_q rfl rfl (Exec.field F26_3 rfl p45536 rfl ⟨rfl, ?_⟩)
            refine DL_q rfl rfl (Exec.load_box ((hS45725).f1) A23 rfl rfl rfl ⟨rfl, ?_⟩)
            refine DL_q rfl rfl (Exec.move (v := v44287) rfl p45537 ⟨rfl, ?_⟩)
            refine DL_q rfl rfl (Exec.field F66_0 rfl p45538 rfl ⟨rfl, ?_⟩)
            refine DL_q rfl rfl (Exec.load_box ((hS45725).f3) A3 rfl rfl rfl ⟨rfl, ?_⟩)
            obtain ⟨x45726, q45727, ht45647⟩ := bind_some ht45647
            obtain ⟨g45728, c45729, e45730⟩ := ((hS45725).f2).arr_at q45727
            refine DL_q rfl rfl (Exec.index_slice S22 rfl e45730 rfl (idx_some q45727).1 (idx_some q45727).2.1 ⟨rfl, ?_⟩)
            refine DL_q rfl rfl (Exec.load_arr (F := (encInt .i64)) ((hS45725).f2) e45730 A3 rfl rfl rfl q45727 (Sub.refl _) ?_)
            intro v45731 q45732
            obtain rfl := encInt_val.1 q45732
            refine ⟨rfl, ?_⟩
            refine DL_q rfl rfl (Exec.field F66_1 rfl p45538 rfl ⟨rfl, ?_⟩)
            refine DL_q rfl rfl (Exec.load_box ((hS45725).f3) A3 rfl rfl rfl ⟨rfl, ?_⟩)
            refine DL_q rfl rfl (Exec.move (v := v44287) rfl p45537 ⟨rfl, ?_⟩)
            refine DL_q rfl rfl (Exec.field F66_2 rfl p45538 rfl ⟨rfl, ?_⟩)
            refine DL_q rfl rfl (Exec.load_box ((hS45725).f3) A3 rfl rfl rfl ⟨rfl, ?_⟩)
            obtain ⟨x45733, q45734, ht45647⟩ := bind_some ht45647
            obtain ⟨g45735, c45736, e45737⟩ := ((hS45725).f2).arr_at q45734
            refine DL_q rfl rfl (Exec.index_slice S22 rfl e45737 rfl (idx_some q45734).1 (idx_some q45734).2.1 ⟨rfl, ?_⟩)
            refine DL_q rfl rfl (Exec.load_arr (F := (encInt .i64)) ((hS45725).f2) e45737 A3 rfl rfl rfl q45734 (Sub.refl _) ?_)
            intro v45738 q45739
            obtain rfl := encInt_val.1 q45739
            refine ⟨rfl, ?_⟩
            refine DL_q rfl rfl (Exec.build rfl (parts_cons (c := [Value.int .i64 (x45726)]) (cells_of rfl rfl) (parts_cons (c := [Value.int .i64 (x45468.Label)]) (cells_of rfl rfl) (parts_cons (c := [Value.int .i64 (x45733)]) (cells_of rfl rfl) parts_nil))) (v := Value.agg #[Value.int .i64 (x45726), Value.int .i64 (x45468.Label), Value.int .i64 (x45733)]) (fun _ => by kernel_rfl) ⟨rfl, ?_⟩)
            refine DL_e rfl rfl (Exec.buildSlice (Te := 66) (cs := [Value.int .i64 (x45726), Value.int .i64 (x45468.Label), Value.int .i64 (x45733)]) hS45725 rfl (parts_cons (c := [Value.int .i64 (x45726), Value.int .i64 (x45468.Label), Value.int .i64 (x45733)]) (cells_of rfl rfl) parts_nil) (fun _ => by kernel_rfl) ?_)
            intro b45740 w45741 hS45742
            refine ⟨(ag_cons (ag_r rfl rfl (Exec.field F26_3 rfl p45536 rfl ⟨rfl, rfl⟩)) (ag_cons (ag_r rfl rfl (Exec.load_box ((hS45742).f2) A23 rfl rfl rfl ⟨rfl, rfl⟩)) ag_nil)), ?_⟩
            obtain ⟨l45743, q45744, ht45647⟩ := bind_some ht45647
            have hS45745 := (hS45742).f6
            refine DL_e rfl rfl (Exec.append_box (E := encEdge) (ys := [(⟨x45726, x45468.Label, x45733⟩ : Edge)]) hS45745 S23 Z66 rfl (by decide) rfl rfl rfl rfl ⟨[Value.int .i64 (x45726), Value.int .i64 (x45468.Label), Value.int .i64 (x45733)], [], rfl, ⟨[Value.int .i64 (x45726)], [Value.int .i64 (x45468.Label), Value.int .i64 (x45733)], rfl, rfl, ⟨[Value.int .i64 (x45468.Label)], [Value.int .i64 (x45733)], rfl, rfl, rfl⟩⟩, rfl⟩ rfl q45744 ?_)
            intro v45746 w45747 hS45748
            refine ⟨ag_nil, ?_⟩
            refine DL_done ?_
            refine WL_step rfl rfl (Exec.field F26_3 rfl p45536 rfl ?_)
            have hS45749 := (hS45748).f2
            refine WL_step rfl rfl (Exec.store_box (ds := [v45746]) (es := [Value.int .i64 (z44288), Value.int .i64 (x44750), v44073, v45746, v44290]) hS45749 A23 rfl rfl rfl (cells_one ((hS45749).f1).arr_one) (one_cons ((hS45749).f1).arr_one one_nil) (Nat.le_of_ble_eq_true rfl) rfl ?_)
            intro w45750 hS45751
            refine WL_nil (at_normal ?_)
            have e45752 := Option.some.inj ht45647
            subst l45645
            have hS45753 := ((hS45751).f4).drop
            have hS45754 := (hS45753).f5
            have hS45755 := (hS45754).f2
            have hS45756 := (hS45755).f5
            have hS45757 := (hS45756).f5
            have hS45758 := (hS45757).f4
            have hS45759 := (hS45758).f5
            exact ⟨s45532, v45746, (PHeap.le_refl _), hS45759, p45535, p45536, p45537, p45539, p45540, p45541⟩
          · refine W_cond_f p45542 hc45649 ?_
            replace hc45649 := not_true hc45649
            refine W_skip (at_normal ?_)
            have e45760 := Option.some.inj ht45647
            subst l45645
            have hS45761 := ((hS45534).f3).drop
            have hS45762 := (hS45761).f5
            have hS45763 := (hS45762).f5
            have hS45764 := (hS45763).f5
            have hS45765 := (hS45764).f5
            have hS45766 := (hS45765).f5
            have hS45767 := (hS45766).f5
            exact ⟨s45532, v45102, (PHeap.le_refl _), hS45767, p45535, p45536, p45537, p45539, p45540, p45541⟩
        · intro f45768 w45769 hM45770
          obtain ⟨s45771, v45646, l45772, hS45773, p45774, p45775, p45776, p45777, p45778, p45779⟩ := hM45770
          refine (ib_normal (at_normal ?_))
          refine W_region ?_
          refine WL_step rfl rfl (Exec.add rfl p45779 rfl ?_)
          refine WL_step rfl rfl (Exec.move (v := Value.int .i64 (IntKind.i64.wrap ((i44760 : Int) + 1))) rfl rfl ?_)
          refine WL_nil (at_normal ?_)
          have e45780 := Option.some.inj hm45446
          subst s45441
          have hS45781 := (hS45773).f5
          have hS45782 := (hS45781).f5
          have hS45783 := (hS45782).f5
          have hS45784 := (hS45783).f5
          have hS45785 := (hS45784).f5
          have hS45786 := (hS45785).f5
          exact ⟨s45771, v45646, (PHeap.le.trans (PHeap.le.trans l45448 l45533) l45772), hS45786, p45774, p45775, p45776, p45777, p45778, (Eq.trans rfl (wrap_up hi45444 (SliceRep.le (a32042.mono (PHeap.le.trans (PHeap.le.trans l44040 l44049) l44730)))))⟩
    · intro f45787 w45788 hI45789
      obtain ⟨s45790, v45102, l45791, hS45792, p45793, p45794, p45795, p45796, p45797, x45798⟩ := hI45789
      refine W_seq ?_
      refine W_region ?_
      refine WL_step rfl rfl (Exec.lss rfl x45798 p45797 ?_)
      refine WL_nil (at_normal ?_)
      refine W_seq ?_
      refine W_false (congrArg Value.bool (decide_eq_false (by omega))) ?_
      refine W_exit (at_exit (at_exit (ib_here (at_normal ?_))))
      refine W_seq ?_
      refine W_region ?_
      refine WL_step rfl rfl (Exec.load_box_agg (ds := [Value.int .i64 (z44288), Value.int .i64 (x44750), v44073, v45102, v44290]) ((hS45792).f1) A26 rfl p45794 rfl ?_)
      refine WL_step rfl rfl (Exec.move (v := v44287) rfl p45795 ?_)
      refine WL_step rfl rfl (Exec.store_box (ds := [Value.int .i64 (z44288), Value.int .i64 (x44750), v44073, v45102, v44290]) (es := [Value.int .i64 (z44288), Value.int .i64 (x44750), v44073, v45102, v44290]) hS45792 A26 rfl p45793 rfl rfl (one_cons rfl (one_cons rfl (one_cons ((hS45792).f3).arr_one (one_cons ((hS45792).f4).arr_one (one_cons ((hS45792).f5).arr_one one_nil))))) (Nat.le_of_ble_eq_true rfl) rfl ?_)
      intro w45801 hS45802
      refine WL_step rfl rfl (Exec.assign (v := v44287) rfl rfl ?_)
      refine WL_nil (at_normal ?_)
      refine W_ret ?_
      have e45804 := Option.some.inj hm
      subst r
      refine ⟨_, retG2 rfl ⟨_, _, p45793, cellRes (hS45802) A26⟩ rfl, ?_⟩
      have hS45805 := (hS45802).f2
      obtain ⟨s45806, l45807, hS45808, r45809⟩ := hS45805.freezeArr
      have hS45810 := (hS45808).f2
      obtain ⟨s45811, l45812, hS45813, r45814⟩ := hS45810.freezeArr
      have hS45815 := (hS45813).f2
      obtain ⟨s45816, l45817, hS45818, r45819⟩ := hS45815.freezeArr
      have hS45820 := (hS45818).f2
      obtain ⟨s45821, l45822, hS45823, r45824⟩ := hS45820.freezeArr
      have hS45825 := (hS45823).drop
      have hS45826 := (hS45825).drop
      exact ⟨s45821, v44287, v44073, v45102, v44290, (PHeap.le.trans (PHeap.le.trans (PHeap.le.trans (PHeap.le.trans (PHeap.le.trans (PHeap.le.trans (PHeap.le.trans l44040 l44049) l44730) l45791) l45807) l45812) l45817) l45822), hS45826, (tup2 rfl rfl), (r45809.mono (PHeap.le.trans (PHeap.le.trans l45812 l45817) l45822)), (r45814.mono (PHeap.le.trans l45817 l45822)), (r45819.mono l45822), r45824⟩

theorem IS66 : intStruct Try.prog 66 3 = true := by kernel_rfl

theorem N14 : (Try.f14.name == "runtime.NumGoroutine") = false := by kernel_rfl

theorem ref44_Same_sim {w0 w : World} {s : PHeap} {H : List Res} {a45870 : System} {b45877 : System} {v45871 : Value} {v45873 : Value} {v45875 : Value} {v45878 : Value} {v45880 : Value} {v45882 : Value} {r : Bool} (hm : ref44_Same_p a45870 b45877 = some r) (hS : St w0 s (H) w) (a45872 : SliceRep (encInt .i64) s v45871 a45870.Costs) (a45874 : SliceRep encEdge s v45873 a45870.Edges) (a45876 : SliceRep encBool s v45875 a45870.Goals) (a45879 : SliceRep (encInt .i64) s v45878 b45877.Costs) (a45881 : SliceRep encEdge s v45880 b45877.Edges) (a45883 : SliceRep encBool s v45882 b45877.Goals) :
    Calls Try.prog 14 #[Value.agg #[Value.int .i64 (a45870.States), Value.int .i64 (a45870.Init), v45871, v45873, v45875], Value.agg #[Value.int .i64 (b45877.States), Value.int .i64 (b45877.Init), v45878, v45880, v45882]] w fun e w' => ∃ v, e = .returned v ∧ ((fun (y46468 : Bool) => ∃ (s46469 : PHeap) , PHeap.le s s46469 ∧ St w0 s46469 (H) w' ∧ v = Value.bool (y46468)) r) := by
  unfold ref44_Same_p at hm
  refine calls_of_W Try.func14 rfl rfl ?_
  refine W_seq ?_
  refine W_region ?_
  refine WL_step rfl rfl (Exec.box (cs := [Value.int .i64 (a45870.States), Value.int .i64 (a45870.Init), v45871, v45873, v45875]) hS rfl rfl rfl ?_)
  intro b46476 w46477 hS46478
  refine WL_step rfl rfl (Exec.box (cs := [Value.int .i64 (b45877.States), Value.int .i64 (b45877.Init), v45878, v45880, v45882]) hS46478 rfl rfl rfl ?_)
  intro b46479 w46480 hS46481
  refine WL_step rfl rfl (Exec.assign (v := Value.bool (false)) rfl rfl ?_)
  refine WL_nil (at_normal ?_)
  refine W_seq ?_
  refine W_seq ?_
  obtain ⟨z46493, ht46494, hm⟩ := bind_some hm
  refine W_mid (M := fun f' w' => (fun (z46493 : Bool) => ∃ (s46495 : PHeap) , PHeap.le s s46495 ∧ St w0 s46495 (Res.box b46476 26 [Value.int .i64 (a45870.States), Value.int .i64 (a45870.Init), v45871, v45873, v45875] :: Res.box b46479 26 [Value.int .i64 (b45877.States), Value.int .i64 (b45877.Init), v45878, v45880, v45882] :: H) w' ∧ f' 2 = Value.pointer (some ⟨b46476, 0, none⟩) ∧ f' 3 = Value.pointer (some ⟨b46479, 0, none⟩) ∧ f' 44 = Value.bool (z46493)) z46493) ?_ ?_
  · refine W_region ?_
    refine WL_step rfl rfl (Exec.field F26_0 rfl rfl rfl ?_)
    refine WL_step rfl rfl (Exec.load_box ((hS46481).f1) A3 rfl rfl rfl ?_)
    refine WL_step rfl rfl (Exec.field F26_0 rfl rfl rfl ?_)
    refine WL_step rfl rfl (Exec.load_box (hS46481) A3 rfl rfl rfl ?_)
    refine WL_step rfl rfl (Exec.neq rfl rfl rfl ?_)
    refine WL_step rfl rfl (Exec.move (v := Value.bool (!decide (a45870.States = b45877.States))) rfl rfl ?_)
    rcases ite_some ht46494 with ⟨hc46496, ht46494⟩ | ⟨hc46496, ht46494⟩
    · refine WL_pass rfl (yield_of rfl (congrArg Value.bool hc46496)) rfl rfl ?_
      refine WL_pass rfl (yield_of rfl (congrArg Value.bool hc46496)) rfl rfl ?_
      refine WL_pass rfl (yield_of rfl (congrArg Value.bool hc46496)) rfl rfl ?_
      refine WL_pass rfl (yield_of rfl (congrArg Value.bool hc46496)) rfl rfl ?_
      refine WL_pass rfl (yield_of rfl (congrArg Value.bool hc46496)) rfl rfl ?_
      refine WL_step rfl rfl (Exec.pick_t (v := Value.bool (true)) rfl (congrArg Value.bool hc46496) rfl ?_)
      refine WL_step rfl rfl (Exec.move (v := Value.bool (true)) rfl rfl ?_)
      refine WL_pass rfl (yield_of rfl rfl) rfl rfl ?_
      refine WL_pass rfl (yield_of rfl rfl) rfl rfl ?_
      refine WL_pass rfl (yield_of rfl rfl) rfl rfl ?_
      refine WL_pass rfl (yield_of rfl rfl) rfl rfl ?_
      refine WL_pass rfl (yield_of rfl rfl) rfl rfl ?_
      refine WL_pass rfl (yield_of rfl rfl) rfl rfl ?_
      refine WL_step rfl rfl (Exec.pick_t (v := Value.bool (true)) rfl rfl rfl ?_)
      refine WL_step rfl rfl (Exec.move (v := Value.bool (true)) rfl rfl ?_)
      refine WL_pass rfl (yield_of rfl rfl) rfl rfl ?_
      refine WL_pass rfl (yield_of rfl rfl) rfl rfl ?_
      refine WL_pass rfl (yield_of rfl rfl) rfl rfl ?_
      refine WL_pass rfl (yield_of rfl rfl) rfl rfl ?_
      refine WL_pass rfl (yield_of rfl rfl) rfl rfl ?_
      refine WL_pass rfl (yield_of rfl rfl) rfl rfl ?_
      refine WL_pass rfl (yield_of rfl rfl) rfl rfl ?_
      refine WL_step rfl rfl (Exec.pick_t (v := Value.bool (true)) rfl rfl rfl ?_)
      refine WL_step rfl rfl (Exec.move (v := Value.bool (true)) rfl rfl ?_)
      refine WL_pass rfl (yield_of rfl rfl) rfl rfl ?_
      refine WL_pass rfl (yield_of rfl rfl) rfl rfl ?_
      refine WL_pass rfl (yield_of rfl rfl) rfl rfl ?_
      refine WL_pass rfl (yield_of rfl rfl) rfl rfl ?_
      refine WL_pass rfl (yield_of rfl rfl) rfl rfl ?_
      refine WL_pass rfl (yield_of rfl rfl) rfl rfl ?_
      refine WL_pass rfl (yield_of rfl rfl) rfl rfl ?_
      refine WL_step rfl rfl (Exec.pick_t (v := Value.bool (true)) rfl rfl rfl ?_)
      refine WL_nil (at_normal ?_)
      have e46497 := Option.some.inj ht46494
      subst z46493
      have hS46498 := (hS46481).f1
      exact ⟨s, (PHeap.le_refl _), hS46498, rfl, rfl, rfl⟩
    · replace hc46496 := not_true hc46496
      refine WL_run rfl (yield_of rfl (congrArg Value.bool hc46496)) rfl (Exec.field F26_1 rfl rfl rfl ?_)
      refine WL_run rfl (yield_of rfl (congrArg Value.bool hc46496)) rfl (Exec.load_box ((hS46481).f1) A3 rfl rfl rfl ?_)
      refine WL_run rfl (yield_of rfl (congrArg Value.bool hc46496)) rfl (Exec.field F26_1 rfl rfl rfl ?_)
      refine WL_run rfl (yield_of rfl (congrArg Value.bool hc46496)) rfl (Exec.load_box (hS46481) A3 rfl rfl rfl ?_)
      refine WL_run rfl (yield_of rfl (congrArg Value.bool hc46496)) rfl (Exec.neq rfl rfl rfl ?_)
      refine WL_step rfl rfl (Exec.pick_f (v := Value.bool (!decide (a45870.Init = b45877.Init))) rfl (congrArg Value.bool hc46496) rfl ?_)
      refine WL_step rfl rfl (Exec.move (v := Value.bool (!decide (a45870.Init = b45877.Init))) rfl rfl ?_)
      rcases ite_some ht46494 with ⟨hc46499, ht46494⟩ | ⟨hc46499, ht46494⟩
      · refine WL_pass rfl (yield_of rfl (congrArg Value.bool hc46499)) rfl rfl ?_
        refine WL_pass rfl (yield_of rfl (congrArg Value.bool hc46499)) rfl rfl ?_
        refine WL_pass rfl (yield_of rfl (congrArg Value.bool hc46499)) rfl rfl ?_
        refine WL_pass rfl (yield_of rfl (congrArg Value.bool hc46499)) rfl rfl ?_
        refine WL_pass rfl (yield_of rfl (congrArg Value.bool hc46499)) rfl rfl ?_
        refine WL_pass rfl (yield_of rfl (congrArg Value.bool hc46499)) rfl rfl ?_
        refine WL_step rfl rfl (Exec.pick_t (v := Value.bool (true)) rfl (congrArg Value.bool hc46499) rfl ?_)
        refine WL_step rfl rfl (Exec.move (v := Value.bool (true)) rfl rfl ?_)
        refine WL_pass rfl (yield_of rfl rfl) rfl rfl ?_
        refine WL_pass rfl (yield_of rfl rfl) rfl rfl ?_
        refine WL_pass rfl (yield_of rfl rfl) rfl rfl ?_
        refine WL_pass rfl (yield_of rfl rfl) rfl rfl ?_
        refine WL_pass rfl (yield_of rfl rfl) rfl rfl ?_
        refine WL_pass rfl (yield_of rfl rfl) rfl rfl ?_
        refine WL_pass rfl (yield_of rfl rfl) rfl rfl ?_
        refine WL_step rfl rfl (Exec.pick_t (v := Value.bool (true)) rfl rfl rfl ?_)
        refine WL_step rfl rfl (Exec.move (v := Value.bool (true)) rfl rfl ?_)
        refine WL_pass rfl (yield_of rfl rfl) rfl rfl ?_
        refine WL_pass rfl (yield_of rfl rfl) rfl rfl ?_
        refine WL_pass rfl (yield_of rfl rfl) rfl rfl ?_
        refine WL_pass rfl (yield_of rfl rfl) rfl rfl ?_
        refine WL_pass rfl (yield_of rfl rfl) rfl rfl ?_
        refine WL_pass rfl (yield_of rfl rfl) rfl rfl ?_
        refine WL_pass rfl (yield_of rfl rfl) rfl rfl ?_
        refine WL_step rfl rfl (Exec.pick_t (v := Value.bool (true)) rfl rfl rfl ?_)
        refine WL_nil (at_normal ?_)
        have e46500 := Option.some.inj ht46494
        subst z46493
        have hS46501 := (hS46481).f1
        exact ⟨s, (PHeap.le_refl _), hS46501, rfl, rfl, rfl⟩
      · replace hc46499 := not_true hc46499
        refine WL_run rfl (yield_of rfl (congrArg Value.bool hc46499)) rfl (Exec.field F26_2 rfl rfl rfl ?_)
        refine WL_run rfl (yield_of rfl (congrArg Value.bool hc46499)) rfl (Exec.load_box ((hS46481).f1) A22 rfl rfl rfl ?_)
        refine WL_run rfl (yield_of rfl (congrArg Value.bool hc46499)) rfl (Exec.field F26_2 rfl rfl rfl ?_)
        refine WL_run rfl (yield_of rfl (congrArg Value.bool hc46499)) rfl (Exec.load_box (hS46481) A22 rfl rfl rfl ?_)
        obtain ⟨y46504, q46503, ht46494⟩ := bind_some ht46494
        refine WL_run rfl (yield_of rfl (congrArg Value.bool hc46499)) rfl (Exec.call rfl rfl Try.func20 rfl N20 (args_cons rfl (args_cons rfl args_nil)) ((base_Ints_sim q46503 hS46481 a45872 a45879).mono ?_))
        rintro _ w46505 ⟨_, rfl, ⟨s46506, l46507, hS46508, rfl⟩⟩
        refine ⟨_, rfl, ?_⟩
        refine WL_run rfl (yield_of rfl (congrArg Value.bool hc46499)) rfl (Exec.not rfl rfl ?_)
        refine WL_step rfl rfl (Exec.pick_f (v := Value.bool (!y46504)) rfl (congrArg Value.bool hc46499) rfl ?_)
        refine WL_step rfl rfl (Exec.move (v := Value.bool (!y46504)) rfl rfl ?_)
        rcases ite_some ht46494 with ⟨hc46509, ht46494⟩ | ⟨hc46509, ht46494⟩
        · refine WL_pass rfl (yield_of rfl (congrArg Value.bool hc46509)) rfl rfl ?_
          refine WL_pass rfl (yield_of rfl (congrArg Value.bool hc46509)) rfl rfl ?_
          refine WL_pass rfl (yield_of rfl (congrArg Value.bool hc46509)) rfl rfl ?_
          refine WL_pass rfl (yield_of rfl (congrArg Value.bool hc46509)) rfl rfl ?_
          refine WL_pass rfl (yield_of rfl (congrArg Value.bool hc46509)) rfl rfl ?_
          refine WL_pass rfl (yield_of rfl (congrArg Value.bool hc46509)) rfl rfl ?_
          refine WL_pass rfl (yield_of rfl (congrArg Value.bool hc46509)) rfl rfl ?_
          refine WL_step rfl rfl (Exec.pick_t (v := Value.bool (true)) rfl (congrArg Value.bool hc46509) rfl ?_)
          refine WL_step rfl rfl (Exec.move (v := Value.bool (true)) rfl rfl ?_)
          refine WL_pass rfl (yield_of rfl rfl) rfl rfl ?_
          refine WL_pass rfl (yield_of rfl rfl) rfl rfl ?_
          refine WL_pass rfl (yield_of rfl rfl) rfl rfl ?_
          refine WL_pass rfl (yield_of rfl rfl) rfl rfl ?_
          refine WL_pass rfl (yield_of rfl rfl) rfl rfl ?_
          refine WL_pass rfl (yield_of rfl rfl) rfl rfl ?_
          refine WL_pass rfl (yield_of rfl rfl) rfl rfl ?_
          refine WL_step rfl rfl (Exec.pick_t (v := Value.bool (true)) rfl rfl rfl ?_)
          refine WL_nil (at_normal ?_)
          have e46510 := Option.some.inj ht46494
          subst z46493
          have hS46511 := (hS46508).f1
          exact ⟨s46506, l46507, hS46511, rfl, rfl, rfl⟩
        · replace hc46509 := not_true hc46509
          refine WL_run rfl (yield_of rfl (congrArg Value.bool hc46509)) rfl (Exec.field F26_3 rfl rfl rfl ?_)
          refine WL_run rfl (yield_of rfl (congrArg Value.bool hc46509)) rfl (Exec.load_box ((hS46508).f1) A23 rfl rfl rfl ?_)
          refine WL_run rfl (yield_of rfl (congrArg Value.bool hc46509)) rfl (Exec.len_rep S23 rfl rfl (a45874.mono l46507) ?_)
          refine WL_run rfl (yield_of rfl (congrArg Value.bool hc46509)) rfl (Exec.field F26_3 rfl rfl rfl ?_)
          refine WL_run rfl (yield_of rfl (congrArg Value.bool hc46509)) rfl (Exec.load_box (hS46508) A23 rfl rfl rfl ?_)
          refine WL_run rfl (yield_of rfl (congrArg Value.bool hc46509)) rfl (Exec.len_rep S23 rfl rfl (a45881.mono l46507) ?_)
          refine WL_run rfl (yield_of rfl (congrArg Value.bool hc46509)) rfl (Exec.neq rfl rfl rfl ?_)
          refine WL_step rfl rfl (Exec.pick_f (v := Value.bool (!decide ((a45870.Edges.length : Int) = (b45877.Edges.length : Int)))) rfl (congrArg Value.bool hc46509) rfl ?_)
          refine WL_step rfl rfl (Exec.move (v := Value.bool (!decide ((a45870.Edges.length : Int) = (b45877.Edges.length : Int)))) rfl rfl ?_)
          rcases ite_some ht46494 with ⟨hc46512, ht46494⟩ | ⟨hc46512, ht46494⟩
          · refine WL_pass rfl (yield_of rfl (congrArg Value.bool hc46512)) rfl rfl ?_
            refine WL_pass rfl (yield_of rfl (congrArg Value.bool hc46512)) rfl rfl ?_
            refine WL_pass rfl (yield_of rfl (congrArg Value.bool hc46512)) rfl rfl ?_
            refine WL_pass rfl (yield_of rfl (congrArg Value.bool hc46512)) rfl rfl ?_
            refine WL_pass rfl (yield_of rfl (congrArg Value.bool hc46512)) rfl rfl ?_
            refine WL_pass rfl (yield_of rfl (congrArg Value.bool hc46512)) rfl rfl ?_
            refine WL_pass rfl (yield_of rfl (congrArg Value.bool hc46512)) rfl rfl ?_
            refine WL_step rfl rfl (Exec.pick_t (v := Value.bool (true)) rfl (congrArg Value.bool hc46512) rfl ?_)
            refine WL_nil (at_normal ?_)
            have e46513 := Option.some.inj ht46494
            subst z46493
            have hS46514 := (hS46508).f1
            exact ⟨s46506, l46507, hS46514, rfl, rfl, rfl⟩
          · replace hc46512 := not_true hc46512
            refine WL_run rfl (yield_of rfl (congrArg Value.bool hc46512)) rfl (Exec.field F26_4 rfl rfl rfl ?_)
            refine WL_run rfl (yield_of rfl (congrArg Value.bool hc46512)) rfl (Exec.load_box ((hS46508).f1) A24 rfl rfl rfl ?_)
            refine WL_run rfl (yield_of rfl (congrArg Value.bool hc46512)) rfl (Exec.len_rep S24 rfl rfl (a45876.mono l46507) ?_)
            refine WL_run rfl (yield_of rfl (congrArg Value.bool hc46512)) rfl (Exec.field F26_4 rfl rfl rfl ?_)
            refine WL_run rfl (yield_of rfl (congrArg Value.bool hc46512)) rfl (Exec.load_box (hS46508) A24 rfl rfl rfl ?_)
            refine WL_run rfl (yield_of rfl (congrArg Value.bool hc46512)) rfl (Exec.len_rep S24 rfl rfl (a45883.mono l46507) ?_)
            refine WL_run rfl (yield_of rfl (congrArg Value.bool hc46512)) rfl (Exec.neq rfl rfl rfl ?_)
            refine WL_step rfl rfl (Exec.pick_f (v := Value.bool (!decide ((a45870.Goals.length : Int) = (b45877.Goals.length : Int)))) rfl (congrArg Value.bool hc46512) rfl ?_)
            refine WL_nil (at_normal ?_)
            have e46515 := Option.some.inj ht46494
            subst z46493
            have hS46516 := (hS46508).f1
            exact ⟨s46506, l46507, hS46516, rfl, rfl, rfl⟩
  · intro f46517 w46518 hM46519
    obtain ⟨s46520, l46521, hS46522, p46523, p46524, p46525⟩ := hM46519
    refine (at_normal ?_)
    rcases ite_some hm with ⟨hc46526, hm⟩ | ⟨hc46526, hm⟩
    · refine W_cond_t p46525 hc46526 ?_
      refine W_seq ?_
      refine W_region ?_
      refine WL_step rfl rfl (Exec.assign (v := Value.bool (false)) rfl rfl ?_)
      refine WL_nil (at_normal ?_)
      refine W_ret (at_ret ?_)
      have e46528 := Option.some.inj hm
      subst r
      refine ⟨_, ret1 rfl, ?_⟩
      have hS46529 := (hS46522).drop
      have hS46530 := (hS46529).drop
      exact ⟨s46520, l46521, hS46530, rfl⟩
    · refine W_cond_f p46525 hc46526 ?_
      replace hc46526 := not_true hc46526
      refine W_skip (at_normal ?_)
      refine W_seq ?_
      refine W_seq ?_
      refine W_region ?_
      refine WL_step rfl rfl (Exec.field F26_3 rfl p46523 rfl ?_)
      refine WL_step rfl rfl (Exec.load_box (hS46522) A23 rfl rfl rfl ?_)
      refine WL_step rfl rfl (Exec.len_rep S23 rfl rfl (a45874.mono l46521) ?_)
      refine WL_step rfl rfl (Exec.move (v := Value.int .i64 (0)) rfl rfl ?_)
      refine WL_nil (at_normal ?_)
      obtain ⟨c46672, hB46673, hr46674, hn46675, hb46676⟩ := ctl_some hm
      refine W_mid (M := fun f' w' => ∃ s', (c46672 = .next s' ∨ c46672 = .brk s') ∧ (fun (_ : Unit) => ∃ (s46678 : PHeap) , PHeap.le s46520 s46678 ∧ St w0 s46678 (Res.box b46476 26 [Value.int .i64 (a45870.States), Value.int .i64 (a45870.Init), v45871, v45873, v45875] :: Res.box b46479 26 [Value.int .i64 (b45877.States), Value.int .i64 (b45877.Init), v45878, v45880, v45882] :: H) w' ∧ f' 2 = Value.pointer (some ⟨b46476, 0, none⟩) ∧ f' 3 = Value.pointer (some ⟨b46479, 0, none⟩) ∧ f' 47 = Value.int .i64 ((a45870.Edges.length : Int))) s') ?_ ?_
      · refine W_block (W_forC (fun k' s' f' w' => (fun (_ : Unit) => ∃ (s46677 : PHeap) , PHeap.le s46520 s46677 ∧ St w0 s46677 (Res.box b46476 26 [Value.int .i64 (a45870.States), Value.int .i64 (a45870.Init), v45871, v45873, v45875] :: Res.box b46479 26 [Value.int .i64 (b45877.States), Value.int .i64 (b45877.Init), v45878, v45880, v45882] :: H) w' ∧ f' 2 = Value.pointer (some ⟨b46476, 0, none⟩) ∧ f' 3 = Value.pointer (some ⟨b46479, 0, none⟩) ∧ f' 47 = Value.int .i64 ((a45870.Edges.length : Int)) ∧ f' 48 = Value.int .i64 (k' : Int)) s') hB46673 ?_ ?_ ?_)
        · have hS46679 := (hS46522).f1
          have hS46680 := (hS46679).f1
          exact ⟨s46520, (PHeap.le_refl _), hS46680, p46523, p46524, rfl, rfl⟩
        · intro i46531 t46688 c46682 f46683 w46684 hi46689 hI46685 hm46686 hres46687
          obtain ⟨s46690, l46691, hS46692, p46693, p46694, p46695, x46696⟩ := hI46685
          refine W_seq ?_
          refine W_region ?_
          refine WL_step rfl rfl (Exec.lss rfl x46696 p46695 ?_)
          refine WL_nil (at_normal ?_)
          refine W_seq ?_
          refine W_true (congrArg Value.bool (decide_eq_true (by omega))) ?_
          refine W_skip (at_normal ?_)
          refine W_seq ?_
          refine W_block ?_
          refine W_seq ?_
          refine W_region ?_
          refine WL_step rfl rfl (Exec.move (v := Value.int .i64 ((i46531 : Int))) rfl x46696 ?_)
          refine WL_step rfl rfl (Exec.assign (v := Value.int .i64 ((i46531 : Int))) rfl rfl ?_)
          refine WL_nil (at_normal ?_)
          refine W_seq ?_
          refine W_dl (n0 := 11) (.q 0 (.q 1 (.q 2 (.q 3 (.q 4 (.q 5 (.q 6 (.q 7 (.q 8 (.q 9 (.q 10 .done))))))))))) hmix (by kernel_rfl) (by kernel_rfl) ?_
          have hS46748 := hS46692.drew
          refine DL_q rfl rfl (Exec.field F26_3 rfl p46693 rfl ⟨rfl, ?_⟩)
          refine DL_q rfl rfl (Exec.load_box (hS46748) A23 rfl rfl rfl ⟨rfl, ?_⟩)
          refine DL_q rfl rfl (Exec.move (v := Value.int .i64 ((i46531 : Int))) rfl rfl ⟨rfl, ?_⟩)
          obtain ⟨x46749, q46750, hm46686⟩ := bind_some hm46686
          refine DL_q rfl rfl (Exec.index_repE S23 rfl rfl rfl (a45874.mono (PHeap.le.trans l46521 l46691)) q46750 ?_)
          intro b46751 o46752 a46753 e46754
          refine ⟨rfl, ?_⟩
          refine DL_q rfl rfl (Exec.load_at (E := encEdge) hS46748 A66 rfl rfl rfl a46753 ?_)
          intro v46755 q46756
          obtain rfl := encEdge_val.1 q46756
          refine ⟨rfl, ?_⟩
          refine DL_q rfl rfl (Exec.field F26_3 rfl p46694 rfl ⟨rfl, ?_⟩)
          refine DL_q rfl rfl (Exec.load_box ((hS46748).f1) A23 rfl rfl rfl ⟨rfl, ?_⟩)
          refine DL_q rfl rfl (Exec.move (v := Value.int .i64 ((i46531 : Int))) rfl rfl ⟨rfl, ?_⟩)
          obtain ⟨x46757, q46758, hm46686⟩ := bind_some hm46686
          refine DL_q rfl rfl (Exec.index_repE S23 rfl rfl rfl (a45881.mono (PHeap.le.trans l46521 l46691)) q46758 ?_)
          intro b46759 o46760 a46761 e46762
          refine ⟨rfl, ?_⟩
          refine DL_q rfl rfl (Exec.load_at (E := encEdge) hS46748 A66 rfl rfl rfl a46761 ?_)
          intro v46763 q46764
          obtain rfl := encEdge_val.1 q46764
          refine ⟨rfl, ?_⟩
          refine DL_q rfl rfl (Exec.ints_neq (xs := [x46749.From, x46749.Label, x46749.To]) (ys := [x46757.From, x46757.Label, x46757.To]) IS66 rfl rfl rfl rfl rfl rfl rfl ⟨rfl, ?_⟩)
          refine DL_done ?_
          refine WL_nil (at_normal ?_)
          rcases ite_some hm46686 with ⟨hc46765, hm46686⟩ | ⟨hc46765, hm46686⟩
          · refine W_cond_t rfl hc46765 ?_
            refine W_seq ?_
            refine W_region ?_
            refine WL_step rfl rfl (Exec.assign (v := Value.bool (false)) rfl rfl ?_)
            refine WL_nil (at_normal ?_)
            refine W_ret (ib_ret (at_ret (at_ret (ib_ret (at_ret (at_ret ?_))))))
            have e46766 := Option.some.inj hm46686
            subst c46682
            have hq46767 := hr46674 _ (hres46687 (by intro _ h; cases h))
            have e46768 := Option.some.inj hq46767
            subst r
            refine ⟨_, ret1 rfl, ?_⟩
            have hS46769 := (hS46748).drop
            have hS46770 := (hS46769).drop
            exact ⟨s46690, (PHeap.le.trans l46521 l46691), hS46770, rfl⟩
          · refine W_cond_f rfl hc46765 ?_
            replace hc46765 := not_true hc46765
            refine W_skip (ib_normal (at_normal ?_))
            refine W_region ?_
            refine WL_step rfl rfl (Exec.add rfl x46696 rfl ?_)
            refine WL_step rfl rfl (Exec.move (v := Value.int .i64 (IntKind.i64.wrap ((i46531 : Int) + 1))) rfl rfl ?_)
            refine WL_nil (at_normal ?_)
            have e46771 := Option.some.inj hm46686
            subst c46682
            have hS46772 := (hS46748).f1
            have hS46773 := (hS46772).f1
            refine ⟨_, rfl, ?_⟩; exact ⟨s46690, l46691, hS46773, p46693, p46694, p46695, (Eq.trans rfl (wrap_up hi46689 (SliceRep.le (a45874.mono l46521))))⟩
        · intro t46774 f46775 w46776 hI46777 hres46778
          obtain ⟨s46779, l46780, hS46781, p46782, p46783, p46784, x46785⟩ := hI46777
          refine W_seq ?_
          refine W_region ?_
          refine WL_step rfl rfl (Exec.lss rfl x46785 p46784 ?_)
          refine WL_nil (at_normal ?_)
          refine W_seq ?_
          refine W_false (congrArg Value.bool (decide_eq_false (by omega))) ?_
          refine W_exit (at_exit (at_exit (ib_here (at_normal ?_))))
          have hS46786 := (hS46781).f1
          have hS46787 := (hS46786).f1
          refine ⟨_, .inl hres46778, ?_⟩; exact ⟨s46779, l46780, hS46787, p46782, p46783, p46784⟩
      · rintro f46788 w46789 ⟨t46790, hc46791, hM46792⟩
        have hm := hc46791.elim (hn46675 _) (hb46676 _)
        clear hc46791
        obtain ⟨s46793, l46794, hS46795, p46796, p46797, p46798⟩ := hM46792
        refine (at_normal ?_)
        refine W_seq ?_
        refine W_seq ?_
        refine W_region ?_
        refine WL_step rfl rfl (Exec.field F26_4 rfl p46796 rfl ?_)
        refine WL_step rfl rfl (Exec.load_box (hS46795) A24 rfl rfl rfl ?_)
        refine WL_step rfl rfl (Exec.len_rep S24 rfl rfl (a45876.mono (PHeap.le.trans l46521 l46794)) ?_)
        refine WL_step rfl rfl (Exec.move (v := Value.int .i64 (0)) rfl rfl ?_)
        refine WL_nil (at_normal ?_)
        obtain ⟨c46940, hB46941, hr46942, hn46943, hb46944⟩ := ctl_some hm
        refine W_mid (M := fun f' w' => ∃ s', (c46940 = .next s' ∨ c46940 = .brk s') ∧ (fun (_ : Unit) => ∃ (s46946 : PHeap) , PHeap.le s46793 s46946 ∧ St w0 s46946 (Res.box b46476 26 [Value.int .i64 (a45870.States), Value.int .i64 (a45870.Init), v45871, v45873, v45875] :: Res.box b46479 26 [Value.int .i64 (b45877.States), Value.int .i64 (b45877.Init), v45878, v45880, v45882] :: H) w' ∧ f' 2 = Value.pointer (some ⟨b46476, 0, none⟩) ∧ f' 3 = Value.pointer (some ⟨b46479, 0, none⟩) ∧ f' 65 = Value.int .i64 ((a45870.Goals.length : Int))) s') ?_ ?_
        · refine W_block (W_forC (fun k' s' f' w' => (fun (_ : Unit) => ∃ (s46945 : PHeap) , PHeap.le s46793 s46945 ∧ St w0 s46945 (Res.box b46476 26 [Value.int .i64 (a45870.States), Value.int .i64 (a45870.Init), v45871, v45873, v45875] :: Res.box b46479 26 [Value.int .i64 (b45877.States), Value.int .i64 (b45877.Init), v45878, v45880, v45882] :: H) w' ∧ f' 2 = Value.pointer (some ⟨b46476, 0, none⟩) ∧ f' 3 = Value.pointer (some ⟨b46479, 0, none⟩) ∧ f' 65 = Value.int .i64 ((a45870.Goals.length : Int)) ∧ f' 66 = Value.int .i64 (k' : Int)) s') hB46941 ?_ ?_ ?_)
          · have hS46947 := (hS46795).f1
            have hS46948 := (hS46947).f1
            exact ⟨s46793, (PHeap.le_refl _), hS46948, p46796, p46797, rfl, rfl⟩
          · intro i46799 t46956 c46950 f46951 w46952 hi46957 hI46953 hm46954 hres46955
            obtain ⟨s46958, l46959, hS46960, p46961, p46962, p46963, x46964⟩ := hI46953
            refine W_seq ?_
            refine W_region ?_
            refine WL_step rfl rfl (Exec.lss rfl x46964 p46963 ?_)
            refine WL_nil (at_normal ?_)
            refine W_seq ?_
            refine W_true (congrArg Value.bool (decide_eq_true (by omega))) ?_
            refine W_skip (at_normal ?_)
            refine W_seq ?_
            refine W_block ?_
            refine W_seq ?_
            refine W_region ?_
            refine WL_step rfl rfl (Exec.move (v := Value.int .i64 ((i46799 : Int))) rfl x46964 ?_)
            refine WL_step rfl rfl (Exec.assign (v := Value.int .i64 ((i46799 : Int))) rfl rfl ?_)
            refine WL_nil (at_normal ?_)
            refine W_seq ?_
            refine W_dl (n0 := 11) (.q 0 (.q 1 (.q 2 (.q 3 (.q 4 (.q 5 (.q 6 (.q 7 (.q 8 (.q 9 (.q 10 .done))))))))))) hmix (by kernel_rfl) (by kernel_rfl) ?_
            have hS47016 := hS46960.drew
            refine DL_q rfl rfl (Exec.field F26_4 rfl p46961 rfl ⟨rfl, ?_⟩)
            refine DL_q rfl rfl (Exec.load_box (hS47016) A24 rfl rfl rfl ⟨rfl, ?_⟩)
            refine DL_q rfl rfl (Exec.move (v := Value.int .i64 ((i46799 : Int))) rfl rfl ⟨rfl, ?_⟩)
            obtain ⟨x47017, q47018, hm46954⟩ := bind_some hm46954
            refine DL_q rfl rfl (Exec.index_repE S24 rfl rfl rfl (a45876.mono (PHeap.le.trans (PHeap.le.trans l46521 l46794) l46959)) q47018 ?_)
            intro b47019 o47020 a47021 e47022
            refine ⟨rfl, ?_⟩
            refine DL_q rfl rfl (Exec.load_at (E := encBool) hS47016 A4 rfl rfl rfl a47021 ?_)
            intro v47023 q47024
            obtain rfl := encBool_val.1 q47024
            refine ⟨rfl, ?_⟩
            refine DL_q rfl rfl (Exec.field F26_4 rfl p46962 rfl ⟨rfl, ?_⟩)
            refine DL_q rfl rfl (Exec.load_box ((hS47016).f1) A24 rfl rfl rfl ⟨rfl, ?_⟩)
            refine DL_q rfl rfl (Exec.move (v := Value.int .i64 ((i46799 : Int))) rfl rfl ⟨rfl, ?_⟩)
            obtain ⟨x47025, q47026, hm46954⟩ := bind_some hm46954
            refine DL_q rfl rfl (Exec.index_repE S24 rfl rfl rfl (a45883.mono (PHeap.le.trans (PHeap.le.trans l46521 l46794) l46959)) q47026 ?_)
            intro b47027 o47028 a47029 e47030
            refine ⟨rfl, ?_⟩
            refine DL_q rfl rfl (Exec.load_at (E := encBool) hS47016 A4 rfl rfl rfl a47029 ?_)
            intro v47031 q47032
            obtain rfl := encBool_val.1 q47032
            refine ⟨rfl, ?_⟩
            refine DL_q rfl rfl (Exec.bool_neq Try.underlying4 rfl rfl rfl ⟨rfl, ?_⟩)
            refine DL_done ?_
            refine WL_nil (at_normal ?_)
            rcases ite_some hm46954 with ⟨hc47033, hm46954⟩ | ⟨hc47033, hm46954⟩
            · refine W_cond_t rfl hc47033 ?_
              refine W_seq ?_
              refine W_region ?_
              refine WL_step rfl rfl (Exec.assign (v := Value.bool (false)) rfl rfl ?_)
              refine WL_nil (at_normal ?_)
              refine W_ret (ib_ret (at_ret (at_ret (ib_ret (at_ret (at_ret ?_))))))
              have e47034 := Option.some.inj hm46954
              subst c46950
              have hq47035 := hr46942 _ (hres46955 (by intro _ h; cases h))
              have e47036 := Option.some.inj hq47035
              subst r
              refine ⟨_, ret1 rfl, ?_⟩
              have hS47037 := (hS47016).drop
              have hS47038 := (hS47037).drop
              exact ⟨s46958, (PHeap.le.trans (PHeap.le.trans l46521 l46794) l46959), hS47038, rfl⟩
            · refine W_cond_f rfl hc47033 ?_
              replace hc47033 := not_true hc47033
              refine W_skip (ib_normal (at_normal ?_))
              refine W_region ?_
              refine WL_step rfl rfl (Exec.add rfl x46964 rfl ?_)
              refine WL_step rfl rfl (Exec.move (v := Value.int .i64 (IntKind.i64.wrap ((i46799 : Int) + 1))) rfl rfl ?_)
              refine WL_nil (at_normal ?_)
              have e47039 := Option.some.inj hm46954
              subst c46950
              have hS47040 := (hS47016).f1
              have hS47041 := (hS47040).f1
              refine ⟨_, rfl, ?_⟩; exact ⟨s46958, l46959, hS47041, p46961, p46962, p46963, (Eq.trans rfl (wrap_up hi46957 (SliceRep.le (a45876.mono (PHeap.le.trans l46521 l46794)))))⟩
          · intro t47042 f47043 w47044 hI47045 hres47046
            obtain ⟨s47047, l47048, hS47049, p47050, p47051, p47052, x47053⟩ := hI47045
            refine W_seq ?_
            refine W_region ?_
            refine WL_step rfl rfl (Exec.lss rfl x47053 p47052 ?_)
            refine WL_nil (at_normal ?_)
            refine W_seq ?_
            refine W_false (congrArg Value.bool (decide_eq_false (by omega))) ?_
            refine W_exit (at_exit (at_exit (ib_here (at_normal ?_))))
            have hS47054 := (hS47049).f1
            have hS47055 := (hS47054).f1
            refine ⟨_, .inl hres47046, ?_⟩; exact ⟨s47047, l47048, hS47055, p47050, p47051, p47052⟩
        · rintro f47056 w47057 ⟨t47058, hc47059, hM47060⟩
          have hm := hc47059.elim (hn46943 _) (hb46944 _)
          clear hc47059
          obtain ⟨s47061, l47062, hS47063, p47064, p47065, p47066⟩ := hM47060
          refine (at_normal ?_)
          refine W_seq ?_
          refine W_region ?_
          refine WL_step rfl rfl (Exec.assign (v := Value.bool (true)) rfl rfl ?_)
          refine WL_nil (at_normal ?_)
          refine W_ret ?_
          have e47068 := Option.some.inj hm
          subst r
          refine ⟨_, ret1 rfl, ?_⟩
          have hS47069 := (hS47063).drop
          have hS47070 := (hS47069).drop
          exact ⟨s47061, (PHeap.le.trans (PHeap.le.trans l46521 l46794) l47062), hS47070, rfl⟩

theorem N6 : (Try.f6.name == "runtime.NumGoroutine") = false := by kernel_rfl

theorem law44_TransysTrims_sim {w0 w : World} {s : PHeap} {H : List Res} {x1 : System} {v2 : Value} {v4 : Value} {v6 : Value} {r : Bool} (hm : law44_TransysTrims_p x1 = some r) (hS : St w0 s (H) w) (a3 : SliceRep (encInt .i64) s v2 x1.Costs) (a5 : SliceRep encEdge s v4 x1.Edges) (a7 : SliceRep encBool s v6 x1.Goals) :
    Calls Try.prog 6 #[Value.agg #[Value.int .i64 (x1.States), Value.int .i64 (x1.Init), v2, v4, v6]] w fun e w' => ∃ v, e = .returned v ∧ ((fun (y47564 : Bool) => ∃ (s47565 : PHeap) , PHeap.le s s47565 ∧ St w0 s47565 (H) w' ∧ v = Value.bool (y47564)) r) := by
  unfold law44_TransysTrims_p at hm
  refine calls_of_W Try.func6 rfl rfl ?_
  refine W_seq ?_
  refine W_region ?_
  refine WL_step rfl rfl (Exec.box (cs := [Value.int .i64 (x1.States), Value.int .i64 (x1.Init), v2, v4, v6]) hS rfl rfl rfl ?_)
  intro b47569 w47570 hS47571
  refine WL_step rfl rfl (Exec.assign (v := Value.bool (false)) rfl rfl ?_)
  refine WL_nil (at_normal ?_)
  refine W_seq ?_
  refine W_seq ?_
  obtain ⟨z47595, ht47596, hm⟩ := bind_some hm
  refine W_mid (M := fun f' w' => (fun (z47595 : Bool) => ∃ (s47597 : PHeap) , PHeap.le s s47597 ∧ St w0 s47597 (Res.box b47569 26 [Value.int .i64 (x1.States), Value.int .i64 (x1.Init), v2, v4, v6] :: H) w' ∧ f' 1 = Value.pointer (some ⟨b47569, 0, none⟩) ∧ f' 24 = Value.bool (z47595)) z47595) ?_ ?_
  · refine W_region ?_
    obtain ⟨y47600, q47599, ht47596⟩ := bind_some ht47596
    refine WL_step rfl rfl (Exec.call rfl rfl Try.func10 rfl N10 args_nil ((law44_awake_sim q47599 hS47571 ).mono ?_))
    rintro _ w47601 ⟨_, rfl, ⟨s47602, l47603, hS47604, rfl⟩⟩
    refine ⟨_, rfl, ?_⟩
    refine WL_step rfl rfl (Exec.not rfl rfl ?_)
    refine WL_step rfl rfl (Exec.move (v := Value.bool (!y47600)) rfl rfl ?_)
    rcases ite_some ht47596 with ⟨hc47605, ht47596⟩ | ⟨hc47605, ht47596⟩
    · refine WL_pass rfl (yield_of rfl (congrArg Value.bool hc47605)) rfl rfl ?_
      refine WL_pass rfl (yield_of rfl (congrArg Value.bool hc47605)) rfl rfl ?_
      refine WL_step rfl rfl (Exec.pick_t (v := Value.bool (true)) rfl (congrArg Value.bool hc47605) rfl ?_)
      refine WL_step rfl rfl (Exec.move (v := Value.bool (true)) rfl rfl ?_)
      refine WL_pass rfl (yield_of rfl rfl) rfl rfl ?_
      refine WL_pass rfl (yield_of rfl rfl) rfl rfl ?_
      refine WL_pass rfl (yield_of rfl rfl) rfl rfl ?_
      refine WL_step rfl rfl (Exec.pick_t (v := Value.bool (true)) rfl rfl rfl ?_)
      refine WL_nil (at_normal ?_)
      have e47606 := Option.some.inj ht47596
      subst z47595
      exact ⟨s47602, l47603, hS47604, rfl, rfl⟩
    · replace hc47605 := not_true hc47605
      refine WL_run rfl (yield_of rfl (congrArg Value.bool hc47605)) rfl (Exec.load_box_agg (ds := [Value.int .i64 (x1.States), Value.int .i64 (x1.Init), v2, v4, v6]) (hS47604) A26 rfl rfl rfl ?_)
      obtain ⟨y47609, q47608, ht47596⟩ := bind_some ht47596
      refine WL_run rfl (yield_of rfl (congrArg Value.bool hc47605)) rfl (Exec.call rfl rfl Try.func11 rfl N11 (args_cons rfl args_nil) ((law44_large_sim q47608 hS47604 (a3.mono l47603) (a5.mono l47603) (a7.mono l47603)).mono ?_))
      rintro _ w47610 ⟨_, rfl, ⟨s47611, l47612, hS47613, rfl⟩⟩
      refine ⟨_, rfl, ?_⟩
      refine WL_step rfl rfl (Exec.pick_f (v := Value.bool (y47609)) rfl (congrArg Value.bool hc47605) rfl ?_)
      refine WL_step rfl rfl (Exec.move (v := Value.bool (y47609)) rfl rfl ?_)
      rcases ite_some ht47596 with ⟨hc47614, ht47596⟩ | ⟨hc47614, ht47596⟩
      · refine WL_pass rfl (yield_of rfl (congrArg Value.bool hc47614)) rfl rfl ?_
        refine WL_pass rfl (yield_of rfl (congrArg Value.bool hc47614)) rfl rfl ?_
        refine WL_pass rfl (yield_of rfl (congrArg Value.bool hc47614)) rfl rfl ?_
        refine WL_step rfl rfl (Exec.pick_t (v := Value.bool (true)) rfl (congrArg Value.bool hc47614) rfl ?_)
        refine WL_nil (at_normal ?_)
        have e47615 := Option.some.inj ht47596
        subst z47595
        exact ⟨s47611, (PHeap.le.trans l47603 l47612), hS47613, rfl, rfl⟩
      · replace hc47614 := not_true hc47614
        refine WL_run rfl (yield_of rfl (congrArg Value.bool hc47614)) rfl (Exec.load_box_agg (ds := [Value.int .i64 (x1.States), Value.int .i64 (x1.Init), v2, v4, v6]) (hS47613) A26 rfl rfl rfl ?_)
        obtain ⟨y47618, q47617, ht47596⟩ := bind_some ht47596
        refine WL_run rfl (yield_of rfl (congrArg Value.bool hc47614)) rfl (Exec.call rfl rfl Try.func17 rfl N17 (args_cons rfl args_nil) ((ref44_Valid_sim q47617 hS47613 (a3.mono (PHeap.le.trans l47603 l47612)) (a5.mono (PHeap.le.trans l47603 l47612)) (a7.mono (PHeap.le.trans l47603 l47612))).mono ?_))
        rintro _ w47619 ⟨_, rfl, ⟨s47620, l47621, hS47622, rfl⟩⟩
        refine ⟨_, rfl, ?_⟩
        refine WL_run rfl (yield_of rfl (congrArg Value.bool hc47614)) rfl (Exec.not rfl rfl ?_)
        refine WL_step rfl rfl (Exec.pick_f (v := Value.bool (!y47618)) rfl (congrArg Value.bool hc47614) rfl ?_)
        refine WL_nil (at_normal ?_)
        have e47623 := Option.some.inj ht47596
        subst z47595
        exact ⟨s47620, (PHeap.le.trans (PHeap.le.trans l47603 l47612) l47621), hS47622, rfl, rfl⟩
  · intro f47624 w47625 hM47626
    obtain ⟨s47627, l47628, hS47629, p47630, p47631⟩ := hM47626
    refine (at_normal ?_)
    rcases ite_some hm with ⟨hc47632, hm⟩ | ⟨hc47632, hm⟩
    · refine W_cond_t p47631 hc47632 ?_
      refine W_seq ?_
      refine W_region ?_
      obtain ⟨y47642, q47641, hm⟩ := bind_some hm
      refine WL_step rfl rfl (Exec.call rfl rfl Try.func10 rfl N10 args_nil ((law44_awake_sim q47641 hS47629 ).mono ?_))
      rintro _ w47643 ⟨_, rfl, ⟨s47644, l47645, hS47646, rfl⟩⟩
      refine ⟨_, rfl, ?_⟩
      refine WL_step rfl rfl (Exec.assign (v := Value.bool (y47642)) rfl rfl ?_)
      refine WL_nil (at_normal ?_)
      refine W_ret (at_ret ?_)
      have e47648 := Option.some.inj hm
      subst r
      refine ⟨_, ret1 rfl, ?_⟩
      have hS47649 := (hS47646).drop
      exact ⟨s47644, (PHeap.le.trans l47628 l47645), hS47649, rfl⟩
    · refine W_cond_f p47631 hc47632 ?_
      replace hc47632 := not_true hc47632
      refine W_skip (at_normal ?_)
      refine W_seq ?_
      refine W_region ?_
      refine WL_step rfl rfl (Exec.load_box_agg (ds := [Value.int .i64 (x1.States), Value.int .i64 (x1.Init), v2, v4, v6]) (hS47629) A26 rfl p47630 rfl ?_)
      obtain ⟨t47672, q47673, hm⟩ := bind_some hm
      obtain ⟨y47674, y47675, y47676⟩ := t47672
      replace hm := un3_eq hm
      refine WL_step rfl rfl (Exec.call rfl rfl Try.func23 rfl N23 (args_cons rfl args_nil) ((transys_Trim_sim q47673 hS47629 (a3.mono l47628) (a5.mono l47628) (a7.mono l47628)).mono ?_))
      rintro _ w47677 ⟨_, rfl, ⟨s47678, v47681, v47682, v47683, v47684, l47679, hS47680, rfl, r47685, r47686, r47687, r47688⟩⟩
      refine ⟨_, rfl, ?_⟩
      refine WL_step rfl rfl (Exec.move (v := Value.tuple #[Value.agg #[Value.int .i64 (y47676.States), Value.int .i64 (y47676.Init), v47682, v47683, v47684], v47681, errV 39 (y47675)]) rfl rfl ?_)
      refine WL_step rfl rfl (Exec.extract (v := Value.agg #[Value.int .i64 (y47676.States), Value.int .i64 (y47676.Init), v47682, v47683, v47684]) rfl rfl rfl ?_)
      refine WL_step rfl rfl (Exec.extract (v := v47681) rfl rfl rfl ?_)
      refine WL_step rfl rfl (Exec.extract (v := errV 39 (y47675)) rfl rfl rfl ?_)
      refine WL_step rfl rfl (Exec.alloc (cs := [Value.int .i64 (0), Value.int .i64 (0), Value.slice none 0 0, Value.slice none 0 0, Value.slice none 0 0]) hS47680 Z26 rfl rfl ?_)
      intro b47689 w47690 hS47691
      refine WL_step rfl rfl (Exec.store_box (ds := [Value.int .i64 (y47676.States), Value.int .i64 (y47676.Init), v47682, v47683, v47684]) (es := [Value.int .i64 (y47676.States), Value.int .i64 (y47676.Init), v47682, v47683, v47684]) hS47691 A26 rfl rfl rfl rfl (one_cons rfl (one_cons rfl (one_cons (r47686).one (one_cons (r47687).one (one_cons (r47688).one one_nil))))) (Nat.le_of_ble_eq_true rfl) rfl ?_)
      intro w47692 hS47693
      refine WL_step rfl rfl (Exec.assign (v := v47681) rfl rfl ?_)
      refine WL_step rfl rfl (Exec.assign (v := errV 39 (y47675)) rfl rfl ?_)
      refine WL_nil (at_normal ?_)
      refine W_seq ?_
      refine W_region ?_
      refine WL_step rfl rfl (Exec.load_box_agg (ds := [Value.int .i64 (x1.States), Value.int .i64 (x1.Init), v2, v4, v6]) ((hS47693).f1) A26 rfl p47630 rfl ?_)
      obtain ⟨t47715, q47716, hm⟩ := bind_some hm
      obtain ⟨y47717, y47718⟩ := t47715
      replace hm := un2_eq hm
      refine WL_step rfl rfl (Exec.call rfl rfl Try.func24 rfl N24 (args_cons rfl args_nil) ((ref44_Trim_sim q47716 hS47693 (a3.mono (PHeap.le.trans l47628 l47679)) (a5.mono (PHeap.le.trans l47628 l47679)) (a7.mono (PHeap.le.trans l47628 l47679))).mono ?_))
      rintro _ w47719 ⟨_, rfl, ⟨s47720, v47723, v47724, v47725, v47726, l47721, hS47722, rfl, r47727, r47728, r47729, r47730⟩⟩
      refine ⟨_, rfl, ?_⟩
      refine WL_step rfl rfl (Exec.move (v := Value.tuple #[Value.agg #[Value.int .i64 (y47718.States), Value.int .i64 (y47718.Init), v47724, v47725, v47726], v47723]) rfl rfl ?_)
      refine WL_step rfl rfl (Exec.extract (v := Value.agg #[Value.int .i64 (y47718.States), Value.int .i64 (y47718.Init), v47724, v47725, v47726]) rfl rfl rfl ?_)
      refine WL_step rfl rfl (Exec.extract (v := v47723) rfl rfl rfl ?_)
      refine WL_step rfl rfl (Exec.alloc (cs := [Value.int .i64 (0), Value.int .i64 (0), Value.slice none 0 0, Value.slice none 0 0, Value.slice none 0 0]) hS47722 Z26 rfl rfl ?_)
      intro b47731 w47732 hS47733
      refine WL_step rfl rfl (Exec.store_box (ds := [Value.int .i64 (y47718.States), Value.int .i64 (y47718.Init), v47724, v47725, v47726]) (es := [Value.int .i64 (y47718.States), Value.int .i64 (y47718.Init), v47724, v47725, v47726]) hS47733 A26 rfl rfl rfl rfl (one_cons rfl (one_cons rfl (one_cons (r47728).one (one_cons (r47729).one (one_cons (r47730).one one_nil))))) (Nat.le_of_ble_eq_true rfl) rfl ?_)
      intro w47734 hS47735
      refine WL_step rfl rfl (Exec.assign (v := v47723) rfl rfl ?_)
      refine WL_nil (at_normal ?_)
      refine W_seq ?_
      refine W_seq ?_
      obtain ⟨z47752, ht47753, hm⟩ := bind_some hm
      refine W_mid (M := fun f' w' => (fun (z47752 : Bool) => ∃ (s47754 : PHeap) , PHeap.le s47720 s47754 ∧ St w0 s47754 (Res.box b47569 26 [Value.int .i64 (x1.States), Value.int .i64 (x1.Init), v2, v4, v6] :: Res.box b47689 26 [Value.int .i64 (y47676.States), Value.int .i64 (y47676.Init), v47682, v47683, v47684] :: H) w' ∧ f' 1 = Value.pointer (some ⟨b47569, 0, none⟩) ∧ f' 3 = Value.pointer (some ⟨b47689, 0, none⟩) ∧ f' 4 = v47681 ∧ f' 50 = Value.bool (z47752)) z47752) ?_ ?_
      · refine W_region ?_
        refine WL_step rfl rfl (Exec.move (v := errV 39 (y47675)) rfl rfl ?_)
        refine WL_step rfl rfl (Exec.err_neq_nil (T := 39) Try.underlying30 rfl rfl rfl ?_)
        refine WL_step rfl rfl (Exec.move (v := Value.bool (y47675.isSome)) rfl rfl ?_)
        rcases ite_some ht47753 with ⟨hc47755, ht47753⟩ | ⟨hc47755, ht47753⟩
        · refine WL_pass rfl (yield_of rfl (congrArg Value.bool hc47755)) rfl rfl ?_
          refine WL_pass rfl (yield_of rfl (congrArg Value.bool hc47755)) rfl rfl ?_
          refine WL_pass rfl (yield_of rfl (congrArg Value.bool hc47755)) rfl rfl ?_
          refine WL_pass rfl (yield_of rfl (congrArg Value.bool hc47755)) rfl rfl ?_
          refine WL_step rfl rfl (Exec.pick_t (v := Value.bool (true)) rfl (congrArg Value.bool hc47755) rfl ?_)
          refine WL_step rfl rfl (Exec.move (v := Value.bool (true)) rfl rfl ?_)
          refine WL_pass rfl (yield_of rfl rfl) rfl rfl ?_
          refine WL_pass rfl (yield_of rfl rfl) rfl rfl ?_
          refine WL_pass rfl (yield_of rfl rfl) rfl rfl ?_
          refine WL_pass rfl (yield_of rfl rfl) rfl rfl ?_
          refine WL_step rfl rfl (Exec.pick_t (v := Value.bool (true)) rfl rfl rfl ?_)
          refine WL_nil (at_normal ?_)
          have e47756 := Option.some.inj ht47753
          subst z47752
          have hS47757 := (hS47735).drop
          have hS47758 := (hS47757).f1
          exact ⟨s47720, (PHeap.le_refl _), hS47758, p47630, rfl, rfl, rfl⟩
        · replace hc47755 := not_true hc47755
          refine WL_run rfl (yield_of rfl (congrArg Value.bool hc47755)) rfl (Exec.load_box_agg (ds := [Value.int .i64 (y47676.States), Value.int .i64 (y47676.Init), v47682, v47683, v47684]) ((hS47735).f1) A26 rfl rfl rfl ?_)
          refine WL_run rfl (yield_of rfl (congrArg Value.bool hc47755)) rfl (Exec.load_box_agg (ds := [Value.int .i64 (y47718.States), Value.int .i64 (y47718.Init), v47724, v47725, v47726]) (hS47735) A26 rfl rfl rfl ?_)
          obtain ⟨y47761, q47760, ht47753⟩ := bind_some ht47753
          refine WL_run rfl (yield_of rfl (congrArg Value.bool hc47755)) rfl (Exec.call rfl rfl Try.func14 rfl N14 (args_cons rfl (args_cons rfl args_nil)) ((ref44_Same_sim q47760 hS47735 (r47686.mono l47721) (r47687.mono l47721) (r47688.mono l47721) r47728 r47729 r47730).mono ?_))
          rintro _ w47762 ⟨_, rfl, ⟨s47763, l47764, hS47765, rfl⟩⟩
          refine ⟨_, rfl, ?_⟩
          refine WL_run rfl (yield_of rfl (congrArg Value.bool hc47755)) rfl (Exec.not rfl rfl ?_)
          refine WL_step rfl rfl (Exec.pick_f (v := Value.bool (!y47761)) rfl (congrArg Value.bool hc47755) rfl ?_)
          refine WL_step rfl rfl (Exec.move (v := Value.bool (!y47761)) rfl rfl ?_)
          rcases ite_some ht47753 with ⟨hc47766, ht47753⟩ | ⟨hc47766, ht47753⟩
          · refine WL_pass rfl (yield_of rfl (congrArg Value.bool hc47766)) rfl rfl ?_
            refine WL_pass rfl (yield_of rfl (congrArg Value.bool hc47766)) rfl rfl ?_
            refine WL_pass rfl (yield_of rfl (congrArg Value.bool hc47766)) rfl rfl ?_
            refine WL_pass rfl (yield_of rfl (congrArg Value.bool hc47766)) rfl rfl ?_
            refine WL_step rfl rfl (Exec.pick_t (v := Value.bool (true)) rfl (congrArg Value.bool hc47766) rfl ?_)
            refine WL_nil (at_normal ?_)
            have e47767 := Option.some.inj ht47753
            subst z47752
            have hS47768 := (hS47765).drop
            have hS47769 := (hS47768).f1
            exact ⟨s47763, l47764, hS47769, p47630, rfl, rfl, rfl⟩
          · replace hc47766 := not_true hc47766
            refine WL_run rfl (yield_of rfl (congrArg Value.bool hc47766)) rfl (Exec.move (v := v47681) rfl rfl ?_)
            refine WL_run rfl (yield_of rfl (congrArg Value.bool hc47766)) rfl (Exec.move (v := v47723) rfl rfl ?_)
            obtain ⟨y47772, q47771, ht47753⟩ := bind_some ht47753
            refine WL_run rfl (yield_of rfl (congrArg Value.bool hc47766)) rfl (Exec.call rfl rfl Try.func20 rfl N20 (args_cons rfl (args_cons rfl args_nil)) ((base_Ints_sim q47771 hS47765 (r47685.mono (PHeap.le.trans l47721 l47764)) (r47727.mono l47764)).mono ?_))
            rintro _ w47773 ⟨_, rfl, ⟨s47774, l47775, hS47776, rfl⟩⟩
            refine ⟨_, rfl, ?_⟩
            refine WL_run rfl (yield_of rfl (congrArg Value.bool hc47766)) rfl (Exec.not rfl rfl ?_)
            refine WL_step rfl rfl (Exec.pick_f (v := Value.bool (!y47772)) rfl (congrArg Value.bool hc47766) rfl ?_)
            refine WL_nil (at_normal ?_)
            have e47777 := Option.some.inj ht47753
            subst z47752
            have hS47778 := (hS47776).drop
            have hS47779 := (hS47778).f1
            exact ⟨s47774, (PHeap.le.trans l47764 l47775), hS47779, p47630, rfl, rfl, rfl⟩
      · intro f47780 w47781 hM47782
        obtain ⟨s47783, l47784, hS47785, p47786, p47787, p47788, p47789⟩ := hM47782
        refine (at_normal ?_)
        rcases ite_some hm with ⟨hc47790, hm⟩ | ⟨hc47790, hm⟩
        · refine W_cond_t p47789 hc47790 ?_
          refine W_seq ?_
          refine W_region ?_
          refine WL_step rfl rfl (Exec.assign (v := Value.bool (false)) rfl rfl ?_)
          refine WL_nil (at_normal ?_)
          refine W_ret (at_ret ?_)
          have e47792 := Option.some.inj hm
          subst r
          refine ⟨_, ret1 rfl, ?_⟩
          have hS47793 := (hS47785).drop
          have hS47794 := (hS47793).drop
          exact ⟨s47783, (PHeap.le.trans (PHeap.le.trans (PHeap.le.trans l47628 l47679) l47721) l47784), hS47794, rfl⟩
        · refine W_cond_f p47789 hc47790 ?_
          replace hc47790 := not_true hc47790
          refine W_skip (at_normal ?_)
          refine W_seq ?_
          refine W_region ?_
          refine WL_step rfl rfl (Exec.load_box_agg (ds := [Value.int .i64 (x1.States), Value.int .i64 (x1.Init), v2, v4, v6]) (hS47785) A26 rfl p47786 rfl ?_)
          obtain ⟨t47805, q47806, hm⟩ := bind_some hm
          obtain ⟨y47807, y47808⟩ := t47805
          replace hm := un2_eq hm
          refine WL_step rfl rfl (Exec.call rfl rfl Try.func18 rfl N18 (args_cons rfl args_nil) ((transys_Distances_sim q47806 hS47785 (a3.mono (PHeap.le.trans (PHeap.le.trans (PHeap.le.trans l47628 l47679) l47721) l47784)) (a5.mono (PHeap.le.trans (PHeap.le.trans (PHeap.le.trans l47628 l47679) l47721) l47784)) (a7.mono (PHeap.le.trans (PHeap.le.trans (PHeap.le.trans l47628 l47679) l47721) l47784))).mono ?_))
          rintro _ w47809 ⟨_, rfl, ⟨s47810, v47813, l47811, hS47812, rfl, r47814⟩⟩
          refine ⟨_, rfl, ?_⟩
          refine WL_step rfl rfl (Exec.move (v := Value.tuple #[v47813, errV 39 (y47808)]) rfl rfl ?_)
          refine WL_step rfl rfl (Exec.extract (v := v47813) rfl rfl rfl ?_)
          refine WL_step rfl rfl (Exec.extract (v := errV 39 (y47808)) rfl rfl rfl ?_)
          refine WL_step rfl rfl (Exec.assign (v := v47813) rfl rfl ?_)
          refine WL_step rfl rfl (Exec.assign (v := errV 39 (y47808)) rfl rfl ?_)
          refine WL_nil (at_normal ?_)
          refine W_seq ?_
          refine W_region ?_
          refine WL_step rfl rfl (Exec.load_box_agg (ds := [Value.int .i64 (y47676.States), Value.int .i64 (y47676.Init), v47682, v47683, v47684]) ((hS47812).f1) A26 rfl p47787 rfl ?_)
          obtain ⟨t47825, q47826, hm⟩ := bind_some hm
          obtain ⟨y47827, y47828⟩ := t47825
          replace hm := un2_eq hm
          refine WL_step rfl rfl (Exec.call rfl rfl Try.func18 rfl N18 (args_cons rfl args_nil) ((transys_Distances_sim q47826 hS47812 (r47686.mono (PHeap.le.trans (PHeap.le.trans l47721 l47784) l47811)) (r47687.mono (PHeap.le.trans (PHeap.le.trans l47721 l47784) l47811)) (r47688.mono (PHeap.le.trans (PHeap.le.trans l47721 l47784) l47811))).mono ?_))
          rintro _ w47829 ⟨_, rfl, ⟨s47830, v47833, l47831, hS47832, rfl, r47834⟩⟩
          refine ⟨_, rfl, ?_⟩
          refine WL_step rfl rfl (Exec.move (v := Value.tuple #[v47833, errV 39 (y47828)]) rfl rfl ?_)
          refine WL_step rfl rfl (Exec.extract (v := v47833) rfl rfl rfl ?_)
          refine WL_step rfl rfl (Exec.extract (v := errV 39 (y47828)) rfl rfl rfl ?_)
          refine WL_step rfl rfl (Exec.assign (v := v47833) rfl rfl ?_)
          refine WL_step rfl rfl (Exec.assign (v := errV 39 (y47828)) rfl rfl ?_)
          refine WL_nil (at_normal ?_)
          refine W_seq ?_
          refine W_seq ?_
          refine W_mid (M := fun f' w' => ∃ (s47836 : PHeap) , PHeap.le s47830 s47836 ∧ St w0 s47836 (H) w' ∧ f' 4 = v47681 ∧ f' 8 = v47813 ∧ f' 10 = v47833 ∧ f' 66 = Value.bool ((y47808.isSome || y47828.isSome))) ?_ ?_
          · refine W_region ?_
            refine WL_step rfl rfl (Exec.move (v := errV 39 (y47808)) rfl rfl ?_)
            refine WL_step rfl rfl (Exec.err_neq_nil (T := 39) Try.underlying30 rfl rfl rfl ?_)
            refine WL_step rfl rfl (Exec.move (v := Value.bool (y47808.isSome)) rfl rfl ?_)
            by_cases hc47837 : y47808.isSome = true
            · refine WL_pass rfl (yield_of rfl (congrArg Value.bool hc47837)) rfl rfl ?_
              refine WL_pass rfl (yield_of rfl (congrArg Value.bool hc47837)) rfl rfl ?_
              refine WL_step rfl rfl (Exec.pick_t (v := Value.bool (true)) rfl (congrArg Value.bool hc47837) rfl ?_)
              refine WL_nil (at_normal ?_)
              have hS47838 := (hS47832).drop
              have hS47839 := (hS47838).drop
              exact ⟨s47830, (PHeap.le_refl _), hS47839, p47788, rfl, rfl, (congrArg Value.bool (or_t hc47837)).symm⟩
            · replace hc47837 := not_true hc47837
              refine WL_run rfl (yield_of rfl (congrArg Value.bool hc47837)) rfl (Exec.move (v := errV 39 (y47828)) rfl rfl ?_)
              refine WL_run rfl (yield_of rfl (congrArg Value.bool hc47837)) rfl (Exec.err_neq_nil (T := 39) Try.underlying30 rfl rfl rfl ?_)
              refine WL_step rfl rfl (Exec.pick_f (v := Value.bool (y47828.isSome)) rfl (congrArg Value.bool hc47837) rfl ?_)
              refine WL_nil (at_normal ?_)
              have hS47840 := (hS47832).drop
              have hS47841 := (hS47840).drop
              exact ⟨s47830, (PHeap.le_refl _), hS47841, p47788, rfl, rfl, (congrArg Value.bool (or_f hc47837)).symm⟩
          · intro f47842 w47843 hM47844
            obtain ⟨s47845, l47846, hS47847, p47848, p47849, p47850, p47851⟩ := hM47844
            refine (at_normal ?_)
            rcases ite_some hm with ⟨hc47852, hm⟩ | ⟨hc47852, hm⟩
            · refine W_cond_t p47851 hc47852 ?_
              refine W_seq ?_
              refine W_region ?_
              refine WL_step rfl rfl (Exec.assign (v := Value.bool (false)) rfl rfl ?_)
              refine WL_nil (at_normal ?_)
              refine W_ret (at_ret ?_)
              have e47854 := Option.some.inj hm
              subst r
              refine ⟨_, ret1 rfl, ?_⟩
              exact ⟨s47845, (PHeap.le.trans (PHeap.le.trans (PHeap.le.trans (PHeap.le.trans (PHeap.le.trans (PHeap.le.trans l47628 l47679) l47721) l47784) l47811) l47831) l47846), hS47847, rfl⟩
            · refine W_cond_f p47851 hc47852 ?_
              replace hc47852 := not_true hc47852
              refine W_skip (at_normal ?_)
              refine W_seq ?_
              refine W_seq ?_
              refine W_region ?_
              refine WL_step rfl rfl (Exec.move (v := v47681) rfl p47848 ?_)
              refine WL_step rfl rfl (Exec.len_rep S22 rfl rfl (r47685.mono (PHeap.le.trans (PHeap.le.trans (PHeap.le.trans (PHeap.le.trans l47721 l47784) l47811) l47831) l47846)) ?_)
              refine WL_step rfl rfl (Exec.move (v := Value.int .i64 (0)) rfl rfl ?_)
              refine WL_nil (at_normal ?_)
              obtain ⟨c48076, hB48077, hr48078, hn48079, hb48080⟩ := ctl_some hm
              refine W_mid (M := fun f' w' => ∃ s', (c48076 = .next s' ∨ c48076 = .brk s') ∧ (fun (_ : Unit) => ∃ (s48082 : PHeap) , PHeap.le s47845 s48082 ∧ St w0 s48082 (H) w' ∧ f' 8 = v47813 ∧ f' 10 = v47833 ∧ f' 67 = v47681 ∧ f' 68 = Value.int .i64 ((y47674.length : Int))) s') ?_ ?_
              · refine W_block (W_forC (fun k' s' f' w' => (fun (_ : Unit) => ∃ (s48081 : PHeap) , PHeap.le s47845 s48081 ∧ St w0 s48081 (H) w' ∧ f' 8 = v47813 ∧ f' 10 = v47833 ∧ f' 67 = v47681 ∧ f' 68 = Value.int .i64 ((y47674.length : Int)) ∧ f' 69 = Value.int .i64 (k' : Int)) s') hB48077 ?_ ?_ ?_)
                · exact ⟨s47845, (PHeap.le_refl _), hS47847, p47849, p47850, rfl, rfl, rfl⟩
                · intro i47855 t48090 c48084 f48085 w48086 hi48091 hI48087 hm48088 hres48089
                  obtain ⟨s48092, l48093, hS48094, p48095, p48096, p48097, p48098, x48099⟩ := hI48087
                  refine W_seq ?_
                  refine W_region ?_
                  refine WL_step rfl rfl (Exec.lss rfl x48099 p48098 ?_)
                  refine WL_nil (at_normal ?_)
                  refine W_seq ?_
                  refine W_true (congrArg Value.bool (decide_eq_true (by omega))) ?_
                  refine W_skip (at_normal ?_)
                  refine W_seq ?_
                  refine W_block ?_
                  refine W_seq ?_
                  refine W_region ?_
                  refine WL_step rfl rfl (Exec.move (v := Value.int .i64 ((i47855 : Int))) rfl x48099 ?_)
                  obtain ⟨x48107, q48108, hm48088⟩ := bind_some hm48088
                  refine WL_step rfl rfl (Exec.index_rep S22 rfl p48097 x48099 (r47685.mono (PHeap.le.trans (PHeap.le.trans (PHeap.le.trans (PHeap.le.trans (PHeap.le.trans l47721 l47784) l47811) l47831) l47846) l48093)) q48108 ?_)
                  intro b48109 o48110 a48111
                  refine WL_step rfl rfl (Exec.load_at (E := (encInt .i64)) hS48094 A3 rfl rfl rfl a48111 ?_)
                  intro v48112 q48113
                  obtain rfl := encInt_val.1 q48113
                  refine WL_step rfl rfl (Exec.assign (v := Value.int .i64 ((i47855 : Int))) rfl rfl ?_)
                  refine WL_step rfl rfl (Exec.assign (v := Value.int .i64 (x48107)) rfl rfl ?_)
                  refine WL_nil (at_normal ?_)
                  refine W_seq ?_
                  obtain ⟨z48152, ht48153, hm48088⟩ := bind_some hm48088
                  refine W_mid (M := fun f' w' => (fun (z48152 : Bool) => ∃ (s48154 : PHeap) , PHeap.le s48092 s48154 ∧ St w0 s48154 (H) w' ∧ f' 8 = v47813 ∧ f' 10 = v47833 ∧ f' 67 = v47681 ∧ f' 68 = Value.int .i64 ((y47674.length : Int)) ∧ f' 69 = Value.int .i64 ((i47855 : Int)) ∧ f' 92 = Value.bool (z48152)) z48152) ?_ ?_
                  · refine W_dl (n0 := 19) (.q 0 (.q 1 (.q 2 (.q 3 (.q 4 (.q 5 (.q 6 (.q 7 (.q 8 (.q 9 (.q 10 (.q 11 (.q 12 (.q 13 (.q 14 (.q 15 (.q 16 (.q 17 (.q 18 .done))))))))))))))))))) hmix (by kernel_rfl) (by kernel_rfl) ?_
                    have hS48174 := hS48094.drew
                    refine DL_q rfl rfl (Exec.move (v := Value.int .i64 (x48107)) rfl rfl ⟨rfl, ?_⟩)
                    refine DL_q rfl rfl (Exec.geq rfl rfl rfl ⟨rfl, ?_⟩)
                    refine DL_q rfl rfl (Exec.move (v := Value.bool (decide (0 ≤ x48107))) rfl rfl ⟨rfl, ?_⟩)
                    rcases ite_some ht48153 with ⟨hc48175, ht48153⟩ | ⟨hc48175, ht48153⟩
                    · refine DL_qg rfl rfl (yield_of rfl (congrArg Value.bool hc48175)) (Exec.move (v := Value.int .i64 (x48107)) rfl rfl ⟨rfl, ?_⟩)
                      refine DL_qg rfl rfl (yield_of rfl (congrArg Value.bool hc48175)) (Exec.move (v := v47833) rfl p48096 ⟨rfl, ?_⟩)
                      refine DL_qg rfl rfl (yield_of rfl (congrArg Value.bool hc48175)) (Exec.len_rep S22 rfl rfl (r47834.mono (PHeap.le.trans l47846 l48093)) ⟨rfl, ?_⟩)
                      refine DL_qg rfl rfl (yield_of rfl (congrArg Value.bool hc48175)) (Exec.geq rfl rfl rfl ⟨rfl, ?_⟩)
                      refine DL_qg rfl rfl (yield_of rfl (congrArg Value.bool hc48175)) (Exec.move (v := Value.bool (decide ((y47827.length : Int) ≤ x48107))) rfl rfl ⟨rfl, ?_⟩)
                      rcases ite_some ht48153 with ⟨hc48176, ht48153⟩ | ⟨hc48176, ht48153⟩
                      · refine DL_qp rfl rfl (yield_of rfl (congrArg Value.bool hc48176)) rfl ?_
                        refine DL_qp rfl rfl (yield_of rfl (congrArg Value.bool hc48176)) rfl ?_
                        refine DL_qp rfl rfl (yield_of rfl (congrArg Value.bool hc48176)) rfl ?_
                        refine DL_qp rfl rfl (yield_of rfl (congrArg Value.bool hc48176)) rfl ?_
                        refine DL_qp rfl rfl (yield_of rfl (congrArg Value.bool hc48176)) rfl ?_
                        refine DL_qp rfl rfl (yield_of rfl (congrArg Value.bool hc48176)) rfl ?_
                        refine DL_qp rfl rfl (yield_of rfl (congrArg Value.bool hc48176)) rfl ?_
                        refine DL_qp rfl rfl (yield_of rfl (congrArg Value.bool hc48176)) rfl ?_
                        refine DL_qp rfl rfl (yield_of rfl (congrArg Value.bool hc48176)) rfl ?_
                        refine DL_qg rfl rfl (yield_of rfl (congrArg Value.bool hc48175)) (Exec.pick_t (v := Value.bool (true)) rfl (congrArg Value.bool hc48176) rfl ⟨rfl, ?_⟩)
                        refine DL_q rfl rfl (Exec.pick_t (v := Value.bool (true)) rfl (congrArg Value.bool hc48175) rfl ⟨rfl, ?_⟩)
                        refine DL_done ?_
                        refine WL_nil (at_normal ?_)
                        have e48177 := Option.some.inj ht48153
                        subst z48152
                        exact ⟨s48092, (PHeap.le_refl _), hS48174, p48095, p48096, p48097, p48098, x48099, rfl⟩
                      · replace hc48176 := not_true hc48176
                        refine DL_qg rfl rfl (yield_of rfl (congrArg Value.bool hc48176)) (Exec.move (v := v47813) rfl p48095 ⟨rfl, ?_⟩)
                        refine DL_qg rfl rfl (yield_of rfl (congrArg Value.bool hc48176)) (Exec.move (v := Value.int .i64 ((i47855 : Int))) rfl rfl ⟨rfl, ?_⟩)
                        obtain ⟨x48178, q48179, ht48153⟩ := bind_some ht48153
                        refine DL_qg rfl rfl (yield_of rfl (congrArg Value.bool hc48176)) (Exec.index_repE S22 rfl rfl rfl (r47814.mono (PHeap.le.trans (PHeap.le.trans l47831 l47846) l48093)) q48179 ?_)
                        intro b48180 o48181 a48182 e48183
                        refine ⟨rfl, ?_⟩
                        refine DL_qg rfl rfl (yield_of rfl (congrArg Value.bool hc48176)) (Exec.load_at (E := (encInt .i64)) hS48174 A3 rfl rfl rfl a48182 ?_)
                        intro v48184 q48185
                        obtain rfl := encInt_val.1 q48185
                        refine ⟨rfl, ?_⟩
                        refine DL_qg rfl rfl (yield_of rfl (congrArg Value.bool hc48176)) (Exec.move (v := v47833) rfl p48096 ⟨rfl, ?_⟩)
                        refine DL_qg rfl rfl (yield_of rfl (congrArg Value.bool hc48176)) (Exec.move (v := Value.int .i64 (x48107)) rfl rfl ⟨rfl, ?_⟩)
                        obtain ⟨x48186, q48187, ht48153⟩ := bind_some ht48153
                        refine DL_qg rfl rfl (yield_of rfl (congrArg Value.bool hc48176)) (Exec.index_repE S22 rfl rfl rfl (r47834.mono (PHeap.le.trans l47846 l48093)) q48187 ?_)
                        intro b48188 o48189 a48190 e48191
                        refine ⟨rfl, ?_⟩
                        refine DL_qg rfl rfl (yield_of rfl (congrArg Value.bool hc48176)) (Exec.load_at (E := (encInt .i64)) hS48174 A3 rfl rfl rfl a48190 ?_)
                        intro v48192 q48193
                        obtain rfl := encInt_val.1 q48193
                        refine ⟨rfl, ?_⟩
                        refine DL_qg rfl rfl (yield_of rfl (congrArg Value.bool hc48176)) (Exec.neq rfl rfl rfl ⟨rfl, ?_⟩)
                        refine DL_qg rfl rfl (yield_of rfl (congrArg Value.bool hc48175)) (Exec.pick_f (v := Value.bool (!decide (x48178 = x48186))) rfl (congrArg Value.bool hc48176) rfl ⟨rfl, ?_⟩)
                        refine DL_q rfl rfl (Exec.pick_t (v := Value.bool (!decide (x48178 = x48186))) rfl (congrArg Value.bool hc48175) rfl ⟨rfl, ?_⟩)
                        refine DL_done ?_
                        refine WL_nil (at_normal ?_)
                        have e48194 := Option.some.inj ht48153
                        subst z48152
                        exact ⟨s48092, (PHeap.le_refl _), hS48174, p48095, p48096, p48097, p48098, x48099, rfl⟩
                    · replace hc48175 := not_true hc48175
                      refine DL_qp rfl rfl (yield_of rfl (congrArg Value.bool hc48175)) rfl ?_
                      refine DL_qp rfl rfl (yield_of rfl (congrArg Value.bool hc48175)) rfl ?_
                      refine DL_qp rfl rfl (yield_of rfl (congrArg Value.bool hc48175)) rfl ?_
                      refine DL_qp rfl rfl (yield_of rfl (congrArg Value.bool hc48175)) rfl ?_
                      refine DL_qp rfl rfl (yield_of rfl (congrArg Value.bool hc48175)) rfl ?_
                      refine DL_qn rfl rfl (yield_undef rfl rfl) ?_
                      refine DL_qn rfl rfl (yield_undef rfl rfl) ?_
                      refine DL_qn rfl rfl (yield_undef rfl rfl) ?_
                      refine DL_qn rfl rfl (yield_undef rfl rfl) ?_
                      refine DL_qn rfl rfl (yield_undef rfl rfl) ?_
                      refine DL_qn rfl rfl (yield_undef rfl rfl) ?_
                      refine DL_qn rfl rfl (yield_undef rfl rfl) ?_
                      refine DL_qn rfl rfl (yield_undef rfl rfl) ?_
                      refine DL_qn rfl rfl (yield_undef rfl rfl) ?_
                      refine DL_qp rfl rfl (yield_of rfl (congrArg Value.bool hc48175)) rfl ?_
                      refine DL_q rfl rfl (Exec.pick_f (v := Value.bool (false)) rfl (congrArg Value.bool hc48175) rfl ⟨rfl, ?_⟩)
                      refine DL_done ?_
                      refine WL_nil (at_normal ?_)
                      have e48195 := Option.some.inj ht48153
                      subst z48152
                      exact ⟨s48092, (PHeap.le_refl _), hS48174, p48095, p48096, p48097, p48098, x48099, rfl⟩
                  · intro f48196 w48197 hM48198
                    obtain ⟨s48199, l48200, hS48201, p48202, p48203, p48204, p48205, p48206, p48207⟩ := hM48198
                    refine (at_normal ?_)
                    rcases ite_some hm48088 with ⟨hc48208, hm48088⟩ | ⟨hc48208, hm48088⟩
                    · refine W_cond_t p48207 hc48208 ?_
                      refine W_seq ?_
                      refine W_region ?_
                      refine WL_step rfl rfl (Exec.assign (v := Value.bool (false)) rfl rfl ?_)
                      refine WL_nil (at_normal ?_)
                      refine W_ret (ib_ret (at_ret (at_ret (ib_ret (at_ret (at_ret ?_))))))
                      have e48209 := Option.some.inj hm48088
                      subst c48084
                      have hq48210 := hr48078 _ (hres48089 (by intro _ h; cases h))
                      have e48211 := Option.some.inj hq48210
                      subst r
                      refine ⟨_, ret1 rfl, ?_⟩
                      exact ⟨s48199, (PHeap.le.trans (PHeap.le.trans (PHeap.le.trans (PHeap.le.trans (PHeap.le.trans (PHeap.le.trans (PHeap.le.trans (PHeap.le.trans l47628 l47679) l47721) l47784) l47811) l47831) l47846) l48093) l48200), hS48201, rfl⟩
                    · refine W_cond_f p48207 hc48208 ?_
                      replace hc48208 := not_true hc48208
                      refine W_skip (ib_normal (at_normal ?_))
                      refine W_region ?_
                      refine WL_step rfl rfl (Exec.add rfl p48206 rfl ?_)
                      refine WL_step rfl rfl (Exec.move (v := Value.int .i64 (IntKind.i64.wrap ((i47855 : Int) + 1))) rfl rfl ?_)
                      refine WL_nil (at_normal ?_)
                      have e48212 := Option.some.inj hm48088
                      subst c48084
                      refine ⟨_, rfl, ?_⟩; exact ⟨s48199, (PHeap.le.trans l48093 l48200), hS48201, p48202, p48203, p48204, p48205, (Eq.trans rfl (wrap_up hi48091 (SliceRep.le (r47685.mono (PHeap.le.trans (PHeap.le.trans (PHeap.le.trans (PHeap.le.trans l47721 l47784) l47811) l47831) l47846)))))⟩
                · intro t48213 f48214 w48215 hI48216 hres48217
                  obtain ⟨s48218, l48219, hS48220, p48221, p48222, p48223, p48224, x48225⟩ := hI48216
                  refine W_seq ?_
                  refine W_region ?_
                  refine WL_step rfl rfl (Exec.lss rfl x48225 p48224 ?_)
                  refine WL_nil (at_normal ?_)
                  refine W_seq ?_
                  refine W_false (congrArg Value.bool (decide_eq_false (by omega))) ?_
                  refine W_exit (at_exit (at_exit (ib_here (at_normal ?_))))
                  refine ⟨_, .inl hres48217, ?_⟩; exact ⟨s48218, l48219, hS48220, p48221, p48222, p48223, p48224⟩
              · rintro f48226 w48227 ⟨t48228, hc48229, hM48230⟩
                have hm := hc48229.elim (hn48079 _) (hb48080 _)
                clear hc48229
                obtain ⟨s48231, l48232, hS48233, p48234, p48235, p48236, p48237⟩ := hM48230
                refine (at_normal ?_)
                refine W_seq ?_
                refine W_region ?_
                refine WL_step rfl rfl (Exec.assign (v := Value.bool (true)) rfl rfl ?_)
                refine WL_nil (at_normal ?_)
                refine W_ret ?_
                have e48239 := Option.some.inj hm
                subst r
                refine ⟨_, ret1 rfl, ?_⟩
                exact ⟨s48231, (PHeap.le.trans (PHeap.le.trans (PHeap.le.trans (PHeap.le.trans (PHeap.le.trans (PHeap.le.trans (PHeap.le.trans l47628 l47679) l47721) l47784) l47811) l47831) l47846) l48232), hS48233, rfl⟩

end Go.Pw
