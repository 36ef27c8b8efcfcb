/-
  The walks (printed by my generator).
-/
import Derived.Test.YtdhfofhginfdnaaDi1
set_option maxRecDepth 100000
set_option maxHeartbeats 4000000
set_option linter.unusedVariables false
namespace Go.Pw
open Go.Proofs
theorem law44_large_sim {w0 w : World} {s : PHeap} {H : List Res} {x25720 : System} {v25721 : Value} {v25723 : Value} {v25725 : Value} {r : Bool} (hm : law44_large_p x25720 = some r) (hS : St w0 s (H) w) (a25722 : SliceRep (encInt .i64) s v25721 x25720.Costs) (a25724 : SliceRep encEdge s v25723 x25720.Edges) (a25726 : SliceRep encBool s v25725 x25720.Goals) :
    Calls Try.prog 11 #[Value.agg #[Value.int .i64 (x25720.States), Value.int .i64 (x25720.Init), v25721, v25723, v25725]] w fun e w' => ∃ v, e = .returned v ∧ ((fun (y27093 : Bool) => ∃ (s27094 : PHeap) , PHeap.le s s27094 ∧ St w0 s27094 (H) w' ∧ v = Value.bool (y27093)) r) := by
  unfold law44_large_p at hm
  refine calls_of_W Try.func11 rfl rfl ?_
  refine W_seq ?_
  refine W_region ?_
  refine WL_step rfl rfl (Exec.box (cs := [Value.int .i64 (x25720.States), Value.int .i64 (x25720.Init), v25721, v25723, v25725]) hS rfl rfl rfl ?_)
  intro b27098 w27099 hS27100
  refine WL_step rfl rfl (Exec.assign (v := Value.bool (false)) rfl rfl ?_)
  refine WL_nil (at_normal ?_)
  refine W_seq ?_
  obtain ⟨z27114, ht27115, hm⟩ := bind_some hm
  refine W_mid (M := fun f' w' => (fun (z27114 : Bool) => ∃ (s27116 : PHeap) , PHeap.le s s27116 ∧ St w0 s27116 (H) w' ∧ f' 2 = Value.bool (z27114)) z27114) ?_ ?_
  · refine W_region ?_
    refine WL_step rfl rfl (Exec.field F26_0 rfl rfl rfl ?_)
    refine WL_step rfl rfl (Exec.load_box (hS27100) A3 rfl rfl rfl ?_)
    refine WL_step rfl rfl (Exec.gtr rfl rfl rfl ?_)
    refine WL_step rfl rfl (Exec.move (v := Value.bool (decide (40 < x25720.States))) rfl rfl ?_)
    rcases ite_some ht27115 with ⟨hc27117, ht27115⟩ | ⟨hc27117, ht27115⟩
    · refine WL_run rfl (yield_of rfl (congrArg Value.bool hc27117)) rfl (Exec.load_box_agg (ds := [Value.int .i64 (x25720.States), Value.int .i64 (x25720.Init), v25721, v25723, v25725]) (hS27100) A26 rfl rfl rfl ?_)
      obtain ⟨y27120, q27119, ht27115⟩ := bind_some ht27115
      refine WL_run rfl (yield_of rfl (congrArg Value.bool hc27117)) rfl (Exec.call rfl rfl Try.func17 rfl N17 (args_cons rfl args_nil) ((ref44_Valid_sim q27119 hS27100 a25722 a25724 a25726).mono ?_))
      rintro _ w27121 ⟨_, rfl, ⟨s27122, l27123, hS27124, rfl⟩⟩
      refine ⟨_, rfl, ?_⟩
      refine WL_step rfl rfl (Exec.pick_t (v := Value.bool (y27120)) rfl (congrArg Value.bool hc27117) rfl ?_)
      refine WL_step rfl rfl (Exec.move (v := Value.bool (y27120)) rfl rfl ?_)
      rcases ite_some ht27115 with ⟨hc27125, ht27115⟩ | ⟨hc27125, ht27115⟩
      · refine WL_pass rfl (yield_of rfl (congrArg Value.bool hc27125)) rfl rfl ?_
        refine WL_pass rfl (yield_of rfl (congrArg Value.bool hc27125)) rfl rfl ?_
        refine WL_pass rfl (yield_of rfl (congrArg Value.bool hc27125)) rfl rfl ?_
        refine WL_pass rfl (yield_of rfl (congrArg Value.bool hc27125)) rfl rfl ?_
        refine WL_step rfl rfl (Exec.pick_t (v := Value.bool (true)) rfl (congrArg Value.bool hc27125) rfl ?_)
        refine WL_step rfl rfl (Exec.move (v := Value.bool (true)) rfl rfl ?_)
        refine WL_pass rfl (yield_of rfl rfl) rfl rfl ?_
        refine WL_pass rfl (yield_of rfl rfl) rfl rfl ?_
        refine WL_pass rfl (yield_of rfl rfl) rfl rfl ?_
        refine WL_pass rfl (yield_of rfl rfl) rfl rfl ?_
        refine WL_step rfl rfl (Exec.pick_t (v := Value.bool (true)) rfl rfl rfl ?_)
        refine WL_step rfl rfl (Exec.move (v := Value.bool (true)) rfl rfl ?_)
        refine WL_pass rfl (yield_of rfl rfl) rfl rfl ?_
        refine WL_pass rfl (yield_of rfl rfl) rfl rfl ?_
        refine WL_pass rfl (yield_of rfl rfl) rfl rfl ?_
        refine WL_pass rfl (yield_of rfl rfl) rfl rfl ?_
        refine WL_step rfl rfl (Exec.pick_t (v := Value.bool (true)) rfl rfl rfl ?_)
        refine WL_step rfl rfl (Exec.assign (v := Value.bool (true)) rfl rfl ?_)
        refine WL_nil (at_normal ?_)
        have e27126 := Option.some.inj ht27115
        subst z27114
        have hS27127 := (hS27124).drop
        exact ⟨s27122, l27123, hS27127, rfl⟩
      · replace hc27125 := not_true hc27125
        refine WL_run rfl (yield_of rfl (congrArg Value.bool hc27125)) rfl (Exec.field F26_4 rfl rfl rfl ?_)
        refine WL_run rfl (yield_of rfl (congrArg Value.bool hc27125)) rfl (Exec.load_box (hS27124) A24 rfl rfl rfl ?_)
        refine WL_run rfl (yield_of rfl (congrArg Value.bool hc27125)) rfl (Exec.len_rep S24 rfl rfl (a25726.mono l27123) ?_)
        refine WL_run rfl (yield_of rfl (congrArg Value.bool hc27125)) rfl (Exec.gtr rfl rfl rfl ?_)
        refine WL_step rfl rfl (Exec.pick_f (v := Value.bool (decide (5000 < (x25720.Goals.length : Int)))) rfl (congrArg Value.bool hc27125) rfl ?_)
        refine WL_step rfl rfl (Exec.move (v := Value.bool (decide (5000 < (x25720.Goals.length : Int)))) rfl rfl ?_)
        rcases ite_some ht27115 with ⟨hc27128, ht27115⟩ | ⟨hc27128, ht27115⟩
        · refine WL_pass rfl (yield_of rfl (congrArg Value.bool hc27128)) rfl rfl ?_
          refine WL_pass rfl (yield_of rfl (congrArg Value.bool hc27128)) rfl rfl ?_
          refine WL_pass rfl (yield_of rfl (congrArg Value.bool hc27128)) rfl rfl ?_
          refine WL_pass rfl (yield_of rfl (congrArg Value.bool hc27128)) rfl rfl ?_
          refine WL_step rfl rfl (Exec.pick_t (v := Value.bool (true)) rfl (congrArg Value.bool hc27128) rfl ?_)
          refine WL_step rfl rfl (Exec.move (v := Value.bool (true)) rfl rfl ?_)
          refine WL_pass rfl (yield_of rfl rfl) rfl rfl ?_
          refine WL_pass rfl (yield_of rfl rfl) rfl rfl ?_
          refine WL_pass rfl (yield_of rfl rfl) rfl rfl ?_
          refine WL_pass rfl (yield_of rfl rfl) rfl rfl ?_
          refine WL_step rfl rfl (Exec.pick_t (v := Value.bool (true)) rfl rfl rfl ?_)
          refine WL_step rfl rfl (Exec.assign (v := Value.bool (true)) rfl rfl ?_)
          refine WL_nil (at_normal ?_)
          have e27129 := Option.some.inj ht27115
          subst z27114
          have hS27130 := (hS27124).drop
          exact ⟨s27122, l27123, hS27130, rfl⟩
        · replace hc27128 := not_true hc27128
          refine WL_run rfl (yield_of rfl (congrArg Value.bool hc27128)) rfl (Exec.field F26_3 rfl rfl rfl ?_)
          refine WL_run rfl (yield_of rfl (congrArg Value.bool hc27128)) rfl (Exec.load_box (hS27124) A23 rfl rfl rfl ?_)
          refine WL_run rfl (yield_of rfl (congrArg Value.bool hc27128)) rfl (Exec.len_rep S23 rfl rfl (a25724.mono l27123) ?_)
          refine WL_run rfl (yield_of rfl (congrArg Value.bool hc27128)) rfl (Exec.gtr rfl rfl rfl ?_)
          refine WL_step rfl rfl (Exec.pick_f (v := Value.bool (decide (150 < (x25720.Edges.length : Int)))) rfl (congrArg Value.bool hc27128) rfl ?_)
          refine WL_step rfl rfl (Exec.move (v := Value.bool (decide (150 < (x25720.Edges.length : Int)))) rfl rfl ?_)
          rcases ite_some ht27115 with ⟨hc27131, ht27115⟩ | ⟨hc27131, ht27115⟩
          · refine WL_pass rfl (yield_of rfl (congrArg Value.bool hc27131)) rfl rfl ?_
            refine WL_pass rfl (yield_of rfl (congrArg Value.bool hc27131)) rfl rfl ?_
            refine WL_pass rfl (yield_of rfl (congrArg Value.bool hc27131)) rfl rfl ?_
            refine WL_pass rfl (yield_of rfl (congrArg Value.bool hc27131)) rfl rfl ?_
            refine WL_step rfl rfl (Exec.pick_t (v := Value.bool (true)) rfl (congrArg Value.bool hc27131) rfl ?_)
            refine WL_step rfl rfl (Exec.assign (v := Value.bool (true)) rfl rfl ?_)
            refine WL_nil (at_normal ?_)
            have e27132 := Option.some.inj ht27115
            subst z27114
            have hS27133 := (hS27124).drop
            exact ⟨s27122, l27123, hS27133, rfl⟩
          · replace hc27131 := not_true hc27131
            refine WL_run rfl (yield_of rfl (congrArg Value.bool hc27131)) rfl (Exec.field F26_2 rfl rfl rfl ?_)
            refine WL_run rfl (yield_of rfl (congrArg Value.bool hc27131)) rfl (Exec.load_box (hS27124) A22 rfl rfl rfl ?_)
            refine WL_run rfl (yield_of rfl (congrArg Value.bool hc27131)) rfl (Exec.len_rep S22 rfl rfl (a25722.mono l27123) ?_)
            refine WL_run rfl (yield_of rfl (congrArg Value.bool hc27131)) rfl (Exec.gtr rfl rfl rfl ?_)
            refine WL_step rfl rfl (Exec.pick_f (v := Value.bool (decide (40 < (x25720.Costs.length : Int)))) rfl (congrArg Value.bool hc27131) rfl ?_)
            refine WL_step rfl rfl (Exec.assign (v := Value.bool (decide (40 < (x25720.Costs.length : Int)))) rfl rfl ?_)
            refine WL_nil (at_normal ?_)
            have e27134 := Option.some.inj ht27115
            subst z27114
            have hS27135 := (hS27124).drop
            exact ⟨s27122, l27123, hS27135, rfl⟩
    · replace hc27117 := not_true hc27117
      refine WL_pass rfl (yield_of rfl (congrArg Value.bool hc27117)) rfl rfl ?_
      refine WL_pass rfl (yield_of rfl (congrArg Value.bool hc27117)) rfl rfl ?_
      refine WL_step rfl rfl (Exec.pick_f (v := Value.bool (false)) rfl (congrArg Value.bool hc27117) rfl ?_)
      refine WL_step rfl rfl (Exec.move (v := Value.bool (false)) rfl rfl ?_)
      refine WL_run rfl (yield_of rfl rfl) rfl (Exec.field F26_4 rfl rfl rfl ?_)
      refine WL_run rfl (yield_of rfl rfl) rfl (Exec.load_box (hS27100) A24 rfl rfl rfl ?_)
      refine WL_run rfl (yield_of rfl rfl) rfl (Exec.len_rep S24 rfl rfl a25726 ?_)
      refine WL_run rfl (yield_of rfl rfl) rfl (Exec.gtr rfl rfl rfl ?_)
      refine WL_step rfl rfl (Exec.pick_f (v := Value.bool (decide (5000 < (x25720.Goals.length : Int)))) rfl rfl rfl ?_)
      refine WL_step rfl rfl (Exec.move (v := Value.bool (decide (5000 < (x25720.Goals.length : Int)))) rfl rfl ?_)
      rcases ite_some ht27115 with ⟨hc27136, ht27115⟩ | ⟨hc27136, ht27115⟩
      · refine WL_pass rfl (yield_of rfl (congrArg Value.bool hc27136)) rfl rfl ?_
        refine WL_pass rfl (yield_of rfl (congrArg Value.bool hc27136)) rfl rfl ?_
        refine WL_pass rfl (yield_of rfl (congrArg Value.bool hc27136)) rfl rfl ?_
        refine WL_pass rfl (yield_of rfl (congrArg Value.bool hc27136)) rfl rfl ?_
        refine WL_step rfl rfl (Exec.pick_t (v := Value.bool (true)) rfl (congrArg Value.bool hc27136) rfl ?_)
        refine WL_step rfl rfl (Exec.move (v := Value.bool (true)) rfl rfl ?_)
        refine WL_pass rfl (yield_of rfl rfl) rfl rfl ?_
        refine WL_pass rfl (yield_of rfl rfl) rfl rfl ?_
        refine WL_pass rfl (yield_of rfl rfl) rfl rfl ?_
        refine WL_pass rfl (yield_of rfl rfl) rfl rfl ?_
        refine WL_step rfl rfl (Exec.pick_t (v := Value.bool (true)) rfl rfl rfl ?_)
        refine WL_step rfl rfl (Exec.assign (v := Value.bool (true)) rfl rfl ?_)
        refine WL_nil (at_normal ?_)
        have e27137 := Option.some.inj ht27115
        subst z27114
        have hS27138 := (hS27100).drop
        exact ⟨s, (PHeap.le_refl _), hS27138, rfl⟩
      · replace hc27136 := not_true hc27136
        refine WL_run rfl (yield_of rfl (congrArg Value.bool hc27136)) rfl (Exec.field F26_3 rfl rfl rfl ?_)
        refine WL_run rfl (yield_of rfl (congrArg Value.bool hc27136)) rfl (Exec.load_box (hS27100) A23 rfl rfl rfl ?_)
        refine WL_run rfl (yield_of rfl (congrArg Value.bool hc27136)) rfl (Exec.len_rep S23 rfl rfl a25724 ?_)
        refine WL_run rfl (yield_of rfl (congrArg Value.bool hc27136)) rfl (Exec.gtr rfl rfl rfl ?_)
        refine WL_step rfl rfl (Exec.pick_f (v := Value.bool (decide (150 < (x25720.Edges.length : Int)))) rfl (congrArg Value.bool hc27136) rfl ?_)
        refine WL_step rfl rfl (Exec.move (v := Value.bool (decide (150 < (x25720.Edges.length : Int)))) rfl rfl ?_)
        rcases ite_some ht27115 with ⟨hc27139, ht27115⟩ | ⟨hc27139, ht27115⟩
        · refine WL_pass rfl (yield_of rfl (congrArg Value.bool hc27139)) rfl rfl ?_
          refine WL_pass rfl (yield_of rfl (congrArg Value.bool hc27139)) rfl rfl ?_
          refine WL_pass rfl (yield_of rfl (congrArg Value.bool hc27139)) rfl rfl ?_
          refine WL_pass rfl (yield_of rfl (congrArg Value.bool hc27139)) rfl rfl ?_
          refine WL_step rfl rfl (Exec.pick_t (v := Value.bool (true)) rfl (congrArg Value.bool hc27139) rfl ?_)
          refine WL_step rfl rfl (Exec.assign (v := Value.bool (true)) rfl rfl ?_)
          refine WL_nil (at_normal ?_)
          have e27140 := Option.some.inj ht27115
          subst z27114
          have hS27141 := (hS27100).drop
          exact ⟨s, (PHeap.le_refl _), hS27141, rfl⟩
        · replace hc27139 := not_true hc27139
          refine WL_run rfl (yield_of rfl (congrArg Value.bool hc27139)) rfl (Exec.field F26_2 rfl rfl rfl ?_)
          refine WL_run rfl (yield_of rfl (congrArg Value.bool hc27139)) rfl (Exec.load_box (hS27100) A22 rfl rfl rfl ?_)
          refine WL_run rfl (yield_of rfl (congrArg Value.bool hc27139)) rfl (Exec.len_rep S22 rfl rfl a25722 ?_)
          refine WL_run rfl (yield_of rfl (congrArg Value.bool hc27139)) rfl (Exec.gtr rfl rfl rfl ?_)
          refine WL_step rfl rfl (Exec.pick_f (v := Value.bool (decide (40 < (x25720.Costs.length : Int)))) rfl (congrArg Value.bool hc27139) rfl ?_)
          refine WL_step rfl rfl (Exec.assign (v := Value.bool (decide (40 < (x25720.Costs.length : Int)))) rfl rfl ?_)
          refine WL_nil (at_normal ?_)
          have e27142 := Option.some.inj ht27115
          subst z27114
          have hS27143 := (hS27100).drop
          exact ⟨s, (PHeap.le_refl _), hS27143, rfl⟩
  · intro f27144 w27145 hM27146
    obtain ⟨s27147, l27148, hS27149, p27150⟩ := hM27146
    refine (at_normal ?_)
    refine W_ret ?_
    have e27152 := Option.some.inj hm
    subst r
    refine ⟨_, ret1 rfl, ?_⟩
    exact ⟨s27147, l27148, hS27149, p27150⟩

theorem N19 : (Try.f19.name == "runtime.NumGoroutine") = false := by kernel_rfl

theorem transys_Costs_sim {w0 w : World} {s : PHeap} {H : List Res} {x27240 : System} {v27241 : Value} {v27243 : Value} {v27245 : Value} {r : (List Int) × (Option Int)} (hm : transys_Costs_p x27240 = some r) (hS : St w0 s (H) w) (a27242 : SliceRep (encInt .i64) s v27241 x27240.Costs) (a27244 : SliceRep encEdge s v27243 x27240.Edges) (a27246 : SliceRep encBool s v27245 x27240.Goals) :
    Calls Try.prog 19 #[Value.agg #[Value.int .i64 (x27240.States), Value.int .i64 (x27240.Init), v27241, v27243, v27245]] w fun e w' => ∃ v, e = .returned v ∧ ((un2 fun (y27303 : (List Int)) (y27304 : (Option Int)) => ∃ (s27306 : PHeap) (v27305 : Value), PHeap.le s s27306 ∧ St w0 s27306 (H) w' ∧ v = Value.tuple #[v27305, errV 39 (y27304)] ∧ SliceRep (encInt .i64) s27306 v27305 y27303) r) := by
  unfold transys_Costs_p at hm
  refine calls_of_W Try.func19 rfl rfl ?_
  refine W_seq ?_
  refine W_region ?_
  refine WL_step rfl rfl (Exec.box (cs := [Value.int .i64 (x27240.States), Value.int .i64 (x27240.Init), v27241, v27243, v27245]) hS rfl rfl rfl ?_)
  intro b27310 w27311 hS27312
  refine WL_step rfl rfl (Exec.assign (v := Value.slice none 0 0) rfl rfl ?_)
  refine WL_step rfl rfl (Exec.assign (v := errV 39 (none)) rfl rfl ?_)
  refine WL_nil (at_normal ?_)
  refine W_seq ?_
  refine W_seq ?_
  refine W_region ?_
  refine WL_step rfl rfl (Exec.load_box_agg (ds := [Value.int .i64 (x27240.States), Value.int .i64 (x27240.Init), v27241, v27243, v27245]) (hS27312) A26 rfl rfl rfl ?_)
  obtain ⟨y27322, q27321, hm⟩ := bind_some hm
  refine WL_step rfl rfl (Exec.call rfl rfl Try.func25 rfl N25 (args_cons rfl args_nil) ((transys_Valid_sim q27321 hS27312 a27242 a27244 a27246).mono ?_))
  rintro _ w27323 ⟨_, rfl, ⟨s27324, l27325, hS27326, rfl⟩⟩
  refine ⟨_, rfl, ?_⟩
  refine WL_step rfl rfl (Exec.not rfl rfl ?_)
  refine WL_nil (at_normal ?_)
  rcases ite_some hm with ⟨hc27327, hm⟩ | ⟨hc27327, hm⟩
  · refine W_cond_t rfl hc27327 ?_
    refine W_seq ?_
    refine W_region ?_
    refine WL_step rfl rfl (Exec.makeInterface C39 rfl rfl ?_)
    refine WL_step rfl rfl (Exec.assign (v := Value.slice none 0 0) rfl rfl ?_)
    refine WL_step rfl rfl (Exec.assign (v := errV 39 (some 2)) rfl rfl ?_)
    refine WL_nil (at_normal ?_)
    refine W_ret (at_ret ?_)
    have e27329 := Option.some.inj hm
    subst r
    refine ⟨_, ret2 rfl, ?_⟩
    have hS27330 := (hS27326).drop
    exact ⟨s27324, (Value.slice none 0 0), l27325, hS27330, (tup2 rfl rfl), (SliceRep.nil _ _)⟩
  · refine W_cond_f rfl hc27327 ?_
    replace hc27327 := not_true hc27327
    refine W_skip (at_normal ?_)
    refine W_seq ?_
    refine W_region ?_
    refine WL_step rfl rfl (Exec.load_box_agg (ds := [Value.int .i64 (x27240.States), Value.int .i64 (x27240.Init), v27241, v27243, v27245]) (hS27326) A26 rfl rfl rfl ?_)
    refine WL_step rfl rfl (Exec.field F26_1 rfl rfl rfl ?_)
    refine WL_step rfl rfl (Exec.load_box (hS27326) A3 rfl rfl rfl ?_)
    refine WL_step rfl rfl (Exec.buildSlice (Te := 3) (cs := [Value.int .i64 (x27240.Init)]) hS27326 rfl (parts_cons (c := [Value.int .i64 (x27240.Init)]) (cells_of rfl rfl) parts_nil) (fun _ => by kernel_rfl) ?_)
    intro b27348 w27349 hS27350
    have hS27351 := St.boxArr (E := (encInt .i64)) (xs := [x27240.Init]) hS27350 ⟨[Value.int .i64 (x27240.Init)], [], rfl, rfl, rfl⟩ (by simp [maxLen])
    obtain ⟨s27352, l27353, hS27354, r27355⟩ := hS27351.freezeArr
    obtain ⟨y27358, q27357, hm⟩ := bind_some hm
    refine WL_step rfl rfl (Exec.call rfl rfl Try.func42 rfl N42 (args_cons rfl (args_cons rfl (args_cons rfl args_nil))) ((transys_shortest_sim q27357 hS27354 (a27242.mono (PHeap.le.trans l27325 l27353)) (a27244.mono (PHeap.le.trans l27325 l27353)) (a27246.mono (PHeap.le.trans l27325 l27353)) r27355).mono ?_))
    rintro _ w27359 ⟨v27363, rfl, ⟨s27360, _, l27361, hS27362, rfl, r27364⟩⟩
    refine ⟨_, rfl, ?_⟩
    refine WL_step rfl rfl (Exec.assign (v := v27363) rfl rfl ?_)
    refine WL_step rfl rfl (Exec.assign (v := errV 39 (none)) rfl rfl ?_)
    refine WL_nil (at_normal ?_)
    refine W_ret ?_
    have e27366 := Option.some.inj hm
    subst r
    refine ⟨_, ret2 rfl, ?_⟩
    have hS27367 := (hS27362).drop
    exact ⟨s27360, v27363, (PHeap.le.trans (PHeap.le.trans l27325 l27353) l27361), hS27367, (tup2 rfl rfl), r27364⟩

theorem N21 : (Try.f21.name == "runtime.NumGoroutine") = false := by kernel_rfl

theorem ref44_Distances_sim {w0 w : World} {s : PHeap} {H : List Res} {x27390 : System} {v27391 : Value} {v27393 : Value} {v27395 : Value} {r : (List Int)} (hm : ref44_Distances_p x27390 = some r) (hS : St w0 s (H) w) (a27392 : SliceRep (encInt .i64) s v27391 x27390.Costs) (a27394 : SliceRep encEdge s v27393 x27390.Edges) (a27396 : SliceRep encBool s v27395 x27390.Goals) :
    Calls Try.prog 21 #[Value.agg #[Value.int .i64 (x27390.States), Value.int .i64 (x27390.Init), v27391, v27393, v27395]] w fun e w' => ∃ v, e = .returned v ∧ ((fun (y32106 : (List Int)) => ∃ (s32113 : PHeap) (v32112 : Value), PHeap.le s s32113 ∧ St w0 s32113 (H) w' ∧ v = v32112 ∧ SliceRep (encInt .i64) s32113 v32112 y32106) r) := by
  unfold ref44_Distances_p at hm
  refine calls_of_W Try.func21 rfl rfl ?_
  refine W_seq ?_
  refine W_region ?_
  refine WL_step rfl rfl (Exec.box (cs := [Value.int .i64 (x27390.States), Value.int .i64 (x27390.Init), v27391, v27393, v27395]) hS rfl rfl rfl ?_)
  intro b32117 w32118 hS32119
  refine WL_step rfl rfl (Exec.assign (v := Value.slice none 0 0) rfl rfl ?_)
  refine WL_nil (at_normal ?_)
  refine W_seq ?_
  refine W_region ?_
  refine WL_step rfl rfl (Exec.assign (v := Value.slice none 0 0) rfl rfl ?_)
  refine WL_nil (at_normal ?_)
  refine W_seq ?_
  refine W_seq ?_
  refine W_region ?_
  refine WL_step rfl rfl (Exec.field F26_4 rfl rfl rfl ?_)
  refine WL_step rfl rfl (Exec.load_box (hS32119) A24 rfl rfl rfl ?_)
  refine WL_step rfl rfl (Exec.len_rep S24 rfl rfl a27396 ?_)
  refine WL_step rfl rfl (Exec.move (v := Value.int .i64 (0)) rfl rfl ?_)
  refine WL_nil (at_normal ?_)
  obtain ⟨out32176, hB32235, hm⟩ := bind_some hm
  refine W_block (W_forS (fun k' s' f' w' => (fun (out32176 : (List Int)) => ∃ (s32236 : PHeap) (v32177 : Value), PHeap.le s s32236 ∧ St w0 s32236 (Res.box b32117 26 [Value.int .i64 (x27390.States), Value.int .i64 (x27390.Init), v27391, v27393, v27395] :: Res.arr (encInt .i64) 3 v32177 out32176 :: H) w' ∧ f' 1 = Value.pointer (some ⟨b32117, 0, none⟩) ∧ f' 3 = v32177 ∧ f' 11 = v27395 ∧ f' 12 = Value.int .i64 ((x27390.Goals.length : Int)) ∧ f' 13 = Value.int .i64 (k' : Int)) s') hB32235 ?_ ?_ ?_)
  · have hS32237 := hS32119.nilArr (encInt .i64) 3
    have hS32238 := (hS32237).f1
    exact ⟨s, (Value.slice none 0 0), (PHeap.le_refl _), hS32238, rfl, rfl, rfl, rfl, rfl⟩
  · intro i32120 out32176 s32240 f32241 w32242 hi32243 hI32244 hm32245
    obtain ⟨s32246, v32177, l32247, hS32248, p32249, p32250, p32251, p32252, x32253⟩ := hI32244
    refine W_seq ?_
    refine W_region ?_
    refine WL_step rfl rfl (Exec.lss rfl x32253 p32252 ?_)
    refine WL_nil (at_normal ?_)
    refine W_seq ?_
    refine W_true (congrArg Value.bool (decide_eq_true (by omega))) ?_
    refine W_skip (at_normal ?_)
    refine W_seq ?_
    refine W_block ?_
    refine W_seq ?_
    refine W_region ?_
    obtain ⟨x32261, q32262, hm32245⟩ := bind_some hm32245
    refine WL_step rfl rfl (Exec.index_rep S24 rfl p32251 x32253 (a27396.mono l32247) q32262 ?_)
    intro b32263 o32264 a32265
    refine WL_step rfl rfl (Exec.load_at (E := encBool) hS32248 A4 rfl rfl rfl a32265 ?_)
    intro v32266 q32267
    obtain rfl := encBool_val.1 q32267
    refine WL_step rfl rfl (Exec.assign (v := Value.bool (x32261)) rfl rfl ?_)
    refine WL_nil (at_normal ?_)
    refine W_seq ?_
    refine W_region ?_
    refine WL_step rfl rfl (Exec.assign (v := Value.int .i64 (1125899906842624)) rfl rfl ?_)
    refine WL_nil (at_normal ?_)
    refine W_seq ?_
    refine W_seq ?_
    refine W_region ?_
    refine WL_step rfl rfl (Exec.move (v := Value.bool (x32261)) rfl rfl ?_)
    refine WL_nil (at_normal ?_)
    obtain ⟨d32268, ht32269, hm32245⟩ := bind_some hm32245
    refine W_mid (M := fun f' w' => (fun (d32268 : Int) => ∃ (s32270 : PHeap) , PHeap.le s32246 s32270 ∧ St w0 s32270 (Res.box b32117 26 [Value.int .i64 (x27390.States), Value.int .i64 (x27390.Init), v27391, v27393, v27395] :: Res.arr (encInt .i64) 3 v32177 out32176 :: H) w' ∧ f' 1 = Value.pointer (some ⟨b32117, 0, none⟩) ∧ f' 3 = v32177 ∧ f' 6 = Value.int .i64 (d32268) ∧ f' 11 = v27395 ∧ f' 12 = Value.int .i64 ((x27390.Goals.length : Int)) ∧ f' 13 = Value.int .i64 ((i32120 : Int))) d32268) ?_ ?_
    · rcases ite_some ht32269 with ⟨hc32271, ht32269⟩ | ⟨hc32271, ht32269⟩
      · refine W_cond_t rfl hc32271 ?_
        refine W_region ?_
        refine WL_step rfl rfl (Exec.assign (v := Value.int .i64 (0)) rfl rfl ?_)
        refine WL_nil (at_normal ?_)
        have e32272 := Option.some.inj ht32269
        subst d32268
        have hS32273 := (hS32248).f1
        have hS32274 := (hS32273).f1
        exact ⟨s32246, (PHeap.le_refl _), hS32274, p32249, p32250, rfl, p32251, p32252, x32253⟩
      · refine W_cond_f rfl hc32271 ?_
        replace hc32271 := not_true hc32271
        refine W_skip (at_normal ?_)
        have e32275 := Option.some.inj ht32269
        subst d32268
        have hS32276 := (hS32248).f1
        have hS32277 := (hS32276).f1
        exact ⟨s32246, (PHeap.le_refl _), hS32277, p32249, p32250, rfl, p32251, p32252, x32253⟩
    · intro f32278 w32279 hM32280
      obtain ⟨s32281, l32282, hS32283, p32284, p32285, p32286, p32287, p32288, p32289⟩ := hM32280
      refine (at_normal ?_)
      refine W_region ?_
      refine WL_step rfl rfl (Exec.move (v := v32177) rfl p32285 ?_)
      refine WL_step rfl rfl (Exec.move (v := Value.int .i64 (d32268)) rfl p32286 ?_)
      refine WL_step rfl rfl (Exec.buildSlice (Te := 3) (cs := [Value.int .i64 (d32268)]) hS32283 rfl (parts_cons (c := [Value.int .i64 (d32268)]) (cells_of rfl rfl) parts_nil) (fun _ => by kernel_rfl) ?_)
      intro b32299 w32300 hS32301
      obtain ⟨l32302, q32303, hm32245⟩ := bind_some hm32245
      have hS32304 := (hS32301).f2
      refine WL_step rfl rfl (Exec.append_box (E := (encInt .i64)) (ys := [d32268]) hS32304 S22 Z3 rfl (by decide) rfl rfl rfl rfl ⟨[Value.int .i64 (d32268)], [], rfl, rfl, rfl⟩ rfl q32303 ?_)
      intro v32305 w32306 hS32307
      refine WL_step rfl rfl (Exec.assign (v := v32305) rfl rfl ?_)
      refine WL_nil (ib_normal (at_normal ?_))
      refine W_region ?_
      refine WL_step rfl rfl (Exec.add rfl p32289 rfl ?_)
      refine WL_step rfl rfl (Exec.move (v := Value.int .i64 (IntKind.i64.wrap ((i32120 : Int) + 1))) rfl rfl ?_)
      refine WL_nil (at_normal ?_)
      have e32308 := Option.some.inj hm32245
      subst s32240
      have hS32309 := (hS32307).f1
      exact ⟨s32281, v32305, (PHeap.le.trans l32247 l32282), hS32309, p32284, rfl, p32287, p32288, (Eq.trans rfl (wrap_up hi32243 (SliceRep.le a27396)))⟩
  · intro f32310 w32311 hI32312
    obtain ⟨s32313, v32177, l32314, hS32315, p32316, p32317, p32318, p32319, x32320⟩ := hI32312
    refine W_seq ?_
    refine W_region ?_
    refine WL_step rfl rfl (Exec.lss rfl x32320 p32319 ?_)
    refine WL_nil (at_normal ?_)
    refine W_seq ?_
    refine W_false (congrArg Value.bool (decide_eq_false (by omega))) ?_
    refine W_exit (at_exit (at_exit (ib_here (at_normal ?_))))
    refine W_seq ?_
    refine W_seq ?_
    refine W_region ?_
    refine WL_step rfl rfl (Exec.assign (v := Value.bool (true)) rfl rfl ?_)
    refine WL_nil (at_normal ?_)
    obtain ⟨c35669, hB35670, hr35671, hn35672, hb35673⟩ := ctl_some hm
    refine W_mid (M := fun f' w' => ∃ s', (c35669 = .next s' ∨ c35669 = .brk s') ∧ (un2 fun (changed35667 : Bool) (l35668 : (List Int)) => ∃ (s35675 : PHeap) , PHeap.le s32313 s35675 ∧ St w0 s35675 (Res.box b32117 26 [Value.int .i64 (x27390.States), Value.int .i64 (x27390.Init), v27391, v27393, v27395] :: Res.arr (encInt .i64) 3 v32177 l35668 :: H) w' ∧ f' 1 = Value.pointer (some ⟨b32117, 0, none⟩) ∧ f' 3 = v32177 ∧ f' 7 = Value.bool (changed35667)) s') ?_ ?_
    · refine W_block (W_while (fun s' f' w' => (un2 fun (changed33434 : Bool) (l33435 : (List Int)) => ∃ (s35674 : PHeap) , PHeap.le s32313 s35674 ∧ St w0 s35674 (Res.box b32117 26 [Value.int .i64 (x27390.States), Value.int .i64 (x27390.Init), v27391, v27393, v27395] :: Res.arr (encInt .i64) 3 v32177 l33435 :: H) w' ∧ f' 1 = Value.pointer (some ⟨b32117, 0, none⟩) ∧ f' 3 = v32177 ∧ f' 7 = Value.bool (changed33434)) s') hB35670 ?_ ?_)
      · have hS35676 := (hS32315).f1
        have hS35677 := (hS35676).f1
        exact ⟨s32313, (PHeap.le_refl _), hS35677, p32316, p32317, rfl⟩
      · intro t35685 c35679 f35680 w35681 hI35682 hm35683 hres35684
        obtain ⟨changed33434, l33435⟩ := t35685
        replace hm35683 := un2_eq hm35683
        obtain ⟨s35686, l35687, hS35688, p35689, p35690, p35691⟩ := hI35682
        refine W_seq ?_
        refine W_seq ?_
        refine W_region ?_
        refine WL_step rfl rfl (Exec.move (v := Value.bool (changed33434)) rfl p35691 ?_)
        refine WL_nil (at_normal ?_)
        rcases ite_some hm35683 with ⟨hc35692, hm35683⟩ | ⟨hc35692, hm35683⟩
        · refine W_cond_t rfl hc35692 ?_
          refine W_skip (at_normal ?_)
          refine W_block ?_
          refine W_seq ?_
          refine W_region ?_
          refine WL_step rfl rfl (Exec.assign (v := Value.bool (false)) rfl rfl ?_)
          refine WL_nil (at_normal ?_)
          refine W_seq ?_
          refine W_region ?_
          refine WL_step rfl rfl (Exec.field F26_3 rfl p35689 rfl ?_)
          refine WL_step rfl rfl (Exec.load_box (hS35688) A23 rfl rfl rfl ?_)
          refine WL_step rfl rfl (Exec.len_rep S23 rfl rfl (a27394.mono (PHeap.le.trans l32314 l35687)) ?_)
          refine WL_step rfl rfl (Exec.move (v := Value.int .i64 (0)) rfl rfl ?_)
          refine WL_nil (at_normal ?_)
          obtain ⟨t36412, hB36413, hm35683⟩ := bind_some hm35683
          refine W_block (W_forS (fun k' s' f' w' => (un2 fun (changed36051 : Bool) (l36052 : (List Int)) => ∃ (s36414 : PHeap) , PHeap.le s35686 s36414 ∧ St w0 s36414 (Res.box b32117 26 [Value.int .i64 (x27390.States), Value.int .i64 (x27390.Init), v27391, v27393, v27395] :: Res.arr (encInt .i64) 3 v32177 l36052 :: H) w' ∧ f' 1 = Value.pointer (some ⟨b32117, 0, none⟩) ∧ f' 3 = v32177 ∧ f' 7 = Value.bool (changed36051) ∧ f' 25 = v27393 ∧ f' 26 = Value.int .i64 ((x27390.Edges.length : Int)) ∧ f' 27 = Value.int .i64 (k' : Int)) s') hB36413 ?_ ?_ ?_)
          · have hS36415 := (hS35688).f1
            have hS36416 := (hS36415).f1
            exact ⟨s35686, (PHeap.le_refl _), hS36416, p35689, p35690, rfl, rfl, rfl, rfl⟩
          · intro i35693 t36424 s36418 f36419 w36420 hi36421 hI36422 hm36423
            obtain ⟨changed36051, l36052⟩ := t36424
            replace hm36423 := un2_eq hm36423
            obtain ⟨s36425, l36426, hS36427, p36428, p36429, p36430, p36431, p36432, x36433⟩ := hI36422
            refine W_seq ?_
            refine W_region ?_
            refine WL_step rfl rfl (Exec.lss rfl x36433 p36432 ?_)
            refine WL_nil (at_normal ?_)
            refine W_seq ?_
            refine W_true (congrArg Value.bool (decide_eq_true (by omega))) ?_
            refine W_skip (at_normal ?_)
            refine W_seq ?_
            refine W_block ?_
            refine W_seq ?_
            refine W_region ?_
            obtain ⟨x36446, q36447, hm36423⟩ := bind_some hm36423
            refine WL_step rfl rfl (Exec.index_rep S23 rfl p36431 x36433 (a27394.mono (PHeap.le.trans (PHeap.le.trans l32314 l35687) l36426)) q36447 ?_)
            intro b36448 o36449 a36450
            refine WL_step rfl rfl (Exec.load_at (E := encEdge) hS36427 A66 rfl rfl rfl a36450 ?_)
            intro v36451 q36452
            obtain rfl := encEdge_val.1 q36452
            refine WL_step rfl rfl (Exec.alloc (cs := [Value.int .i64 (0), Value.int .i64 (0), Value.int .i64 (0)]) hS36427 Z66 rfl rfl ?_)
            intro b36453 w36454 hS36455
            refine WL_step rfl rfl (Exec.store_box (ds := [Value.int .i64 (x36446.From), Value.int .i64 (x36446.Label), Value.int .i64 (x36446.To)]) (es := [Value.int .i64 (x36446.From), Value.int .i64 (x36446.Label), Value.int .i64 (x36446.To)]) hS36455 A66 rfl rfl rfl rfl (one_cons rfl (one_cons rfl (one_cons rfl one_nil))) (Nat.le_of_ble_eq_true rfl) rfl ?_)
            intro w36456 hS36457
            refine WL_nil (at_normal ?_)
            refine W_seq ?_
            obtain ⟨z36516, ht36517, hm36423⟩ := bind_some hm36423
            refine W_mid (M := fun f' w' => (fun (z36516 : Bool) => ∃ (s36518 : PHeap) , PHeap.le s36425 s36518 ∧ St w0 s36518 (Res.box b32117 26 [Value.int .i64 (x27390.States), Value.int .i64 (x27390.Init), v27391, v27393, v27395] :: Res.arr (encInt .i64) 3 v32177 l36052 :: Res.box b36453 66 [Value.int .i64 (x36446.From), Value.int .i64 (x36446.Label), Value.int .i64 (x36446.To)] :: H) w' ∧ f' 1 = Value.pointer (some ⟨b32117, 0, none⟩) ∧ f' 3 = v32177 ∧ f' 7 = Value.bool (changed36051) ∧ f' 9 = Value.pointer (some ⟨b36453, 0, none⟩) ∧ f' 25 = v27393 ∧ f' 26 = Value.int .i64 ((x27390.Edges.length : Int)) ∧ f' 27 = Value.int .i64 ((i35693 : Int)) ∧ f' 56 = Value.bool (z36516)) z36516) ?_ ?_
            · refine W_dl (n0 := 26) (.q 0 (.q 1 (.q 2 (.q 3 (.q 4 (.q 5 (.q 6 (.q 7 (.q 8 (.q 9 (.q 10 (.q 11 (.q 12 (.q 13 (.q 14 (.q 15 (.q 16 (.q 17 (.q 18 (.q 19 (.q 20 (.q 21 (.q 22 (.q 23 (.q 24 (.q 25 .done)))))))))))))))))))))))))) hmix (by kernel_rfl) (by kernel_rfl) ?_
              have hS36548 := hS36457.drew
              refine DL_q rfl rfl (Exec.move (v := v32177) rfl p36429 ⟨rfl, ?_⟩)
              refine DL_q rfl rfl (Exec.field F66_2 rfl rfl rfl ⟨rfl, ?_⟩)
              refine DL_q rfl rfl (Exec.load_box (hS36548) A3 rfl rfl rfl ⟨rfl, ?_⟩)
              obtain ⟨x36549, q36550, ht36517⟩ := bind_some ht36517
              obtain ⟨g36551, c36552, e36553⟩ := ((hS36548).f2).arr_at q36550
              refine DL_q rfl rfl (Exec.index_slice S22 rfl e36553 rfl (idx_some q36550).1 (idx_some q36550).2.1 ⟨rfl, ?_⟩)
              refine DL_q rfl rfl (Exec.load_arr (F := (encInt .i64)) ((hS36548).f2) e36553 A3 rfl rfl rfl q36550 (Sub.refl _) ?_)
              intro v36554 q36555
              obtain rfl := encInt_val.1 q36555
              refine ⟨rfl, ?_⟩
              refine DL_q rfl rfl (Exec.lss rfl rfl rfl ⟨rfl, ?_⟩)
              refine DL_q rfl rfl (Exec.move (v := Value.bool (decide (x36549 < 1125899906842624))) rfl rfl ⟨rfl, ?_⟩)
              rcases ite_some ht36517 with ⟨hc36556, ht36517⟩ | ⟨hc36556, ht36517⟩
              · refine DL_qg rfl rfl (yield_of rfl (congrArg Value.bool hc36556)) (Exec.move (v := v32177) rfl p36429 ⟨rfl, ?_⟩)
                refine DL_qg rfl rfl (yield_of rfl (congrArg Value.bool hc36556)) (Exec.field F66_2 rfl rfl rfl ⟨rfl, ?_⟩)
                refine DL_qg rfl rfl (yield_of rfl (congrArg Value.bool hc36556)) (Exec.load_box (hS36548) A3 rfl rfl rfl ⟨rfl, ?_⟩)
                obtain ⟨g36557, c36558, e36559⟩ := ((hS36548).f2).arr_at q36550
                refine DL_qg rfl rfl (yield_of rfl (congrArg Value.bool hc36556)) (Exec.index_slice S22 rfl e36559 rfl (idx_some q36550).1 (idx_some q36550).2.1 ⟨rfl, ?_⟩)
                refine DL_qg rfl rfl (yield_of rfl (congrArg Value.bool hc36556)) (Exec.load_arr (F := (encInt .i64)) ((hS36548).f2) e36559 A3 rfl rfl rfl q36550 (Sub.refl _) ?_)
                intro v36560 q36561
                obtain rfl := encInt_val.1 q36561
                refine ⟨rfl, ?_⟩
                refine DL_qg rfl rfl (yield_of rfl (congrArg Value.bool hc36556)) (Exec.field F26_2 rfl p36428 rfl ⟨rfl, ?_⟩)
                refine DL_qg rfl rfl (yield_of rfl (congrArg Value.bool hc36556)) (Exec.load_box ((hS36548).f1) A22 rfl rfl rfl ⟨rfl, ?_⟩)
                refine DL_qg rfl rfl (yield_of rfl (congrArg Value.bool hc36556)) (Exec.field F66_1 rfl rfl rfl ⟨rfl, ?_⟩)
                refine DL_qg rfl rfl (yield_of rfl (congrArg Value.bool hc36556)) (Exec.load_box (hS36548) A3 rfl rfl rfl ⟨rfl, ?_⟩)
                obtain ⟨x36562, q36563, ht36517⟩ := bind_some ht36517
                refine DL_qg rfl rfl (yield_of rfl (congrArg Value.bool hc36556)) (Exec.index_repE S22 rfl rfl rfl (a27392.mono (PHeap.le.trans (PHeap.le.trans l32314 l35687) l36426)) q36563 ?_)
                intro b36564 o36565 a36566 e36567
                refine ⟨rfl, ?_⟩
                refine DL_qg rfl rfl (yield_of rfl (congrArg Value.bool hc36556)) (Exec.load_at (E := (encInt .i64)) hS36548 A3 rfl rfl rfl a36566 ?_)
                intro v36568 q36569
                obtain rfl := encInt_val.1 q36569
                refine ⟨rfl, ?_⟩
                refine DL_qg rfl rfl (yield_of rfl (congrArg Value.bool hc36556)) (Exec.add rfl rfl rfl ⟨rfl, ?_⟩)
                refine DL_qg rfl rfl (yield_of rfl (congrArg Value.bool hc36556)) (Exec.move (v := v32177) rfl p36429 ⟨rfl, ?_⟩)
                refine DL_qg rfl rfl (yield_of rfl (congrArg Value.bool hc36556)) (Exec.field F66_0 rfl rfl rfl ⟨rfl, ?_⟩)
                refine DL_qg rfl rfl (yield_of rfl (congrArg Value.bool hc36556)) (Exec.load_box (hS36548) A3 rfl rfl rfl ⟨rfl, ?_⟩)
                obtain ⟨x36570, q36571, ht36517⟩ := bind_some ht36517
                obtain ⟨g36572, c36573, e36574⟩ := ((hS36548).f2).arr_at q36571
                refine DL_qg rfl rfl (yield_of rfl (congrArg Value.bool hc36556)) (Exec.index_slice S22 rfl e36574 rfl (idx_some q36571).1 (idx_some q36571).2.1 ⟨rfl, ?_⟩)
                refine DL_qg rfl rfl (yield_of rfl (congrArg Value.bool hc36556)) (Exec.load_arr (F := (encInt .i64)) ((hS36548).f2) e36574 A3 rfl rfl rfl q36571 (Sub.refl _) ?_)
                intro v36575 q36576
                obtain rfl := encInt_val.1 q36576
                refine ⟨rfl, ?_⟩
                refine DL_qg rfl rfl (yield_of rfl (congrArg Value.bool hc36556)) (Exec.lss rfl rfl rfl ⟨rfl, ?_⟩)
                refine DL_q rfl rfl (Exec.pick_t (v := Value.bool (decide ((IntKind.i64.wrap (x36549 + x36562)) < x36570))) rfl (congrArg Value.bool hc36556) rfl ⟨rfl, ?_⟩)
                refine DL_done ?_
                refine WL_nil (at_normal ?_)
                have e36577 := Option.some.inj ht36517
                subst z36516
                have hS36578 := (hS36548).f2
                have hS36579 := (hS36578).f2
                exact ⟨s36425, (PHeap.le_refl _), hS36579, p36428, p36429, p36430, rfl, p36431, p36432, x36433, rfl⟩
              · replace hc36556 := not_true hc36556
                refine DL_qp rfl rfl (yield_of rfl (congrArg Value.bool hc36556)) rfl ?_
                refine DL_qp rfl rfl (yield_of rfl (congrArg Value.bool hc36556)) rfl ?_
                refine DL_qp rfl rfl (yield_of rfl (congrArg Value.bool hc36556)) rfl ?_
                refine DL_qp rfl rfl (yield_of rfl (congrArg Value.bool hc36556)) rfl ?_
                refine DL_qp rfl rfl (yield_of rfl (congrArg Value.bool hc36556)) rfl ?_
                refine DL_qp rfl rfl (yield_of rfl (congrArg Value.bool hc36556)) rfl ?_
                refine DL_qp rfl rfl (yield_of rfl (congrArg Value.bool hc36556)) rfl ?_
                refine DL_qp rfl rfl (yield_of rfl (congrArg Value.bool hc36556)) rfl ?_
                refine DL_qp rfl rfl (yield_of rfl (congrArg Value.bool hc36556)) rfl ?_
                refine DL_qp rfl rfl (yield_of rfl (congrArg Value.bool hc36556)) rfl ?_
                refine DL_qp rfl rfl (yield_of rfl (congrArg Value.bool hc36556)) rfl ?_
                refine DL_qp rfl rfl (yield_of rfl (congrArg Value.bool hc36556)) rfl ?_
                refine DL_qp rfl rfl (yield_of rfl (congrArg Value.bool hc36556)) rfl ?_
                refine DL_qp rfl rfl (yield_of rfl (congrArg Value.bool hc36556)) rfl ?_
                refine DL_qp rfl rfl (yield_of rfl (congrArg Value.bool hc36556)) rfl ?_
                refine DL_qp rfl rfl (yield_of rfl (congrArg Value.bool hc36556)) rfl ?_
                refine DL_qp rfl rfl (yield_of rfl (congrArg Value.bool hc36556)) rfl ?_
                refine DL_qp rfl rfl (yield_of rfl (congrArg Value.bool hc36556)) rfl ?_
                refine DL_q rfl rfl (Exec.pick_f (v := Value.bool (false)) rfl (congrArg Value.bool hc36556) rfl ⟨rfl, ?_⟩)
                refine DL_done ?_
                refine WL_nil (at_normal ?_)
                have e36580 := Option.some.inj ht36517
                subst z36516
                have hS36581 := (hS36548).f2
                have hS36582 := (hS36581).f2
                exact ⟨s36425, (PHeap.le_refl _), hS36582, p36428, p36429, p36430, rfl, p36431, p36432, x36433, rfl⟩
            · intro f36583 w36584 hM36585
              obtain ⟨s36586, l36587, hS36588, p36589, p36590, p36591, p36592, p36593, p36594, p36595, p36596⟩ := hM36585
              refine (at_normal ?_)
              obtain ⟨t36683, ht36684, hm36423⟩ := bind_some hm36423
              refine W_mid (M := fun f' w' => (un2 fun (changed36681 : Bool) (l36682 : (List Int)) => ∃ (s36685 : PHeap) , PHeap.le s36586 s36685 ∧ St w0 s36685 (Res.box b32117 26 [Value.int .i64 (x27390.States), Value.int .i64 (x27390.Init), v27391, v27393, v27395] :: Res.arr (encInt .i64) 3 v32177 l36682 :: H) w' ∧ f' 1 = Value.pointer (some ⟨b32117, 0, none⟩) ∧ f' 3 = v32177 ∧ f' 7 = Value.bool (changed36681) ∧ f' 25 = v27393 ∧ f' 26 = Value.int .i64 ((x27390.Edges.length : Int)) ∧ f' 27 = Value.int .i64 ((i35693 : Int))) t36683) ?_ ?_
              · rcases ite_some ht36684 with ⟨hc36686, ht36684⟩ | ⟨hc36686, ht36684⟩
                · refine W_cond_t p36596 hc36686 ?_
                  refine W_dl (n0 := 15) (.q 0 (.q 1 (.q 2 (.q 3 (.q 4 (.q 5 (.q 6 (.q 7 (.q 8 (.q 9 (.q 10 (.q 11 (.q 12 (.q 13 (.q 14 .done))))))))))))))) hmix (by kernel_rfl) (by kernel_rfl) ?_
                  have hS36745 := hS36588.drew
                  refine DL_q rfl rfl (Exec.move (v := v32177) rfl p36590 ⟨rfl, ?_⟩)
                  refine DL_q rfl rfl (Exec.field F66_0 rfl p36592 rfl ⟨rfl, ?_⟩)
                  refine DL_q rfl rfl (Exec.load_box ((hS36745).f2) A3 rfl rfl rfl ⟨rfl, ?_⟩)
                  refine DL_q rfl rfl (Exec.move (v := v32177) rfl p36590 ⟨rfl, ?_⟩)
                  refine DL_q rfl rfl (Exec.field F66_2 rfl p36592 rfl ⟨rfl, ?_⟩)
                  refine DL_q rfl rfl (Exec.load_box ((hS36745).f2) A3 rfl rfl rfl ⟨rfl, ?_⟩)
                  obtain ⟨x36746, q36747, ht36684⟩ := bind_some ht36684
                  obtain ⟨g36748, c36749, e36750⟩ := ((hS36745).f1).arr_at q36747
                  refine DL_q rfl rfl (Exec.index_slice S22 rfl e36750 rfl (idx_some q36747).1 (idx_some q36747).2.1 ⟨rfl, ?_⟩)
                  refine DL_q rfl rfl (Exec.load_arr (F := (encInt .i64)) ((hS36745).f1) e36750 A3 rfl rfl rfl q36747 (Sub.refl _) ?_)
                  intro v36751 q36752
                  obtain rfl := encInt_val.1 q36752
                  refine ⟨rfl, ?_⟩
                  refine DL_q rfl rfl (Exec.field F26_2 rfl p36589 rfl ⟨rfl, ?_⟩)
                  refine DL_q rfl rfl (Exec.load_box (hS36745) A22 rfl rfl rfl ⟨rfl, ?_⟩)
                  refine DL_q rfl rfl (Exec.field F66_1 rfl p36592 rfl ⟨rfl, ?_⟩)
                  refine DL_q rfl rfl (Exec.load_box ((hS36745).f2) A3 rfl rfl rfl ⟨rfl, ?_⟩)
                  obtain ⟨x36753, q36754, ht36684⟩ := bind_some ht36684
                  refine DL_q rfl rfl (Exec.index_repE S22 rfl rfl rfl (a27392.mono (PHeap.le.trans (PHeap.le.trans (PHeap.le.trans l32314 l35687) l36426) l36587)) q36754 ?_)
                  intro b36755 o36756 a36757 e36758
                  refine ⟨rfl, ?_⟩
                  refine DL_q rfl rfl (Exec.load_at (E := (encInt .i64)) hS36745 A3 rfl rfl rfl a36757 ?_)
                  intro v36759 q36760
                  obtain rfl := encInt_val.1 q36760
                  refine ⟨rfl, ?_⟩
                  refine DL_q rfl rfl (Exec.add rfl rfl rfl ⟨rfl, ?_⟩)
                  refine DL_done ?_
                  obtain ⟨x36761, q36762, ht36684⟩ := bind_some ht36684
                  obtain ⟨g36763, c36764, e36765⟩ := ((hS36745).f1).arr_at q36762
                  refine WL_step rfl rfl (Exec.index_slice S22 rfl e36765 rfl (idx_some q36762).1 (idx_some q36762).2.1 ?_)
                  obtain ⟨l36766, q36767, ht36684⟩ := bind_some ht36684
                  have hS36768 := (hS36745).f1
                  refine WL_step rfl rfl (Exec.store_arr hS36768 e36765 A3 rfl rfl rfl rfl (encInt_val.2 rfl) q36767 ?_)
                  intro w36769 hS36770
                  refine WL_step rfl rfl (Exec.assign (v := Value.bool (true)) rfl rfl ?_)
                  refine WL_nil (at_normal ?_)
                  have e36771 := Option.some.inj ht36684
                  subst t36683
                  have hS36772 := ((hS36770).f2).drop
                  have hS36773 := (hS36772).f1
                  exact ⟨s36586, (PHeap.le_refl _), hS36773, p36589, p36590, rfl, p36593, p36594, p36595⟩
                · refine W_cond_f p36596 hc36686 ?_
                  replace hc36686 := not_true hc36686
                  refine W_skip (at_normal ?_)
                  have e36774 := Option.some.inj ht36684
                  subst t36683
                  have hS36775 := ((hS36588).f2).drop
                  have hS36776 := (hS36775).f1
                  have hS36777 := (hS36776).f1
                  exact ⟨s36586, (PHeap.le_refl _), hS36777, p36589, p36590, p36591, p36593, p36594, p36595⟩
              · intro f36778 w36779 hM36780
                obtain ⟨changed36681, l36682⟩ := t36683
                replace hm36423 := un2_eq hm36423
                obtain ⟨s36781, l36782, hS36783, p36784, p36785, p36786, p36787, p36788, p36789⟩ := hM36780
                refine (ib_normal (at_normal ?_))
                refine W_region ?_
                refine WL_step rfl rfl (Exec.add rfl p36789 rfl ?_)
                refine WL_step rfl rfl (Exec.move (v := Value.int .i64 (IntKind.i64.wrap ((i35693 : Int) + 1))) rfl rfl ?_)
                refine WL_nil (at_normal ?_)
                have e36790 := Option.some.inj hm36423
                subst s36418
                have hS36791 := (hS36783).f1
                have hS36792 := (hS36791).f1
                exact ⟨s36781, (PHeap.le.trans (PHeap.le.trans l36426 l36587) l36782), hS36792, p36784, p36785, p36786, p36787, p36788, (Eq.trans rfl (wrap_up hi36421 (SliceRep.le (a27394.mono (PHeap.le.trans l32314 l35687)))))⟩
          · intro f36793 w36794 hI36795
            obtain ⟨changed36051, l36052⟩ := t36412
            replace hm35683 := un2_eq hm35683
            obtain ⟨s36796, l36797, hS36798, p36799, p36800, p36801, p36802, p36803, x36804⟩ := hI36795
            refine W_seq ?_
            refine W_region ?_
            refine WL_step rfl rfl (Exec.lss rfl x36804 p36803 ?_)
            refine WL_nil (at_normal ?_)
            refine W_seq ?_
            refine W_false (congrArg Value.bool (decide_eq_false (by omega))) ?_
            refine W_exit (at_exit (at_exit (ib_here (ib_normal (at_normal ?_)))))
            have e36805 := Option.some.inj hm35683
            subst c35679
            have hS36806 := (hS36798).f1
            have hS36807 := (hS36806).f1
            refine ⟨_, rfl, ?_⟩; exact ⟨s36796, (PHeap.le.trans l35687 l36797), hS36807, p36799, p36800, p36801⟩
        · refine W_cond_f rfl hc35692 ?_
          replace hc35692 := not_true hc35692
          refine W_exit (at_exit (at_exit (ib_here (at_normal ?_))))
          have e36808 := Option.some.inj hm35683
          subst c35679
          have hS36809 := (hS35688).f1
          have hS36810 := (hS36809).f1
          refine ⟨_, .inr (hres35684 (by intro _ h; cases h)), ?_⟩; exact ⟨s35686, l35687, hS36810, p35689, p35690, p35691⟩
    · rintro f36811 w36812 ⟨t36813, hc36814, hM36815⟩
      have hm := hc36814.elim (hn35672 _) (hb35673 _)
      clear hc36814
      obtain ⟨changed35667, l35668⟩ := t36813
      replace hm := un2_eq hm
      obtain ⟨s36816, l36817, hS36818, p36819, p36820, p36821⟩ := hM36815
      refine (at_normal ?_)
      refine W_seq ?_
      refine W_region ?_
      refine WL_step rfl rfl (Exec.move (v := v32177) rfl p36820 ?_)
      refine WL_step rfl rfl (Exec.assign (v := v32177) rfl rfl ?_)
      refine WL_nil (at_normal ?_)
      refine W_ret ?_
      have e36823 := Option.some.inj hm
      subst r
      refine ⟨_, ret1 rfl, ?_⟩
      have hS36824 := (hS36818).f1
      obtain ⟨s36825, l36826, hS36827, r36828⟩ := hS36824.freezeArr
      have hS36829 := (hS36827).drop
      exact ⟨s36825, v32177, (PHeap.le.trans (PHeap.le.trans l32314 l36817) l36826), hS36829, rfl, r36828⟩

theorem N22 : (Try.f22.name == "runtime.NumGoroutine") = false := by kernel_rfl

theorem ref44_Costs_sim {w0 w : World} {s : PHeap} {H : List Res} {x36847 : System} {v36848 : Value} {v36850 : Value} {v36852 : Value} {r : (List Int)} (hm : ref44_Costs_p x36847 = some r) (hS : St w0 s (H) w) (a36849 : SliceRep (encInt .i64) s v36848 x36847.Costs) (a36851 : SliceRep encEdge s v36850 x36847.Edges) (a36853 : SliceRep encBool s v36852 x36847.Goals) :
    Calls Try.prog 22 #[Value.agg #[Value.int .i64 (x36847.States), Value.int .i64 (x36847.Init), v36848, v36850, v36852]] w fun e w' => ∃ v, e = .returned v ∧ ((fun (y37143 : (List Int)) => ∃ (s37145 : PHeap) (v37144 : Value), PHeap.le s s37145 ∧ St w0 s37145 (H) w' ∧ v = v37144 ∧ SliceRep (encInt .i64) s37145 v37144 y37143) r) := by
  unfold ref44_Costs_p at hm
  refine calls_of_W Try.func22 rfl rfl ?_
  refine W_seq ?_
  refine W_region ?_
  refine WL_step rfl rfl (Exec.box (cs := [Value.int .i64 (x36847.States), Value.int .i64 (x36847.Init), v36848, v36850, v36852]) hS rfl rfl rfl ?_)
  intro b37149 w37150 hS37151
  refine WL_step rfl rfl (Exec.assign (v := Value.slice none 0 0) rfl rfl ?_)
  refine WL_nil (at_normal ?_)
  refine W_seq ?_
  obtain ⟨l37153, q37154, hm⟩ := bind_some hm
  refine W_mid (M := fun f' w' => ∃ (s37176 : PHeap) (b37173 : Nat) (v37175 : Value), PHeap.le s s37176 ∧ St w0 s37176 (Res.box b37149 26 [Value.int .i64 (x36847.States), Value.int .i64 (x36847.Init), v36848, v36850, v36852] :: Res.box b37173 26 [Value.int .i64 (x36847.States), Value.int .i64 (0), v36848, Value.slice none 0 0, v37175] :: Res.arr encBool 4 v37175 l37153 :: H) w' ∧ f' 1 = Value.pointer (some ⟨b37149, 0, none⟩) ∧ f' 3 = Value.pointer (some ⟨b37173, 0, none⟩)) ?_ ?_
  · refine W_dl (n0 := 9) (.q 0 (.q 1 (.q 2 (.q 3 (.q 4 (.q 5 (.alt (.e 6 [0, 1, 2, 3] (.q 7 (.e 8 [0, 1, 2, 3, 7] .done))) (.e 8 [0, 1, 2, 3, 4, 5] (.e 6 [0, 1, 2, 3] (.q 7 .done)))))))))) hmix (by kernel_rfl) (by kernel_rfl) ?_
    have hS37177 := hS37151.drew
    refine DL_q rfl rfl (Exec.field F26_0 rfl rfl rfl ⟨rfl, ?_⟩)
    refine DL_q rfl rfl (Exec.load_box (hS37177) A3 rfl rfl rfl ⟨rfl, ?_⟩)
    refine DL_q rfl rfl (Exec.field F26_2 rfl rfl rfl ⟨rfl, ?_⟩)
    refine DL_q rfl rfl (Exec.load_box (hS37177) A22 rfl rfl rfl ⟨rfl, ?_⟩)
    refine DL_q rfl rfl (Exec.field F26_0 rfl rfl rfl ⟨rfl, ?_⟩)
    refine DL_q rfl rfl (Exec.load_box (hS37177) A3 rfl rfl rfl ⟨rfl, ?_⟩)
    refine DL_alt ?_ ?_
    · refine DL_e rfl rfl (Exec.make (E := encBool) hS37177 S24 Z4 rfl rfl rfl rfl q37154 ?_)
      intro v37178 w37179 hS37180
      refine ⟨(ag_cons (ag_r rfl rfl (Exec.field F26_0 rfl rfl rfl ⟨rfl, rfl⟩)) (ag_cons (ag_r rfl rfl (Exec.load_box ((hS37180).f1) A3 rfl rfl rfl ⟨rfl, rfl⟩)) (ag_cons (ag_r rfl rfl (Exec.field F26_2 rfl rfl rfl ⟨rfl, rfl⟩)) (ag_cons (ag_r rfl rfl (Exec.load_box ((hS37180).f1) A22 rfl rfl rfl ⟨rfl, rfl⟩)) ag_nil)))), ?_⟩
      refine DL_q rfl rfl (Exec.build rfl (parts_cons (c := [Value.int .i64 (x36847.States)]) (cells_of rfl rfl) (parts_cons (c := [v36848]) (cells_of rfl (cells_one (a36849).one)) (parts_cons (c := [v37178]) (cells_of rfl (cells_one (hS37180).arr_one)) parts_nil))) (v := Value.agg #[Value.int .i64 (x36847.States), Value.int .i64 (0), v36848, Value.slice none 0 0, v37178]) (fun _ => by kernel_rfl) ⟨rfl, ?_⟩)
      refine DL_e rfl rfl (Exec.alloc (cs := [Value.int .i64 (0), Value.int .i64 (0), Value.slice none 0 0, Value.slice none 0 0, Value.slice none 0 0]) hS37180 Z26 rfl rfl ?_)
      intro b37181 w37182 hS37183
      refine ⟨(ag_cons (ag_r rfl rfl (Exec.field F26_0 rfl rfl rfl ⟨rfl, rfl⟩)) (ag_cons (ag_r rfl rfl (Exec.load_box ((hS37183).f2) A3 rfl rfl rfl ⟨rfl, rfl⟩)) (ag_cons (ag_r rfl rfl (Exec.field F26_2 rfl rfl rfl ⟨rfl, rfl⟩)) (ag_cons (ag_r rfl rfl (Exec.load_box ((hS37183).f2) A22 rfl rfl rfl ⟨rfl, rfl⟩)) (ag_cons (ag_r rfl rfl (Exec.build rfl (parts_cons (c := [Value.int .i64 (x36847.States)]) (cells_of rfl rfl) (parts_cons (c := [v36848]) (cells_of rfl (cells_one (a36849).one)) (parts_cons (c := [v37178]) (cells_of rfl (cells_one ((hS37183).f1).arr_one)) parts_nil))) (v := Value.agg #[Value.int .i64 (x36847.States), Value.int .i64 (0), v36848, Value.slice none 0 0, v37178]) (fun _ => by kernel_rfl) ⟨rfl, rfl⟩)) ag_nil))))), ?_⟩
      refine DL_done ?_
      refine WL_step rfl rfl (Exec.store_box (ds := [Value.int .i64 (x36847.States), Value.int .i64 (0), v36848, Value.slice none 0 0, v37178]) (es := [Value.int .i64 (x36847.States), Value.int .i64 (0), v36848, Value.slice none 0 0, v37178]) hS37183 A26 rfl rfl rfl rfl (one_cons rfl (one_cons rfl (one_cons (a36849).one (one_cons rfl (one_cons ((hS37183).f1).arr_one one_nil))))) (Nat.le_of_ble_eq_true rfl) rfl ?_)
      intro w37184 hS37185
      refine WL_nil (at_normal ?_)
      have hS37186 := (hS37185).f1
      have hS37187 := (hS37186).f1
      have hS37188 := (hS37187).f2
      exact ⟨s, b37181, v37178, (PHeap.le_refl _), hS37188, rfl, rfl⟩
    refine DL_e rfl rfl (Exec.alloc (cs := [Value.int .i64 (0), Value.int .i64 (0), Value.slice none 0 0, Value.slice none 0 0, Value.slice none 0 0]) hS37177 Z26 rfl rfl ?_)
    intro b37189 w37190 hS37191
    refine ⟨(ag_cons (ag_r rfl rfl (Exec.field F26_0 rfl rfl rfl ⟨rfl, rfl⟩)) (ag_cons (ag_r rfl rfl (Exec.load_box ((hS37191).f1) A3 rfl rfl rfl ⟨rfl, rfl⟩)) (ag_cons (ag_r rfl rfl (Exec.field F26_2 rfl rfl rfl ⟨rfl, rfl⟩)) (ag_cons (ag_r rfl rfl (Exec.load_box ((hS37191).f1) A22 rfl rfl rfl ⟨rfl, rfl⟩)) (ag_cons (ag_r rfl rfl (Exec.field F26_0 rfl rfl rfl ⟨rfl, rfl⟩)) (ag_cons (ag_r rfl rfl (Exec.load_box ((hS37191).f1) A3 rfl rfl rfl ⟨rfl, rfl⟩)) ag_nil)))))), ?_⟩
    refine DL_e rfl rfl (Exec.make (E := encBool) hS37191 S24 Z4 rfl rfl rfl rfl q37154 ?_)
    intro v37192 w37193 hS37194
    refine ⟨(ag_cons (ag_r rfl rfl (Exec.field F26_0 rfl rfl rfl ⟨rfl, rfl⟩)) (ag_cons (ag_r rfl rfl (Exec.load_box ((hS37194).f2) A3 rfl rfl rfl ⟨rfl, rfl⟩)) (ag_cons (ag_r rfl rfl (Exec.field F26_2 rfl rfl rfl ⟨rfl, rfl⟩)) (ag_cons (ag_r rfl rfl (Exec.load_box ((hS37194).f2) A22 rfl rfl rfl ⟨rfl, rfl⟩)) ag_nil)))), ?_⟩
    refine DL_q rfl rfl (Exec.build rfl (parts_cons (c := [Value.int .i64 (x36847.States)]) (cells_of rfl rfl) (parts_cons (c := [v36848]) (cells_of rfl (cells_one (a36849).one)) (parts_cons (c := [v37192]) (cells_of rfl (cells_one (hS37194).arr_one)) parts_nil))) (v := Value.agg #[Value.int .i64 (x36847.States), Value.int .i64 (0), v36848, Value.slice none 0 0, v37192]) (fun _ => by kernel_rfl) ⟨rfl, ?_⟩)
    refine DL_done ?_
    have hS37195 := (hS37194).f1
    refine WL_step rfl rfl (Exec.store_box (ds := [Value.int .i64 (x36847.States), Value.int .i64 (0), v36848, Value.slice none 0 0, v37192]) (es := [Value.int .i64 (x36847.States), Value.int .i64 (0), v36848, Value.slice none 0 0, v37192]) hS37195 A26 rfl rfl rfl rfl (one_cons rfl (one_cons rfl (one_cons (a36849).one (one_cons rfl (one_cons ((hS37195).f1).arr_one one_nil))))) (Nat.le_of_ble_eq_true rfl) rfl ?_)
    intro w37196 hS37197
    refine WL_nil (at_normal ?_)
    have hS37198 := (hS37197).f1
    have hS37199 := (hS37198).f1
    have hS37200 := (hS37199).f2
    exact ⟨s, b37189, v37192, (PHeap.le_refl _), hS37200, rfl, rfl⟩
  · intro f37201 w37202 hM37203
    obtain ⟨s37204, b37173, v37175, l37205, hS37206, p37207, p37208⟩ := hM37203
    refine (at_normal ?_)
    refine W_seq ?_
    refine W_region ?_
    refine WL_step rfl rfl (Exec.field F26_4 rfl p37208 rfl ?_)
    refine WL_step rfl rfl (Exec.load_box ((hS37206).f1) A24 rfl rfl rfl ?_)
    refine WL_step rfl rfl (Exec.field F26_1 rfl p37207 rfl ?_)
    refine WL_step rfl rfl (Exec.load_box (hS37206) A3 rfl rfl rfl ?_)
    obtain ⟨x37219, q37220, hm⟩ := bind_some hm
    obtain ⟨g37221, c37222, e37223⟩ := ((hS37206).f2).arr_at q37220
    refine WL_step rfl rfl (Exec.index_slice S24 rfl e37223 rfl (idx_some q37220).1 (idx_some q37220).2.1 ?_)
    obtain ⟨l37224, q37225, hm⟩ := bind_some hm
    have hS37226 := (hS37206).f2
    refine WL_step rfl rfl (Exec.store_arr hS37226 e37223 A4 rfl rfl rfl rfl (encBool_val.2 rfl) q37225 ?_)
    intro w37227 hS37228
    refine WL_nil (at_normal ?_)
    refine W_seq ?_
    refine W_seq ?_
    refine W_region ?_
    refine WL_step rfl rfl (Exec.field F26_3 rfl p37207 rfl ?_)
    refine WL_step rfl rfl (Exec.load_box ((hS37228).f1) A23 rfl rfl rfl ?_)
    refine WL_step rfl rfl (Exec.len_rep S23 rfl rfl (a36851.mono l37205) ?_)
    refine WL_step rfl rfl (Exec.move (v := Value.int .i64 (0)) rfl rfl ?_)
    refine WL_nil (at_normal ?_)
    obtain ⟨z37283, hB37336, hm⟩ := bind_some hm
    refine W_block (W_forS (fun k' s' f' w' => (fun (z37283 : (List Edge)) => ∃ (s37337 : PHeap) (v37284 : Value), PHeap.le s37204 s37337 ∧ St w0 s37337 (Res.box b37173 26 [Value.int .i64 (x36847.States), Value.int .i64 (0), v36848, v37284, v37175] :: Res.arr encEdge 66 v37284 z37283 :: Res.arr encBool 4 v37175 l37224 :: H) w' ∧ f' 3 = Value.pointer (some ⟨b37173, 0, none⟩) ∧ f' 20 = v36850 ∧ f' 21 = Value.int .i64 ((x36847.Edges.length : Int)) ∧ f' 22 = Value.int .i64 (k' : Int)) s') hB37336 ?_ ?_ ?_)
    · have hS37338 := hS37228.nilArr encEdge 66
      have hS37339 := ((hS37338).f2).drop
      have hS37340 := (hS37339).f1
      have hS37341 := (hS37340).f1
      have hS37342 := (hS37341).f2
      exact ⟨s37204, (Value.slice none 0 0), (PHeap.le_refl _), hS37342, p37208, rfl, rfl, rfl⟩
    · intro i37229 z37283 s37344 f37345 w37346 hi37347 hI37348 hm37349
      obtain ⟨s37350, v37284, l37351, hS37352, p37353, p37354, p37355, x37356⟩ := hI37348
      refine W_seq ?_
      refine W_region ?_
      refine WL_step rfl rfl (Exec.lss rfl x37356 p37355 ?_)
      refine WL_nil (at_normal ?_)
      refine W_seq ?_
      refine W_true (congrArg Value.bool (decide_eq_true (by omega))) ?_
      refine W_skip (at_normal ?_)
      refine W_seq ?_
      refine W_block ?_
      refine W_seq ?_
      refine W_region ?_
      obtain ⟨x37369, q37370, hm37349⟩ := bind_some hm37349
      refine WL_step rfl rfl (Exec.index_rep S23 rfl p37354 x37356 (a36851.mono (PHeap.le.trans l37205 l37351)) q37370 ?_)
      intro b37371 o37372 a37373
      refine WL_step rfl rfl (Exec.load_at (E := encEdge) hS37352 A66 rfl rfl rfl a37373 ?_)
      intro v37374 q37375
      obtain rfl := encEdge_val.1 q37375
      refine WL_step rfl rfl (Exec.alloc (cs := [Value.int .i64 (0), Value.int .i64 (0), Value.int .i64 (0)]) hS37352 Z66 rfl rfl ?_)
      intro b37376 w37377 hS37378
      refine WL_step rfl rfl (Exec.store_box (ds := [Value.int .i64 (x37369.From), Value.int .i64 (x37369.Label), Value.int .i64 (x37369.To)]) (es := [Value.int .i64 (x37369.From), Value.int .i64 (x37369.Label), Value.int .i64 (x37369.To)]) hS37378 A66 rfl rfl rfl rfl (one_cons rfl (one_cons rfl (one_cons rfl one_nil))) (Nat.le_of_ble_eq_true rfl) rfl ?_)
      intro w37379 hS37380
      refine WL_nil (at_normal ?_)
      refine W_region ?_
      refine WL_step rfl rfl (Exec.field F26_3 rfl p37353 rfl ?_)
      refine WL_step rfl rfl (Exec.load_box ((hS37380).f1) A23 rfl rfl rfl ?_)
      refine WL_step rfl rfl (Exec.field F66_2 rfl rfl rfl ?_)
      refine WL_step rfl rfl (Exec.load_box (hS37380) A3 rfl rfl rfl ?_)
      refine WL_step rfl rfl (Exec.field F66_1 rfl rfl rfl ?_)
      refine WL_step rfl rfl (Exec.load_box (hS37380) A3 rfl rfl rfl ?_)
      refine WL_step rfl rfl (Exec.field F66_0 rfl rfl rfl ?_)
      refine WL_step rfl rfl (Exec.load_box (hS37380) A3 rfl rfl rfl ?_)
      refine WL_step rfl rfl (Exec.build rfl (parts_cons (c := [Value.int .i64 (x37369.To)]) (cells_of rfl rfl) (parts_cons (c := [Value.int .i64 (x37369.Label)]) (cells_of rfl rfl) (parts_cons (c := [Value.int .i64 (x37369.From)]) (cells_of rfl rfl) parts_nil))) (v := Value.agg #[Value.int .i64 (x37369.To), Value.int .i64 (x37369.Label), Value.int .i64 (x37369.From)]) (fun _ => by kernel_rfl) ?_)
      refine WL_step rfl rfl (Exec.buildSlice (Te := 66) (cs := [Value.int .i64 (x37369.To), Value.int .i64 (x37369.Label), Value.int .i64 (x37369.From)]) hS37380 rfl (parts_cons (c := [Value.int .i64 (x37369.To), Value.int .i64 (x37369.Label), Value.int .i64 (x37369.From)]) (cells_of rfl rfl) parts_nil) (fun _ => by kernel_rfl) ?_)
      intro b37393 w37394 hS37395
      obtain ⟨l37396, q37397, hm37349⟩ := bind_some hm37349
      have hS37398 := (hS37395).f3
      refine WL_step rfl rfl (Exec.append_box (E := encEdge) (ys := [(⟨x37369.To, x37369.Label, x37369.From⟩ : Edge)]) hS37398 S23 Z66 rfl (by decide) rfl rfl rfl rfl ⟨[Value.int .i64 (x37369.To), Value.int .i64 (x37369.Label), Value.int .i64 (x37369.From)], [], rfl, ⟨[Value.int .i64 (x37369.To)], [Value.int .i64 (x37369.Label), Value.int .i64 (x37369.From)], rfl, rfl, ⟨[Value.int .i64 (x37369.Label)], [Value.int .i64 (x37369.From)], rfl, rfl, rfl⟩⟩, rfl⟩ rfl q37397 ?_)
      intro v37399 w37400 hS37401
      refine WL_step rfl rfl (Exec.field F26_3 rfl p37353 rfl ?_)
      have hS37402 := (hS37401).f2
      refine WL_step rfl rfl (Exec.store_box (ds := [v37399]) (es := [Value.int .i64 (x36847.States), Value.int .i64 (0), v36848, v37399, v37175]) hS37402 A23 rfl rfl rfl (cells_one ((hS37402).f1).arr_one) (one_cons ((hS37402).f1).arr_one one_nil) (Nat.le_of_ble_eq_true rfl) rfl ?_)
      intro w37403 hS37404
      refine WL_nil (ib_normal (at_normal ?_))
      refine W_region ?_
      refine WL_step rfl rfl (Exec.add rfl x37356 rfl ?_)
      refine WL_step rfl rfl (Exec.move (v := Value.int .i64 (IntKind.i64.wrap ((i37229 : Int) + 1))) rfl rfl ?_)
      refine WL_nil (at_normal ?_)
      have e37405 := Option.some.inj hm37349
      subst s37344
      have hS37406 := ((hS37404).f2).drop
      have hS37407 := (hS37406).f2
      have hS37408 := (hS37407).f2
      have hS37409 := (hS37408).f2
      exact ⟨s37350, v37399, l37351, hS37409, p37353, p37354, p37355, (Eq.trans rfl (wrap_up hi37347 (SliceRep.le (a36851.mono l37205))))⟩
    · intro f37410 w37411 hI37412
      obtain ⟨s37413, v37284, l37414, hS37415, p37416, p37417, p37418, x37419⟩ := hI37412
      refine W_seq ?_
      refine W_region ?_
      refine WL_step rfl rfl (Exec.lss rfl x37419 p37418 ?_)
      refine WL_nil (at_normal ?_)
      refine W_seq ?_
      refine W_false (congrArg Value.bool (decide_eq_false (by omega))) ?_
      refine W_exit (at_exit (at_exit (ib_here (at_normal ?_))))
      refine W_seq ?_
      refine W_region ?_
      refine WL_step rfl rfl (Exec.load_box_agg (ds := [Value.int .i64 (x36847.States), Value.int .i64 (0), v36848, v37284, v37175]) (hS37415) A26 rfl p37416 rfl ?_)
      have hS37439 := (hS37415).f1
      obtain ⟨s37440, l37441, hS37442, r37443⟩ := hS37439.freezeArr
      have hS37444 := (hS37442).f1
      obtain ⟨s37445, l37446, hS37447, r37448⟩ := hS37444.freezeArr
      obtain ⟨y37451, q37450, hm⟩ := bind_some hm
      refine WL_step rfl rfl (Exec.call rfl rfl Try.func21 rfl N21 (args_cons rfl args_nil) ((ref44_Distances_sim q37450 hS37447 (a36849.mono (PHeap.le.trans (PHeap.le.trans (PHeap.le.trans l37205 l37414) l37441) l37446)) (r37443.mono l37446) r37448).mono ?_))
      rintro _ w37452 ⟨v37456, rfl, ⟨s37453, _, l37454, hS37455, rfl, r37457⟩⟩
      refine ⟨_, rfl, ?_⟩
      refine WL_step rfl rfl (Exec.assign (v := v37456) rfl rfl ?_)
      refine WL_nil (at_normal ?_)
      refine W_ret ?_
      have e37459 := Option.some.inj hm
      subst r
      refine ⟨_, ret1 rfl, ?_⟩
      have hS37460 := (hS37455).drop
      exact ⟨s37453, v37456, (PHeap.le.trans (PHeap.le.trans (PHeap.le.trans (PHeap.le.trans l37205 l37414) l37441) l37446) l37454), hS37460, rfl, r37457⟩

theorem N5 : (Try.f5.name == "runtime.NumGoroutine") = false := by kernel_rfl

theorem law44_TransysDistances_sim {w0 w : World} {s : PHeap} {H : List Res} {x1 : System} {v2 : Value} {v4 : Value} {v6 : Value} {r : Bool} (hm : law44_TransysDistances_p x1 = some r) (hS : St w0 s (H) w) (a3 : SliceRep (encInt .i64) s v2 x1.Costs) (a5 : SliceRep encEdge s v4 x1.Edges) (a7 : SliceRep encBool s v6 x1.Goals) :
    Calls Try.prog 5 #[Value.agg #[Value.int .i64 (x1.States), Value.int .i64 (x1.Init), v2, v4, v6]] w fun e w' => ∃ v, e = .returned v ∧ ((fun (y37531 : Bool) => ∃ (s37532 : PHeap) , PHeap.le s s37532 ∧ St w0 s37532 (H) w' ∧ v = Value.bool (y37531)) r) := by
  unfold law44_TransysDistances_p at hm
  refine calls_of_W Try.func5 rfl rfl ?_
  refine W_seq ?_
  refine W_region ?_
  refine WL_step rfl rfl (Exec.box (cs := [Value.int .i64 (x1.States), Value.int .i64 (x1.Init), v2, v4, v6]) hS rfl rfl rfl ?_)
  intro b37536 w37537 hS37538
  refine WL_step rfl rfl (Exec.assign (v := Value.bool (false)) rfl rfl ?_)
  refine WL_nil (at_normal ?_)
  refine W_seq ?_
  refine W_seq ?_
  obtain ⟨z37562, ht37563, hm⟩ := bind_some hm
  refine W_mid (M := fun f' w' => (fun (z37562 : Bool) => ∃ (s37564 : PHeap) , PHeap.le s s37564 ∧ St w0 s37564 (Res.box b37536 26 [Value.int .i64 (x1.States), Value.int .i64 (x1.Init), v2, v4, v6] :: H) w' ∧ f' 1 = Value.pointer (some ⟨b37536, 0, none⟩) ∧ f' 17 = Value.bool (z37562)) z37562) ?_ ?_
  · refine W_region ?_
    obtain ⟨y37567, q37566, ht37563⟩ := bind_some ht37563
    refine WL_step rfl rfl (Exec.call rfl rfl Try.func10 rfl N10 args_nil ((law44_awake_sim q37566 hS37538 ).mono ?_))
    rintro _ w37568 ⟨_, rfl, ⟨s37569, l37570, hS37571, rfl⟩⟩
    refine ⟨_, rfl, ?_⟩
    refine WL_step rfl rfl (Exec.not rfl rfl ?_)
    refine WL_step rfl rfl (Exec.move (v := Value.bool (!y37567)) rfl rfl ?_)
    rcases ite_some ht37563 with ⟨hc37572, ht37563⟩ | ⟨hc37572, ht37563⟩
    · refine WL_pass rfl (yield_of rfl (congrArg Value.bool hc37572)) rfl rfl ?_
      refine WL_pass rfl (yield_of rfl (congrArg Value.bool hc37572)) rfl rfl ?_
      refine WL_step rfl rfl (Exec.pick_t (v := Value.bool (true)) rfl (congrArg Value.bool hc37572) rfl ?_)
      refine WL_step rfl rfl (Exec.move (v := Value.bool (true)) rfl rfl ?_)
      refine WL_pass rfl (yield_of rfl rfl) rfl rfl ?_
      refine WL_pass rfl (yield_of rfl rfl) rfl rfl ?_
      refine WL_pass rfl (yield_of rfl rfl) rfl rfl ?_
      refine WL_step rfl rfl (Exec.pick_t (v := Value.bool (true)) rfl rfl rfl ?_)
      refine WL_nil (at_normal ?_)
      have e37573 := Option.some.inj ht37563
      subst z37562
      exact ⟨s37569, l37570, hS37571, rfl, rfl⟩
    · replace hc37572 := not_true hc37572
      refine WL_run rfl (yield_of rfl (congrArg Value.bool hc37572)) rfl (Exec.load_box_agg (ds := [Value.int .i64 (x1.States), Value.int .i64 (x1.Init), v2, v4, v6]) (hS37571) A26 rfl rfl rfl ?_)
      obtain ⟨y37576, q37575, ht37563⟩ := bind_some ht37563
      refine WL_run rfl (yield_of rfl (congrArg Value.bool hc37572)) rfl (Exec.call rfl rfl Try.func11 rfl N11 (args_cons rfl args_nil) ((law44_large_sim q37575 hS37571 (a3.mono l37570) (a5.mono l37570) (a7.mono l37570)).mono ?_))
      rintro _ w37577 ⟨_, rfl, ⟨s37578, l37579, hS37580, rfl⟩⟩
      refine ⟨_, rfl, ?_⟩
      refine WL_step rfl rfl (Exec.pick_f (v := Value.bool (y37576)) rfl (congrArg Value.bool hc37572) rfl ?_)
      refine WL_step rfl rfl (Exec.move (v := Value.bool (y37576)) rfl rfl ?_)
      rcases ite_some ht37563 with ⟨hc37581, ht37563⟩ | ⟨hc37581, ht37563⟩
      · refine WL_pass rfl (yield_of rfl (congrArg Value.bool hc37581)) rfl rfl ?_
        refine WL_pass rfl (yield_of rfl (congrArg Value.bool hc37581)) rfl rfl ?_
        refine WL_pass rfl (yield_of rfl (congrArg Value.bool hc37581)) rfl rfl ?_
        refine WL_step rfl rfl (Exec.pick_t (v := Value.bool (true)) rfl (congrArg Value.bool hc37581) rfl ?_)
        refine WL_nil (at_normal ?_)
        have e37582 := Option.some.inj ht37563
        subst z37562
        exact ⟨s37578, (PHeap.le.trans l37570 l37579), hS37580, rfl, rfl⟩
      · replace hc37581 := not_true hc37581
        refine WL_run rfl (yield_of rfl (congrArg Value.bool hc37581)) rfl (Exec.load_box_agg (ds := [Value.int .i64 (x1.States), Value.int .i64 (x1.Init), v2, v4, v6]) (hS37580) A26 rfl rfl rfl ?_)
        obtain ⟨y37585, q37584, ht37563⟩ := bind_some ht37563
        refine WL_run rfl (yield_of rfl (congrArg Value.bool hc37581)) rfl (Exec.call rfl rfl Try.func17 rfl N17 (args_cons rfl args_nil) ((ref44_Valid_sim q37584 hS37580 (a3.mono (PHeap.le.trans l37570 l37579)) (a5.mono (PHeap.le.trans l37570 l37579)) (a7.mono (PHeap.le.trans l37570 l37579))).mono ?_))
        rintro _ w37586 ⟨_, rfl, ⟨s37587, l37588, hS37589, rfl⟩⟩
        refine ⟨_, rfl, ?_⟩
        refine WL_run rfl (yield_of rfl (congrArg Value.bool hc37581)) rfl (Exec.not rfl rfl ?_)
        refine WL_step rfl rfl (Exec.pick_f (v := Value.bool (!y37585)) rfl (congrArg Value.bool hc37581) rfl ?_)
        refine WL_nil (at_normal ?_)
        have e37590 := Option.some.inj ht37563
        subst z37562
        exact ⟨s37587, (PHeap.le.trans (PHeap.le.trans l37570 l37579) l37588), hS37589, rfl, rfl⟩
  · intro f37591 w37592 hM37593
    obtain ⟨s37594, l37595, hS37596, p37597, p37598⟩ := hM37593
    refine (at_normal ?_)
    rcases ite_some hm with ⟨hc37599, hm⟩ | ⟨hc37599, hm⟩
    · refine W_cond_t p37598 hc37599 ?_
      refine W_seq ?_
      refine W_region ?_
      obtain ⟨y37609, q37608, hm⟩ := bind_some hm
      refine WL_step rfl rfl (Exec.call rfl rfl Try.func10 rfl N10 args_nil ((law44_awake_sim q37608 hS37596 ).mono ?_))
      rintro _ w37610 ⟨_, rfl, ⟨s37611, l37612, hS37613, rfl⟩⟩
      refine ⟨_, rfl, ?_⟩
      refine WL_step rfl rfl (Exec.assign (v := Value.bool (y37609)) rfl rfl ?_)
      refine WL_nil (at_normal ?_)
      refine W_ret (at_ret ?_)
      have e37615 := Option.some.inj hm
      subst r
      refine ⟨_, ret1 rfl, ?_⟩
      have hS37616 := (hS37613).drop
      exact ⟨s37611, (PHeap.le.trans l37595 l37612), hS37616, rfl⟩
    · refine W_cond_f p37598 hc37599 ?_
      replace hc37599 := not_true hc37599
      refine W_skip (at_normal ?_)
      refine W_seq ?_
      refine W_region ?_
      refine WL_step rfl rfl (Exec.load_box_agg (ds := [Value.int .i64 (x1.States), Value.int .i64 (x1.Init), v2, v4, v6]) (hS37596) A26 rfl p37597 rfl ?_)
      obtain ⟨t37627, q37628, hm⟩ := bind_some hm
      obtain ⟨y37629, y37630⟩ := t37627
      replace hm := un2_eq hm
      refine WL_step rfl rfl (Exec.call rfl rfl Try.func18 rfl N18 (args_cons rfl args_nil) ((transys_Distances_sim q37628 hS37596 (a3.mono l37595) (a5.mono l37595) (a7.mono l37595)).mono ?_))
      rintro _ w37631 ⟨_, rfl, ⟨s37632, v37635, l37633, hS37634, rfl, r37636⟩⟩
      refine ⟨_, rfl, ?_⟩
      refine WL_step rfl rfl (Exec.move (v := Value.tuple #[v37635, errV 39 (y37630)]) rfl rfl ?_)
      refine WL_step rfl rfl (Exec.extract (v := v37635) rfl rfl rfl ?_)
      refine WL_step rfl rfl (Exec.extract (v := errV 39 (y37630)) rfl rfl rfl ?_)
      refine WL_step rfl rfl (Exec.assign (v := v37635) rfl rfl ?_)
      refine WL_step rfl rfl (Exec.assign (v := errV 39 (y37630)) rfl rfl ?_)
      refine WL_nil (at_normal ?_)
      refine W_seq ?_
      refine W_region ?_
      refine WL_step rfl rfl (Exec.load_box_agg (ds := [Value.int .i64 (x1.States), Value.int .i64 (x1.Init), v2, v4, v6]) (hS37634) A26 rfl p37597 rfl ?_)
      obtain ⟨t37647, q37648, hm⟩ := bind_some hm
      obtain ⟨y37649, y37650⟩ := t37647
      replace hm := un2_eq hm
      refine WL_step rfl rfl (Exec.call rfl rfl Try.func19 rfl N19 (args_cons rfl args_nil) ((transys_Costs_sim q37648 hS37634 (a3.mono (PHeap.le.trans l37595 l37633)) (a5.mono (PHeap.le.trans l37595 l37633)) (a7.mono (PHeap.le.trans l37595 l37633))).mono ?_))
      rintro _ w37651 ⟨_, rfl, ⟨s37652, v37655, l37653, hS37654, rfl, r37656⟩⟩
      refine ⟨_, rfl, ?_⟩
      refine WL_step rfl rfl (Exec.move (v := Value.tuple #[v37655, errV 39 (y37650)]) rfl rfl ?_)
      refine WL_step rfl rfl (Exec.extract (v := v37655) rfl rfl rfl ?_)
      refine WL_step rfl rfl (Exec.extract (v := errV 39 (y37650)) rfl rfl rfl ?_)
      refine WL_step rfl rfl (Exec.assign (v := v37655) rfl rfl ?_)
      refine WL_step rfl rfl (Exec.assign (v := errV 39 (y37650)) rfl rfl ?_)
      refine WL_nil (at_normal ?_)
      refine W_seq ?_
      obtain ⟨z37692, ht37693, hm⟩ := bind_some hm
      refine W_mid (M := fun f' w' => (fun (z37692 : Bool) => ∃ (s37694 : PHeap) , PHeap.le s37652 s37694 ∧ St w0 s37694 (H) w' ∧ f' 2 = Value.bool (z37692)) z37692) ?_ ?_
      · refine W_region ?_
        refine WL_step rfl rfl (Exec.move (v := errV 39 (y37630)) rfl rfl ?_)
        refine WL_step rfl rfl (Exec.err_eql_nil (T := 39) Try.underlying30 rfl rfl rfl ?_)
        refine WL_step rfl rfl (Exec.move (v := Value.bool (y37630.isNone)) rfl rfl ?_)
        rcases ite_some ht37693 with ⟨hc37695, ht37693⟩ | ⟨hc37695, ht37693⟩
        · refine WL_run rfl (yield_of rfl (congrArg Value.bool hc37695)) rfl (Exec.move (v := errV 39 (y37650)) rfl rfl ?_)
          refine WL_run rfl (yield_of rfl (congrArg Value.bool hc37695)) rfl (Exec.err_eql_nil (T := 39) Try.underlying30 rfl rfl rfl ?_)
          refine WL_step rfl rfl (Exec.pick_t (v := Value.bool (y37650.isNone)) rfl (congrArg Value.bool hc37695) rfl ?_)
          refine WL_step rfl rfl (Exec.move (v := Value.bool (y37650.isNone)) rfl rfl ?_)
          rcases ite_some ht37693 with ⟨hc37696, ht37693⟩ | ⟨hc37696, ht37693⟩
          · refine WL_run rfl (yield_of rfl (congrArg Value.bool hc37696)) rfl (Exec.move (v := v37635) rfl rfl ?_)
            refine WL_run rfl (yield_of rfl (congrArg Value.bool hc37696)) rfl (Exec.load_box_agg (ds := [Value.int .i64 (x1.States), Value.int .i64 (x1.Init), v2, v4, v6]) (hS37654) A26 rfl p37597 rfl ?_)
            obtain ⟨y37699, q37698, ht37693⟩ := bind_some ht37693
            refine WL_run rfl (yield_of rfl (congrArg Value.bool hc37696)) rfl (Exec.call rfl rfl Try.func21 rfl N21 (args_cons rfl args_nil) ((ref44_Distances_sim q37698 hS37654 (a3.mono (PHeap.le.trans (PHeap.le.trans l37595 l37633) l37653)) (a5.mono (PHeap.le.trans (PHeap.le.trans l37595 l37633) l37653)) (a7.mono (PHeap.le.trans (PHeap.le.trans l37595 l37633) l37653))).mono ?_))
            rintro _ w37700 ⟨v37704, rfl, ⟨s37701, _, l37702, hS37703, rfl, r37705⟩⟩
            refine ⟨_, rfl, ?_⟩
            obtain ⟨y37708, q37707, ht37693⟩ := bind_some ht37693
            refine WL_run rfl (yield_of rfl (congrArg Value.bool hc37696)) rfl (Exec.call rfl rfl Try.func20 rfl N20 (args_cons rfl (args_cons rfl args_nil)) ((base_Ints_sim q37707 hS37703 (r37636.mono (PHeap.le.trans l37653 l37702)) r37705).mono ?_))
            rintro _ w37709 ⟨_, rfl, ⟨s37710, l37711, hS37712, rfl⟩⟩
            refine ⟨_, rfl, ?_⟩
            refine WL_step rfl rfl (Exec.pick_t (v := Value.bool (y37708)) rfl (congrArg Value.bool hc37696) rfl ?_)
            refine WL_step rfl rfl (Exec.move (v := Value.bool (y37708)) rfl rfl ?_)
            rcases ite_some ht37693 with ⟨hc37713, ht37693⟩ | ⟨hc37713, ht37693⟩
            · refine WL_run rfl (yield_of rfl (congrArg Value.bool hc37713)) rfl (Exec.move (v := v37655) rfl rfl ?_)
              refine WL_run rfl (yield_of rfl (congrArg Value.bool hc37713)) rfl (Exec.load_box_agg (ds := [Value.int .i64 (x1.States), Value.int .i64 (x1.Init), v2, v4, v6]) (hS37712) A26 rfl p37597 rfl ?_)
              obtain ⟨y37716, q37715, ht37693⟩ := bind_some ht37693
              refine WL_run rfl (yield_of rfl (congrArg Value.bool hc37713)) rfl (Exec.call rfl rfl Try.func22 rfl N22 (args_cons rfl args_nil) ((ref44_Costs_sim q37715 hS37712 (a3.mono (PHeap.le.trans (PHeap.le.trans (PHeap.le.trans (PHeap.le.trans l37595 l37633) l37653) l37702) l37711)) (a5.mono (PHeap.le.trans (PHeap.le.trans (PHeap.le.trans (PHeap.le.trans l37595 l37633) l37653) l37702) l37711)) (a7.mono (PHeap.le.trans (PHeap.le.trans (PHeap.le.trans (PHeap.le.trans l37595 l37633) l37653) l37702) l37711))).mono ?_))
              rintro _ w37717 ⟨v37721, rfl, ⟨s37718, _, l37719, hS37720, rfl, r37722⟩⟩
              refine ⟨_, rfl, ?_⟩
              obtain ⟨y37725, q37724, ht37693⟩ := bind_some ht37693
              refine WL_run rfl (yield_of rfl (congrArg Value.bool hc37713)) rfl (Exec.call rfl rfl Try.func20 rfl N20 (args_cons rfl (args_cons rfl args_nil)) ((base_Ints_sim q37724 hS37720 (r37656.mono (PHeap.le.trans (PHeap.le.trans l37702 l37711) l37719)) r37722).mono ?_))
              rintro _ w37726 ⟨_, rfl, ⟨s37727, l37728, hS37729, rfl⟩⟩
              refine ⟨_, rfl, ?_⟩
              refine WL_step rfl rfl (Exec.pick_t (v := Value.bool (y37725)) rfl (congrArg Value.bool hc37713) rfl ?_)
              refine WL_step rfl rfl (Exec.assign (v := Value.bool (y37725)) rfl rfl ?_)
              refine WL_nil (at_normal ?_)
              have e37730 := Option.some.inj ht37693
              subst z37692
              have hS37731 := (hS37729).drop
              exact ⟨s37727, (PHeap.le.trans (PHeap.le.trans (PHeap.le.trans l37702 l37711) l37719) l37728), hS37731, rfl⟩
            · replace hc37713 := not_true hc37713
              refine WL_pass rfl (yield_of rfl (congrArg Value.bool hc37713)) rfl rfl ?_
              refine WL_pass rfl (yield_of rfl (congrArg Value.bool hc37713)) rfl rfl ?_
              refine WL_pass rfl (yield_of rfl (congrArg Value.bool hc37713)) rfl rfl ?_
              refine WL_pass rfl (yield_of rfl (congrArg Value.bool hc37713)) rfl rfl ?_
              refine WL_step rfl rfl (Exec.pick_f (v := Value.bool (false)) rfl (congrArg Value.bool hc37713) rfl ?_)
              refine WL_step rfl rfl (Exec.assign (v := Value.bool (false)) rfl rfl ?_)
              refine WL_nil (at_normal ?_)
              have e37732 := Option.some.inj ht37693
              subst z37692
              have hS37733 := (hS37712).drop
              exact ⟨s37710, (PHeap.le.trans l37702 l37711), hS37733, rfl⟩
          · replace hc37696 := not_true hc37696
            refine WL_pass rfl (yield_of rfl (congrArg Value.bool hc37696)) rfl rfl ?_
            refine WL_pass rfl (yield_of rfl (congrArg Value.bool hc37696)) rfl rfl ?_
            refine WL_pass rfl (yield_of rfl (congrArg Value.bool hc37696)) rfl rfl ?_
            refine WL_pass rfl (yield_of rfl (congrArg Value.bool hc37696)) rfl rfl ?_
            refine WL_step rfl rfl (Exec.pick_f (v := Value.bool (false)) rfl (congrArg Value.bool hc37696) rfl ?_)
            refine WL_step rfl rfl (Exec.move (v := Value.bool (false)) rfl rfl ?_)
            refine WL_pass rfl (yield_of rfl rfl) rfl rfl ?_
            refine WL_pass rfl (yield_of rfl rfl) rfl rfl ?_
            refine WL_pass rfl (yield_of rfl rfl) rfl rfl ?_
            refine WL_pass rfl (yield_of rfl rfl) rfl rfl ?_
            refine WL_step rfl rfl (Exec.pick_f (v := Value.bool (false)) rfl rfl rfl ?_)
            refine WL_step rfl rfl (Exec.assign (v := Value.bool (false)) rfl rfl ?_)
            refine WL_nil (at_normal ?_)
            have e37734 := Option.some.inj ht37693
            subst z37692
            have hS37735 := (hS37654).drop
            exact ⟨s37652, (PHeap.le_refl _), hS37735, rfl⟩
        · replace hc37695 := not_true hc37695
          refine WL_pass rfl (yield_of rfl (congrArg Value.bool hc37695)) rfl rfl ?_
          refine WL_pass rfl (yield_of rfl (congrArg Value.bool hc37695)) rfl rfl ?_
          refine WL_step rfl rfl (Exec.pick_f (v := Value.bool (false)) rfl (congrArg Value.bool hc37695) rfl ?_)
          refine WL_step rfl rfl (Exec.move (v := Value.bool (false)) rfl rfl ?_)
          refine WL_pass rfl (yield_of rfl rfl) rfl rfl ?_
          refine WL_pass rfl (yield_of rfl rfl) rfl rfl ?_
          refine WL_pass rfl (yield_of rfl rfl) rfl rfl ?_
          refine WL_pass rfl (yield_of rfl rfl) rfl rfl ?_
          refine WL_step rfl rfl (Exec.pick_f (v := Value.bool (false)) rfl rfl rfl ?_)
          refine WL_step rfl rfl (Exec.move (v := Value.bool (false)) rfl rfl ?_)
          refine WL_pass rfl (yield_of rfl rfl) rfl rfl ?_
          refine WL_pass rfl (yield_of rfl rfl) rfl rfl ?_
          refine WL_pass rfl (yield_of rfl rfl) rfl rfl ?_
          refine WL_pass rfl (yield_of rfl rfl) rfl rfl ?_
          refine WL_step rfl rfl (Exec.pick_f (v := Value.bool (false)) rfl rfl rfl ?_)
          refine WL_step rfl rfl (Exec.assign (v := Value.bool (false)) rfl rfl ?_)
          refine WL_nil (at_normal ?_)
          have e37736 := Option.some.inj ht37693
          subst z37692
          have hS37737 := (hS37654).drop
          exact ⟨s37652, (PHeap.le_refl _), hS37737, rfl⟩
      · intro f37738 w37739 hM37740
        obtain ⟨s37741, l37742, hS37743, p37744⟩ := hM37740
        refine (at_normal ?_)
        refine W_ret ?_
        have e37746 := Option.some.inj hm
        subst r
        refine ⟨_, ret1 rfl, ?_⟩
        exact ⟨s37741, (PHeap.le.trans (PHeap.le.trans (PHeap.le.trans l37595 l37633) l37653) l37742), hS37743, p37744⟩

end Go.Pw
