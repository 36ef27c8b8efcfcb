/-
  The walks (printed by my generator).
-/
import Derived.Test.YtdhfofhginfdnaaPa1
set_option maxRecDepth 100000
set_option maxHeartbeats 4000000
set_option linter.unusedVariables false
namespace Go.Pw
open Go.Proofs
theorem law44_large_sim {w0 w : World} {s : PHeap} {H : List Res} {x25733 : System} {v25734 : Value} {v25736 : Value} {v25738 : Value} {r : Bool} (hm : law44_large_p x25733 = some r) (hS : St w0 s (H) w) (a25735 : SliceRep (encInt .i64) s v25734 x25733.Costs) (a25737 : SliceRep encEdge s v25736 x25733.Edges) (a25739 : SliceRep encBool s v25738 x25733.Goals) :
    Calls Try.prog 11 #[Value.agg #[Value.int .i64 (x25733.States), Value.int .i64 (x25733.Init), v25734, v25736, v25738]] w fun e w' => ∃ v, e = .returned v ∧ ((fun (y27106 : Bool) => ∃ (s27107 : PHeap) , PHeap.le s s27107 ∧ St w0 s27107 (H) w' ∧ v = Value.bool (y27106)) r) := by
  unfold law44_large_p at hm
  refine calls_of_W Try.func11 rfl rfl ?_
  refine W_seq ?_
  refine W_region ?_
  refine WL_step rfl rfl (Exec.box (cs := [Value.int .i64 (x25733.States), Value.int .i64 (x25733.Init), v25734, v25736, v25738]) hS rfl rfl rfl ?_)
  intro b27111 w27112 hS27113
  refine WL_step rfl rfl (Exec.assign (v := Value.bool (false)) rfl rfl ?_)
  refine WL_nil (at_normal ?_)
  refine W_seq ?_
  obtain ⟨z27127, ht27128, hm⟩ := bind_some hm
  refine W_mid (M := fun f' w' => (fun (z27127 : Bool) => ∃ (s27129 : PHeap) , PHeap.le s s27129 ∧ St w0 s27129 (H) w' ∧ f' 2 = Value.bool (z27127)) z27127) ?_ ?_
  · refine W_region ?_
    refine WL_step rfl rfl (Exec.field F26_0 rfl rfl rfl ?_)
    refine WL_step rfl rfl (Exec.load_box (hS27113) A3 rfl rfl rfl ?_)
    refine WL_step rfl rfl (Exec.gtr rfl rfl rfl ?_)
    refine WL_step rfl rfl (Exec.move (v := Value.bool (decide (40 < x25733.States))) rfl rfl ?_)
    rcases ite_some ht27128 with ⟨hc27130, ht27128⟩ | ⟨hc27130, ht27128⟩
    · refine WL_run rfl (yield_of rfl (congrArg Value.bool hc27130)) rfl (Exec.load_box_agg (ds := [Value.int .i64 (x25733.States), Value.int .i64 (x25733.Init), v25734, v25736, v25738]) (hS27113) A26 rfl rfl rfl ?_)
      obtain ⟨y27133, q27132, ht27128⟩ := bind_some ht27128
      refine WL_run rfl (yield_of rfl (congrArg Value.bool hc27130)) rfl (Exec.call rfl rfl Try.func17 rfl N17 (args_cons rfl args_nil) ((ref44_Valid_sim q27132 hS27113 a25735 a25737 a25739).mono ?_))
      rintro _ w27134 ⟨_, rfl, ⟨s27135, l27136, hS27137, rfl⟩⟩
      refine ⟨_, rfl, ?_⟩
      refine WL_step rfl rfl (Exec.pick_t (v := Value.bool (y27133)) rfl (congrArg Value.bool hc27130) rfl ?_)
      refine WL_step rfl rfl (Exec.move (v := Value.bool (y27133)) rfl rfl ?_)
      rcases ite_some ht27128 with ⟨hc27138, ht27128⟩ | ⟨hc27138, ht27128⟩
      · refine WL_pass rfl (yield_of rfl (congrArg Value.bool hc27138)) rfl rfl ?_
        refine WL_pass rfl (yield_of rfl (congrArg Value.bool hc27138)) rfl rfl ?_
        refine WL_pass rfl (yield_of rfl (congrArg Value.bool hc27138)) rfl rfl ?_
        refine WL_pass rfl (yield_of rfl (congrArg Value.bool hc27138)) rfl rfl ?_
        refine WL_step rfl rfl (Exec.pick_t (v := Value.bool (true)) rfl (congrArg Value.bool hc27138) rfl ?_)
        refine WL_step rfl rfl (Exec.move (v := Value.bool (true)) rfl rfl ?_)
        refine WL_pass rfl (yield_of rfl rfl) rfl rfl ?_
        refine WL_pass rfl (yield_of rfl rfl) rfl rfl ?_
        refine WL_pass rfl (yield_of rfl rfl) rfl rfl ?_
        refine WL_pass rfl (yield_of rfl rfl) rfl rfl ?_
        refine WL_step rfl rfl (Exec.pick_t (v := Value.bool (true)) rfl rfl rfl ?_)
        refine WL_step rfl rfl (Exec.move (v := Value.bool (true)) rfl rfl ?_)
        refine WL_pass rfl (yield_of rfl rfl) rfl rfl ?_
        refine WL_pass rfl (yield_of rfl rfl) rfl rfl ?_
        refine WL_pass rfl (yield_of rfl rfl) rfl rfl ?_
        refine WL_pass rfl (yield_of rfl rfl) rfl rfl ?_
        refine WL_step rfl rfl (Exec.pick_t (v := Value.bool (true)) rfl rfl rfl ?_)
        refine WL_step rfl rfl (Exec.assign (v := Value.bool (true)) rfl rfl ?_)
        refine WL_nil (at_normal ?_)
        have e27139 := Option.some.inj ht27128
        subst z27127
        have hS27140 := (hS27137).drop
        exact ⟨s27135, l27136, hS27140, rfl⟩
      · replace hc27138 := not_true hc27138
        refine WL_run rfl (yield_of rfl (congrArg Value.bool hc27138)) rfl (Exec.field F26_4 rfl rfl rfl ?_)
        refine WL_run rfl (yield_of rfl (congrArg Value.bool hc27138)) rfl (Exec.load_box (hS27137) A24 rfl rfl rfl ?_)
        refine WL_run rfl (yield_of rfl (congrArg Value.bool hc27138)) rfl (Exec.len_rep S24 rfl rfl (a25739.mono l27136) ?_)
        refine WL_run rfl (yield_of rfl (congrArg Value.bool hc27138)) rfl (Exec.gtr rfl rfl rfl ?_)
        refine WL_step rfl rfl (Exec.pick_f (v := Value.bool (decide (5000 < (x25733.Goals.length : Int)))) rfl (congrArg Value.bool hc27138) rfl ?_)
        refine WL_step rfl rfl (Exec.move (v := Value.bool (decide (5000 < (x25733.Goals.length : Int)))) rfl rfl ?_)
        rcases ite_some ht27128 with ⟨hc27141, ht27128⟩ | ⟨hc27141, ht27128⟩
        · refine WL_pass rfl (yield_of rfl (congrArg Value.bool hc27141)) rfl rfl ?_
          refine WL_pass rfl (yield_of rfl (congrArg Value.bool hc27141)) rfl rfl ?_
          refine WL_pass rfl (yield_of rfl (congrArg Value.bool hc27141)) rfl rfl ?_
          refine WL_pass rfl (yield_of rfl (congrArg Value.bool hc27141)) rfl rfl ?_
          refine WL_step rfl rfl (Exec.pick_t (v := Value.bool (true)) rfl (congrArg Value.bool hc27141) rfl ?_)
          refine WL_step rfl rfl (Exec.move (v := Value.bool (true)) rfl rfl ?_)
          refine WL_pass rfl (yield_of rfl rfl) rfl rfl ?_
          refine WL_pass rfl (yield_of rfl rfl) rfl rfl ?_
          refine WL_pass rfl (yield_of rfl rfl) rfl rfl ?_
          refine WL_pass rfl (yield_of rfl rfl) rfl rfl ?_
          refine WL_step rfl rfl (Exec.pick_t (v := Value.bool (true)) rfl rfl rfl ?_)
          refine WL_step rfl rfl (Exec.assign (v := Value.bool (true)) rfl rfl ?_)
          refine WL_nil (at_normal ?_)
          have e27142 := Option.some.inj ht27128
          subst z27127
          have hS27143 := (hS27137).drop
          exact ⟨s27135, l27136, hS27143, rfl⟩
        · replace hc27141 := not_true hc27141
          refine WL_run rfl (yield_of rfl (congrArg Value.bool hc27141)) rfl (Exec.field F26_3 rfl rfl rfl ?_)
          refine WL_run rfl (yield_of rfl (congrArg Value.bool hc27141)) rfl (Exec.load_box (hS27137) A23 rfl rfl rfl ?_)
          refine WL_run rfl (yield_of rfl (congrArg Value.bool hc27141)) rfl (Exec.len_rep S23 rfl rfl (a25737.mono l27136) ?_)
          refine WL_run rfl (yield_of rfl (congrArg Value.bool hc27141)) rfl (Exec.gtr rfl rfl rfl ?_)
          refine WL_step rfl rfl (Exec.pick_f (v := Value.bool (decide (150 < (x25733.Edges.length : Int)))) rfl (congrArg Value.bool hc27141) rfl ?_)
          refine WL_step rfl rfl (Exec.move (v := Value.bool (decide (150 < (x25733.Edges.length : Int)))) rfl rfl ?_)
          rcases ite_some ht27128 with ⟨hc27144, ht27128⟩ | ⟨hc27144, ht27128⟩
          · refine WL_pass rfl (yield_of rfl (congrArg Value.bool hc27144)) rfl rfl ?_
            refine WL_pass rfl (yield_of rfl (congrArg Value.bool hc27144)) rfl rfl ?_
            refine WL_pass rfl (yield_of rfl (congrArg Value.bool hc27144)) rfl rfl ?_
            refine WL_pass rfl (yield_of rfl (congrArg Value.bool hc27144)) rfl rfl ?_
            refine WL_step rfl rfl (Exec.pick_t (v := Value.bool (true)) rfl (congrArg Value.bool hc27144) rfl ?_)
            refine WL_step rfl rfl (Exec.assign (v := Value.bool (true)) rfl rfl ?_)
            refine WL_nil (at_normal ?_)
            have e27145 := Option.some.inj ht27128
            subst z27127
            have hS27146 := (hS27137).drop
            exact ⟨s27135, l27136, hS27146, rfl⟩
          · replace hc27144 := not_true hc27144
            refine WL_run rfl (yield_of rfl (congrArg Value.bool hc27144)) rfl (Exec.field F26_2 rfl rfl rfl ?_)
            refine WL_run rfl (yield_of rfl (congrArg Value.bool hc27144)) rfl (Exec.load_box (hS27137) A22 rfl rfl rfl ?_)
            refine WL_run rfl (yield_of rfl (congrArg Value.bool hc27144)) rfl (Exec.len_rep S22 rfl rfl (a25735.mono l27136) ?_)
            refine WL_run rfl (yield_of rfl (congrArg Value.bool hc27144)) rfl (Exec.gtr rfl rfl rfl ?_)
            refine WL_step rfl rfl (Exec.pick_f (v := Value.bool (decide (40 < (x25733.Costs.length : Int)))) rfl (congrArg Value.bool hc27144) rfl ?_)
            refine WL_step rfl rfl (Exec.assign (v := Value.bool (decide (40 < (x25733.Costs.length : Int)))) rfl rfl ?_)
            refine WL_nil (at_normal ?_)
            have e27147 := Option.some.inj ht27128
            subst z27127
            have hS27148 := (hS27137).drop
            exact ⟨s27135, l27136, hS27148, rfl⟩
    · replace hc27130 := not_true hc27130
      refine WL_pass rfl (yield_of rfl (congrArg Value.bool hc27130)) rfl rfl ?_
      refine WL_pass rfl (yield_of rfl (congrArg Value.bool hc27130)) rfl rfl ?_
      refine WL_step rfl rfl (Exec.pick_f (v := Value.bool (false)) rfl (congrArg Value.bool hc27130) rfl ?_)
      refine WL_step rfl rfl (Exec.move (v := Value.bool (false)) rfl rfl ?_)
      refine WL_run rfl (yield_of rfl rfl) rfl (Exec.field F26_4 rfl rfl rfl ?_)
      refine WL_run rfl (yield_of rfl rfl) rfl (Exec.load_box (hS27113) A24 rfl rfl rfl ?_)
      refine WL_run rfl (yield_of rfl rfl) rfl (Exec.len_rep S24 rfl rfl a25739 ?_)
      refine WL_run rfl (yield_of rfl rfl) rfl (Exec.gtr rfl rfl rfl ?_)
      refine WL_step rfl rfl (Exec.pick_f (v := Value.bool (decide (5000 < (x25733.Goals.length : Int)))) rfl rfl rfl ?_)
      refine WL_step rfl rfl (Exec.move (v := Value.bool (decide (5000 < (x25733.Goals.length : Int)))) rfl rfl ?_)
      rcases ite_some ht27128 with ⟨hc27149, ht27128⟩ | ⟨hc27149, ht27128⟩
      · refine WL_pass rfl (yield_of rfl (congrArg Value.bool hc27149)) rfl rfl ?_
        refine WL_pass rfl (yield_of rfl (congrArg Value.bool hc27149)) rfl rfl ?_
        refine WL_pass rfl (yield_of rfl (congrArg Value.bool hc27149)) rfl rfl ?_
        refine WL_pass rfl (yield_of rfl (congrArg Value.bool hc27149)) rfl rfl ?_
        refine WL_step rfl rfl (Exec.pick_t (v := Value.bool (true)) rfl (congrArg Value.bool hc27149) rfl ?_)
        refine WL_step rfl rfl (Exec.move (v := Value.bool (true)) rfl rfl ?_)
        refine WL_pass rfl (yield_of rfl rfl) rfl rfl ?_
        refine WL_pass rfl (yield_of rfl rfl) rfl rfl ?_
        refine WL_pass rfl (yield_of rfl rfl) rfl rfl ?_
        refine WL_pass rfl (yield_of rfl rfl) rfl rfl ?_
        refine WL_step rfl rfl (Exec.pick_t (v := Value.bool (true)) rfl rfl rfl ?_)
        refine WL_step rfl rfl (Exec.assign (v := Value.bool (true)) rfl rfl ?_)
        refine WL_nil (at_normal ?_)
        have e27150 := Option.some.inj ht27128
        subst z27127
        have hS27151 := (hS27113).drop
        exact ⟨s, (PHeap.le_refl _), hS27151, rfl⟩
      · replace hc27149 := not_true hc27149
        refine WL_run rfl (yield_of rfl (congrArg Value.bool hc27149)) rfl (Exec.field F26_3 rfl rfl rfl ?_)
        refine WL_run rfl (yield_of rfl (congrArg Value.bool hc27149)) rfl (Exec.load_box (hS27113) A23 rfl rfl rfl ?_)
        refine WL_run rfl (yield_of rfl (congrArg Value.bool hc27149)) rfl (Exec.len_rep S23 rfl rfl a25737 ?_)
        refine WL_run rfl (yield_of rfl (congrArg Value.bool hc27149)) rfl (Exec.gtr rfl rfl rfl ?_)
        refine WL_step rfl rfl (Exec.pick_f (v := Value.bool (decide (150 < (x25733.Edges.length : Int)))) rfl (congrArg Value.bool hc27149) rfl ?_)
        refine WL_step rfl rfl (Exec.move (v := Value.bool (decide (150 < (x25733.Edges.length : Int)))) rfl rfl ?_)
        rcases ite_some ht27128 with ⟨hc27152, ht27128⟩ | ⟨hc27152, ht27128⟩
        · refine WL_pass rfl (yield_of rfl (congrArg Value.bool hc27152)) rfl rfl ?_
          refine WL_pass rfl (yield_of rfl (congrArg Value.bool hc27152)) rfl rfl ?_
          refine WL_pass rfl (yield_of rfl (congrArg Value.bool hc27152)) rfl rfl ?_
          refine WL_pass rfl (yield_of rfl (congrArg Value.bool hc27152)) rfl rfl ?_
          refine WL_step rfl rfl (Exec.pick_t (v := Value.bool (true)) rfl (congrArg Value.bool hc27152) rfl ?_)
          refine WL_step rfl rfl (Exec.assign (v := Value.bool (true)) rfl rfl ?_)
          refine WL_nil (at_normal ?_)
          have e27153 := Option.some.inj ht27128
          subst z27127
          have hS27154 := (hS27113).drop
          exact ⟨s, (PHeap.le_refl _), hS27154, rfl⟩
        · replace hc27152 := not_true hc27152
          refine WL_run rfl (yield_of rfl (congrArg Value.bool hc27152)) rfl (Exec.field F26_2 rfl rfl rfl ?_)
          refine WL_run rfl (yield_of rfl (congrArg Value.bool hc27152)) rfl (Exec.load_box (hS27113) A22 rfl rfl rfl ?_)
          refine WL_run rfl (yield_of rfl (congrArg Value.bool hc27152)) rfl (Exec.len_rep S22 rfl rfl a25735 ?_)
          refine WL_run rfl (yield_of rfl (congrArg Value.bool hc27152)) rfl (Exec.gtr rfl rfl rfl ?_)
          refine WL_step rfl rfl (Exec.pick_f (v := Value.bool (decide (40 < (x25733.Costs.length : Int)))) rfl (congrArg Value.bool hc27152) rfl ?_)
          refine WL_step rfl rfl (Exec.assign (v := Value.bool (decide (40 < (x25733.Costs.length : Int)))) rfl rfl ?_)
          refine WL_nil (at_normal ?_)
          have e27155 := Option.some.inj ht27128
          subst z27127
          have hS27156 := (hS27113).drop
          exact ⟨s, (PHeap.le_refl _), hS27156, rfl⟩
  · intro f27157 w27158 hM27159
    obtain ⟨s27160, l27161, hS27162, p27163⟩ := hM27159
    refine (at_normal ?_)
    refine W_ret ?_
    have e27165 := Option.some.inj hm
    subst r
    refine ⟨_, ret1 rfl, ?_⟩
    exact ⟨s27160, l27161, hS27162, p27163⟩

theorem IS66 : intStruct Try.prog 66 3 = true := by kernel_rfl

theorem N40 : (Try.f40.name == "runtime.NumGoroutine") = false := by kernel_rfl

theorem ref44_Insert_sim {w0 w : World} {s : PHeap} {H : List Res} {l29542 : (List Edge)} {e29545 : Edge} {v29543 : Value} {r : (List Edge)} (hm : ref44_Insert_p l29542 e29545 = some r) (hS : St w0 s (H) w) (a29544 : SliceRep encEdge s v29543 l29542) :
    Calls Try.prog 40 #[v29543, Value.agg #[Value.int .i64 (e29545.From), Value.int .i64 (e29545.Label), Value.int .i64 (e29545.To)]] w fun e w' => ∃ v, e = .returned v ∧ ((fun (y30494 : (List Edge)) => ∃ (s30500 : PHeap) (v30499 : Value), PHeap.le s s30500 ∧ St w0 s30500 (H) w' ∧ v = v30499 ∧ SliceRep encEdge s30500 v30499 y30494) r) := by
  unfold ref44_Insert_p at hm
  refine calls_of_W Try.func40 rfl rfl ?_
  refine W_seq ?_
  refine W_region ?_
  refine WL_step rfl rfl (Exec.box (cs := [Value.int .i64 (e29545.From), Value.int .i64 (e29545.Label), Value.int .i64 (e29545.To)]) hS rfl rfl rfl ?_)
  intro b30504 w30505 hS30506
  refine WL_step rfl rfl (Exec.assign (v := Value.slice none 0 0) rfl rfl ?_)
  refine WL_nil (at_normal ?_)
  refine W_seq ?_
  refine W_region ?_
  refine WL_step rfl rfl (Exec.move (v := v29543) rfl rfl ?_)
  refine WL_step rfl rfl (Exec.len_rep S23 rfl rfl a29544 ?_)
  refine WL_step rfl rfl (Exec.assign (v := Value.int .i64 ((l29542.length : Int))) rfl rfl ?_)
  refine WL_nil (at_normal ?_)
  refine W_seq ?_
  obtain ⟨c30841, hB30842, hr30843, hn30844, hb30845⟩ := ctl_some hm
  refine W_mid (M := fun f' w' => ∃ s', (c30841 = .next s' ∨ c30841 = .brk s') ∧ (fun (at_30840 : Int) => ∃ (s30847 : PHeap) , PHeap.le s s30847 ∧ St w0 s30847 (Res.box b30504 66 [Value.int .i64 (e29545.From), Value.int .i64 (e29545.Label), Value.int .i64 (e29545.To)] :: H) w' ∧ f' 0 = v29543 ∧ f' 3 = Value.pointer (some ⟨b30504, 0, none⟩) ∧ f' 5 = Value.int .i64 (at_30840)) s') ?_ ?_
  · refine W_block (W_while (fun s' f' w' => (fun (at_30617 : Int) => ∃ (s30846 : PHeap) , PHeap.le s s30846 ∧ St w0 s30846 (Res.box b30504 66 [Value.int .i64 (e29545.From), Value.int .i64 (e29545.Label), Value.int .i64 (e29545.To)] :: H) w' ∧ f' 0 = v29543 ∧ f' 3 = Value.pointer (some ⟨b30504, 0, none⟩) ∧ f' 5 = Value.int .i64 (at_30617)) s') hB30842 ?_ ?_)
    · exact ⟨s, (PHeap.le_refl _), hS30506, rfl, rfl, rfl⟩
    · intro at_30617 c30849 f30850 w30851 hI30852 hm30853 hres30854
      obtain ⟨s30855, l30856, hS30857, p30858, p30859, p30860⟩ := hI30852
      refine W_seq ?_
      refine W_seq ?_
      obtain ⟨z30889, ht30890, hm30853⟩ := bind_some hm30853
      refine W_mid (M := fun f' w' => (fun (z30889 : Bool) => ∃ (s30891 : PHeap) , PHeap.le s30855 s30891 ∧ St w0 s30891 (Res.box b30504 66 [Value.int .i64 (e29545.From), Value.int .i64 (e29545.Label), Value.int .i64 (e29545.To)] :: H) w' ∧ f' 0 = v29543 ∧ f' 3 = Value.pointer (some ⟨b30504, 0, none⟩) ∧ f' 5 = Value.int .i64 (at_30617) ∧ f' 19 = Value.bool (z30889)) z30889) ?_ ?_
      · refine W_dl (n0 := 12) (.q 0 (.q 1 (.q 2 (.q 3 (.q 4 (.q 5 (.q 6 (.q 7 (.q 8 (.e 9 [] (.q 10 (.q 11 .done)))))))))))) hmix (by kernel_rfl) (by kernel_rfl) ?_
        have hS30906 := hS30857.drew
        refine DL_q rfl rfl (Exec.move (v := Value.int .i64 (at_30617)) rfl p30860 ⟨rfl, ?_⟩)
        refine DL_q rfl rfl (Exec.gtr rfl rfl rfl ⟨rfl, ?_⟩)
        refine DL_q rfl rfl (Exec.move (v := Value.bool (decide (0 < at_30617))) rfl rfl ⟨rfl, ?_⟩)
        rcases ite_some ht30890 with ⟨hc30907, ht30890⟩ | ⟨hc30907, ht30890⟩
        · refine DL_qg rfl rfl (yield_of rfl (congrArg Value.bool hc30907)) (Exec.move (v := v29543) rfl p30858 ⟨rfl, ?_⟩)
          refine DL_qg rfl rfl (yield_of rfl (congrArg Value.bool hc30907)) (Exec.move (v := Value.int .i64 (at_30617)) rfl p30860 ⟨rfl, ?_⟩)
          refine DL_qg rfl rfl (yield_of rfl (congrArg Value.bool hc30907)) (Exec.sub rfl rfl rfl ⟨rfl, ?_⟩)
          obtain ⟨x30908, q30909, ht30890⟩ := bind_some ht30890
          refine DL_qg rfl rfl (yield_of rfl (congrArg Value.bool hc30907)) (Exec.index_repE S23 rfl rfl rfl (a29544.mono l30856) q30909 ?_)
          intro b30910 o30911 a30912 e30913
          refine ⟨rfl, ?_⟩
          refine DL_qg rfl rfl (yield_of rfl (congrArg Value.bool hc30907)) (Exec.load_at (E := encEdge) hS30906 A66 rfl rfl rfl a30912 ?_)
          intro v30914 q30915
          obtain rfl := encEdge_val.1 q30915
          refine ⟨rfl, ?_⟩
          refine DL_qg rfl rfl (yield_of rfl (congrArg Value.bool hc30907)) (Exec.load_box_agg (ds := [Value.int .i64 (e29545.From), Value.int .i64 (e29545.Label), Value.int .i64 (e29545.To)]) (hS30906) A66 rfl p30859 rfl ⟨rfl, ?_⟩)
          refine DL_eg rfl rfl (yield_of rfl (congrArg Value.bool hc30907)) (Exec.call rfl rfl Try.func41 rfl N41 (args_cons rfl (args_cons rfl args_nil)) ((ref44_Before_sim (ref44_Before_tot x30908 e29545) hS30906 ).mono ?_))
          rintro _ w30916 ⟨_, rfl, ⟨s30917, l30918, hS30919, rfl⟩⟩
          refine ⟨_, rfl, ?_⟩
          refine ⟨ag_nil, ?_⟩
          refine DL_qg rfl rfl (yield_of rfl (congrArg Value.bool hc30907)) (Exec.not rfl rfl ⟨rfl, ?_⟩)
          refine DL_q rfl rfl (Exec.pick_t (v := Value.bool (!(ref44_Before_t x30908 e29545))) rfl (congrArg Value.bool hc30907) rfl ⟨rfl, ?_⟩)
          refine DL_done ?_
          refine WL_nil (at_normal ?_)
          have e30920 := Option.some.inj ht30890
          subst z30889
          exact ⟨s30917, l30918, hS30919, p30858, p30859, p30860, rfl⟩
        · replace hc30907 := not_true hc30907
          refine DL_qp rfl rfl (yield_of rfl (congrArg Value.bool hc30907)) rfl ?_
          refine DL_qp rfl rfl (yield_of rfl (congrArg Value.bool hc30907)) rfl ?_
          refine DL_qp rfl rfl (yield_of rfl (congrArg Value.bool hc30907)) rfl ?_
          refine DL_qp rfl rfl (yield_of rfl (congrArg Value.bool hc30907)) rfl ?_
          refine DL_qp rfl rfl (yield_of rfl (congrArg Value.bool hc30907)) rfl ?_
          refine DL_qp rfl rfl (yield_of rfl (congrArg Value.bool hc30907)) rfl ?_
          refine DL_ep rfl rfl (yield_of rfl (congrArg Value.bool hc30907)) rfl ?_
          refine DL_qp rfl rfl (yield_of rfl (congrArg Value.bool hc30907)) rfl ?_
          refine DL_q rfl rfl (Exec.pick_f (v := Value.bool (false)) rfl (congrArg Value.bool hc30907) rfl ⟨rfl, ?_⟩)
          refine DL_done ?_
          refine WL_nil (at_normal ?_)
          have e30921 := Option.some.inj ht30890
          subst z30889
          exact ⟨s30855, (PHeap.le_refl _), hS30906, p30858, p30859, p30860, rfl⟩
      · intro f30922 w30923 hM30924
        obtain ⟨s30925, l30926, hS30927, p30928, p30929, p30930, p30931⟩ := hM30924
        refine (at_normal ?_)
        rcases ite_some hm30853 with ⟨hc30932, hm30853⟩ | ⟨hc30932, hm30853⟩
        · refine W_cond_t p30931 hc30932 ?_
          refine W_skip (at_normal ?_)
          refine W_block ?_
          refine W_seq ?_
          refine W_seq ?_
          refine W_dl (n0 := 7) (.q 0 (.q 1 (.q 2 (.q 3 (.q 4 (.q 5 (.q 6 .done))))))) hmix (by kernel_rfl) (by kernel_rfl) ?_
          have hS30960 := hS30927.drew
          refine DL_q rfl rfl (Exec.move (v := v29543) rfl p30928 ⟨rfl, ?_⟩)
          refine DL_q rfl rfl (Exec.move (v := Value.int .i64 (at_30617)) rfl p30930 ⟨rfl, ?_⟩)
          refine DL_q rfl rfl (Exec.sub rfl rfl rfl ⟨rfl, ?_⟩)
          obtain ⟨x30961, q30962, hm30853⟩ := bind_some hm30853
          refine DL_q rfl rfl (Exec.index_repE S23 rfl rfl rfl (a29544.mono (PHeap.le.trans l30856 l30926)) q30962 ?_)
          intro b30963 o30964 a30965 e30966
          refine ⟨rfl, ?_⟩
          refine DL_q rfl rfl (Exec.load_at (E := encEdge) hS30960 A66 rfl rfl rfl a30965 ?_)
          intro v30967 q30968
          obtain rfl := encEdge_val.1 q30968
          refine ⟨rfl, ?_⟩
          refine DL_q rfl rfl (Exec.load_box_agg (ds := [Value.int .i64 (e29545.From), Value.int .i64 (e29545.Label), Value.int .i64 (e29545.To)]) (hS30960) A66 rfl p30929 rfl ⟨rfl, ?_⟩)
          refine DL_q rfl rfl (Exec.ints_eql (xs := [x30961.From, x30961.Label, x30961.To]) (ys := [e29545.From, e29545.Label, e29545.To]) IS66 rfl rfl rfl rfl rfl rfl rfl ⟨rfl, ?_⟩)
          refine DL_done ?_
          refine WL_nil (at_normal ?_)
          rcases ite_some hm30853 with ⟨hc30969, hm30853⟩ | ⟨hc30969, hm30853⟩
          · refine W_cond_t rfl hc30969 ?_
            refine W_seq ?_
            refine W_region ?_
            refine WL_step rfl rfl (Exec.move (v := v29543) rfl p30928 ?_)
            refine WL_step rfl rfl (Exec.assign (v := v29543) rfl rfl ?_)
            refine WL_nil (at_normal ?_)
            refine W_ret (at_ret (ib_ret (at_ret (ib_ret (at_ret (at_ret ?_))))))
            have e30970 := Option.some.inj hm30853
            subst c30849
            have hq30971 := hr30843 _ (hres30854 (by intro _ h; cases h))
            have e30972 := Option.some.inj hq30971
            subst r
            refine ⟨_, ret1 rfl, ?_⟩
            have hS30973 := (hS30960).drop
            exact ⟨s30925, v29543, (PHeap.le.trans l30856 l30926), hS30973, rfl, (a29544.mono (PHeap.le.trans l30856 l30926))⟩
          · refine W_cond_f rfl hc30969 ?_
            replace hc30969 := not_true hc30969
            refine W_skip (at_normal ?_)
            refine W_region ?_
            refine WL_step rfl rfl (Exec.move (v := Value.int .i64 (at_30617)) rfl p30930 ?_)
            refine WL_step rfl rfl (Exec.sub rfl rfl rfl ?_)
            refine WL_step rfl rfl (Exec.assign (v := Value.int .i64 (IntKind.i64.wrap (at_30617 - 1))) rfl rfl ?_)
            refine WL_nil (ib_normal (at_normal ?_))
            have e30974 := Option.some.inj hm30853
            subst c30849
            refine ⟨_, rfl, ?_⟩; exact ⟨s30925, (PHeap.le.trans l30856 l30926), hS30960, p30928, p30929, rfl⟩
        · refine W_cond_f p30931 hc30932 ?_
          replace hc30932 := not_true hc30932
          refine W_exit (at_exit (at_exit (ib_here (at_normal ?_))))
          have e30975 := Option.some.inj hm30853
          subst c30849
          refine ⟨_, .inr (hres30854 (by intro _ h; cases h)), ?_⟩; exact ⟨s30925, (PHeap.le.trans l30856 l30926), hS30927, p30928, p30929, p30930⟩
  · rintro f30976 w30977 ⟨at_30840, hc30978, hM30979⟩
    have hm := hc30978.elim (hn30844 _) (hb30845 _)
    clear hc30978
    obtain ⟨s30980, l30981, hS30982, p30983, p30984, p30985⟩ := hM30979
    refine (at_normal ?_)
    refine W_seq ?_
    obtain ⟨c31228, q31229, hm⟩ := bind_some hm
    obtain ⟨l31231, q31232, hm⟩ := bind_some hm
    obtain ⟨l31239, q31240, hm⟩ := bind_some hm
    obtain ⟨c31245, q31246, hm⟩ := bind_some hm
    obtain ⟨l31247, q31248, hm⟩ := bind_some hm
    refine W_drawnR (n0 := 12) (Hs := Res.box b30504 66 [Value.int .i64 (e29545.From), Value.int .i64 (e29545.Label), Value.int .i64 (e29545.To)] :: []) hmix (by kernel_rfl) [RR.lit encEdge 66 0 [], RR.of (RP.eq (v29543)), RR.of (RP.eq (Value.int .i64 (at_30840))), RR.of (RP.sl encEdge c31228), RR.arr encEdge 66 l31231, RR.of (RP.eq (Value.agg #[Value.int .i64 (e29545.From), Value.int .i64 (e29545.Label), Value.int .i64 (e29545.To)])), RR.lit encEdge 66 1 [e29545], RR.arr encEdge 66 l31239, RR.of (RP.eq (v29543)), RR.of (RP.eq (Value.int .i64 (at_30840))), RR.of (RP.sl encEdge c31245), RR.arr encEdge 66 l31247] [[], [], [], [], [0], [], [], [4, 6], [], [], [], [7]] (by kernel_rfl) hS30982 (HeadAll.cons ?_ (HeadAll.cons ?_ (HeadAll.cons ?_ (HeadAll.cons ?_ (HeadAll.cons ?_ (HeadAll.cons ?_ (HeadAll.cons ?_ (HeadAll.cons ?_ (HeadAll.cons ?_ (HeadAll.cons ?_ (HeadAll.cons ?_ (HeadAll.cons ?_ (HeadAll.nil))))))))))))) ?_
    · intro g31252 s31253 w31254 F31255 L31256 le31257 hS31258 fr31259 pre31260
      have hS31262 : St w0 s31253 (Res.box b30504 66 [Value.int .i64 (e29545.From), Value.int .i64 (e29545.Label), Value.int .i64 (e29545.To)] :: F31255) w31254 := hS31258
      refine head_runR rfl (Exec.buildSlice (Te := 66) (cs := []) hS31262 rfl parts_nil (fun _ => by kernel_rfl) ?_)
      intro b31263 w31264 hS31265
      have hS31266 := (hS31265).f1
      have hS31267 := (hS31266).f1
      exact ⟨s31253, [Res.box b31263 66 []], (PHeap.le_refl _), hS31267, ⟨_, _, rfl, rfl, rfl⟩⟩
    · intro g31268 s31269 w31270 F31271 L31272 le31273 hS31274 fr31275 pre31276
      have hS31278 : St w0 s31269 (Res.box b30504 66 [Value.int .i64 (e29545.From), Value.int .i64 (e29545.Label), Value.int .i64 (e29545.To)] :: F31271) w31270 := hS31274
      refine head_runR rfl (Exec.move (v := v29543) rfl (Eq.trans (fr31275 0 rfl) p30983) ?_)
      exact head_doneR hS31278 ⟨rfl, rfl⟩
    · intro g31279 s31280 w31281 F31282 L31283 le31284 hS31285 fr31286 pre31287
      have hS31289 : St w0 s31280 (Res.box b30504 66 [Value.int .i64 (e29545.From), Value.int .i64 (e29545.Label), Value.int .i64 (e29545.To)] :: F31282) w31281 := hS31285
      refine head_runR rfl (Exec.move (v := Value.int .i64 (at_30840)) rfl (Eq.trans (fr31286 5 rfl) p30985) ?_)
      exact head_doneR hS31289 ⟨rfl, rfl⟩
    · intro g31290 s31291 w31292 F31293 L31294 le31295 hS31296 fr31297 pre31298
      have hS31300 : St w0 s31291 (Res.box b30504 66 [Value.int .i64 (e29545.From), Value.int .i64 (e29545.Label), Value.int .i64 (e29545.To)] :: F31293) w31292 := hS31296
      have p31301 : g31290 31 = (v29543) := (pre31298 0 _ rfl rfl (Or.inl rfl)).2
      have p31302 : g31290 32 = (Value.int .i64 (at_30840)) := (pre31298 1 _ rfl rfl (Or.inl rfl)).2
      refine head_runR rfl (Exec.slice_to S23 rfl p31301 p31302 (a29544.mono (PHeap.le.trans l30981 le31295)) q31229 ?_)
      intro v31303 q31304
      exact head_doneR hS31300 ⟨rfl, q31304⟩
    · intro g31305 s31306 w31307 F31308 L31309 le31310 hS31311 fr31312 pre31313
      obtain ⟨b31316, cs31317, ev31318, e31315, hr31319⟩ := (show ∃ b cs, g31305 30 = .slice (some ⟨b, 0, none⟩) 0 0 ∧ L31309 0 = [.box b 66 cs] ∧ reps encEdge s31306 cs [] from (pre31313 0 _ rfl rfl (Or.inr (show 0 ∈ [0] by decide))))
      have hS31320 : St w0 s31306 (Res.box b31316 66 cs31317 :: Res.box b30504 66 [Value.int .i64 (e29545.From), Value.int .i64 (e29545.Label), Value.int .i64 (e29545.To)] :: F31308) w31307 := flat1 (show St _ _ ([0].flatMap L31309 ++ (Res.box b30504 66 [Value.int .i64 (e29545.From), Value.int .i64 (e29545.Label), Value.int .i64 (e29545.To)] :: [] ++ F31308)) _ from hS31311) e31315
      have p31321 : SliceRep encEdge s31306 (g31305 33) c31228 := (pre31313 1 _ rfl rfl (Or.inl rfl)).2
      have hS31322 := St.boxArr (E := encEdge) (xs := []) hS31320 hr31319 (by simp [maxLen])
      refine head_runR rfl (Exec.append_rep (E := encEdge) (ys := c31228) hS31322 S23 Z66 rfl (by decide) rfl ev31318 rfl p31321 q31232 ?_)
      intro v31323 w31324 hS31325
      have hS31326 := (hS31325).f1
      have hS31327 := (hS31326).f1
      exact ⟨s31306, [Res.arr encEdge 66 v31323 l31231], (PHeap.le_refl _), hS31327, rfl⟩
    · intro g31328 s31329 w31330 F31331 L31332 le31333 hS31334 fr31335 pre31336
      have hS31338 : St w0 s31329 (Res.box b30504 66 [Value.int .i64 (e29545.From), Value.int .i64 (e29545.Label), Value.int .i64 (e29545.To)] :: F31331) w31330 := hS31334
      refine head_runR rfl (Exec.load_box_agg (ds := [Value.int .i64 (e29545.From), Value.int .i64 (e29545.Label), Value.int .i64 (e29545.To)]) (hS31338) A66 rfl (Eq.trans (fr31335 3 rfl) p30984) rfl ?_)
      exact head_doneR hS31338 ⟨rfl, rfl⟩
    · intro g31339 s31340 w31341 F31342 L31343 le31344 hS31345 fr31346 pre31347
      have hS31349 : St w0 s31340 (Res.box b30504 66 [Value.int .i64 (e29545.From), Value.int .i64 (e29545.Label), Value.int .i64 (e29545.To)] :: F31342) w31341 := hS31345
      have p31350 : g31339 35 = (Value.agg #[Value.int .i64 (e29545.From), Value.int .i64 (e29545.Label), Value.int .i64 (e29545.To)]) := (pre31347 0 _ rfl rfl (Or.inl rfl)).2
      refine head_runR rfl (Exec.buildSlice (Te := 66) (cs := [Value.int .i64 (e29545.From), Value.int .i64 (e29545.Label), Value.int .i64 (e29545.To)]) hS31349 rfl (parts_cons (c := [Value.int .i64 (e29545.From), Value.int .i64 (e29545.Label), Value.int .i64 (e29545.To)]) (cells_of p31350 rfl) parts_nil) (fun _ => by kernel_rfl) ?_)
      intro b31351 w31352 hS31353
      have hS31354 := (hS31353).f1
      have hS31355 := (hS31354).f1
      exact ⟨s31340, [Res.box b31351 66 [Value.int .i64 (e29545.From), Value.int .i64 (e29545.Label), Value.int .i64 (e29545.To)]], (PHeap.le_refl _), hS31355, ⟨_, _, rfl, rfl, ⟨[Value.int .i64 (e29545.From), Value.int .i64 (e29545.Label), Value.int .i64 (e29545.To)], [], rfl, ⟨[Value.int .i64 (e29545.From)], [Value.int .i64 (e29545.Label), Value.int .i64 (e29545.To)], rfl, rfl, ⟨[Value.int .i64 (e29545.Label)], [Value.int .i64 (e29545.To)], rfl, rfl, rfl⟩⟩, rfl⟩⟩⟩
    · intro g31356 s31357 w31358 F31359 L31360 le31361 hS31362 fr31363 pre31364
      have e31366 : L31360 4 = [Res.arr encEdge 66 (g31356 34) l31231] := (pre31364 0 _ rfl rfl (Or.inr (show 4 ∈ [4, 6] by decide)))
      obtain ⟨b31368, cs31369, ev31370, e31367, hr31371⟩ := (show ∃ b cs, g31356 36 = .slice (some ⟨b, 0, none⟩) 1 1 ∧ L31360 6 = [.box b 66 cs] ∧ reps encEdge s31357 cs [e29545] from (pre31364 1 _ rfl rfl (Or.inr (show 6 ∈ [4, 6] by decide))))
      have hS31372 : St w0 s31357 (Res.arr encEdge 66 (g31356 34) l31231 :: Res.box b31368 66 cs31369 :: Res.box b30504 66 [Value.int .i64 (e29545.From), Value.int .i64 (e29545.Label), Value.int .i64 (e29545.To)] :: F31359) w31358 := flat2 (show St _ _ ([4, 6].flatMap L31360 ++ (Res.box b30504 66 [Value.int .i64 (e29545.From), Value.int .i64 (e29545.Label), Value.int .i64 (e29545.To)] :: [] ++ F31359)) _ from hS31362) e31366 e31367
      have hS31373 := (hS31372).f1
      have hS31374 := (hS31373).f1
      refine head_runR rfl (Exec.append_box (E := encEdge) (ys := [e29545]) hS31374 S23 Z66 rfl (by decide) rfl rfl ev31370 rfl hr31371 rfl q31240 ?_)
      intro v31375 w31376 hS31377
      have hS31378 := (hS31377).f1
      have hS31379 := (hS31378).f1
      exact ⟨s31357, [Res.arr encEdge 66 v31375 l31239], (PHeap.le_refl _), hS31379, rfl⟩
    · intro g31380 s31381 w31382 F31383 L31384 le31385 hS31386 fr31387 pre31388
      have hS31390 : St w0 s31381 (Res.box b30504 66 [Value.int .i64 (e29545.From), Value.int .i64 (e29545.Label), Value.int .i64 (e29545.To)] :: F31383) w31382 := hS31386
      refine head_runR rfl (Exec.move (v := v29543) rfl (Eq.trans (fr31387 0 rfl) p30983) ?_)
      exact head_doneR hS31390 ⟨rfl, rfl⟩
    · intro g31391 s31392 w31393 F31394 L31395 le31396 hS31397 fr31398 pre31399
      have hS31401 : St w0 s31392 (Res.box b30504 66 [Value.int .i64 (e29545.From), Value.int .i64 (e29545.Label), Value.int .i64 (e29545.To)] :: F31394) w31393 := hS31397
      refine head_runR rfl (Exec.move (v := Value.int .i64 (at_30840)) rfl (Eq.trans (fr31398 5 rfl) p30985) ?_)
      exact head_doneR hS31401 ⟨rfl, rfl⟩
    · intro g31402 s31403 w31404 F31405 L31406 le31407 hS31408 fr31409 pre31410
      have hS31412 : St w0 s31403 (Res.box b30504 66 [Value.int .i64 (e29545.From), Value.int .i64 (e29545.Label), Value.int .i64 (e29545.To)] :: F31405) w31404 := hS31408
      have p31413 : g31402 38 = (v29543) := (pre31410 0 _ rfl rfl (Or.inl rfl)).2
      have p31414 : g31402 39 = (Value.int .i64 (at_30840)) := (pre31410 1 _ rfl rfl (Or.inl rfl)).2
      refine head_runR rfl (Exec.slice_from S23 rfl p31413 p31414 (a29544.mono (PHeap.le.trans l30981 le31407)) q31246 ?_)
      intro v31415 q31416
      exact head_doneR hS31412 ⟨rfl, q31416⟩
    · intro g31417 s31418 w31419 F31420 L31421 le31422 hS31423 fr31424 pre31425
      have e31427 : L31421 7 = [Res.arr encEdge 66 (g31417 37) l31239] := (pre31425 0 _ rfl rfl (Or.inr (show 7 ∈ [7] by decide)))
      have hS31428 : St w0 s31418 (Res.arr encEdge 66 (g31417 37) l31239 :: Res.box b30504 66 [Value.int .i64 (e29545.From), Value.int .i64 (e29545.Label), Value.int .i64 (e29545.To)] :: F31420) w31419 := flat1 (show St _ _ ([7].flatMap L31421 ++ (Res.box b30504 66 [Value.int .i64 (e29545.From), Value.int .i64 (e29545.Label), Value.int .i64 (e29545.To)] :: [] ++ F31420)) _ from hS31423) e31427
      have p31429 : SliceRep encEdge s31418 (g31417 40) c31245 := (pre31425 1 _ rfl rfl (Or.inl rfl)).2
      refine head_runR rfl (Exec.append_rep (E := encEdge) (ys := c31245) hS31428 S23 Z66 rfl (by decide) rfl rfl rfl p31429 q31248 ?_)
      intro v31430 w31431 hS31432
      have hS31433 := (hS31432).f1
      have hS31434 := (hS31433).f1
      exact ⟨s31418, [Res.arr encEdge 66 v31430 l31247], (PHeap.le_refl _), hS31434, rfl⟩
    · intro g31435 s31436 w31437 L31438 le31439 hS31440 fr31441 hR31442
      have e31443 : L31438 11 = [Res.arr encEdge 66 (g31435 41) l31247] := (hR31442 11 rfl (Or.inr (show 11 ∈ [11] by decide)))
      have hS31444 : St w0 s31436 (Res.arr encEdge 66 (g31435 41) l31247 :: Res.box b30504 66 [Value.int .i64 (e29545.From), Value.int .i64 (e29545.Label), Value.int .i64 (e29545.To)] :: H) w31437 := flat1 (show St _ _ ([11].flatMap L31438 ++ (Res.box b30504 66 [Value.int .i64 (e29545.From), Value.int .i64 (e29545.Label), Value.int .i64 (e29545.To)] :: [] ++ H)) _ from hS31440) e31443
      have p31445 : g31435 31 = (v29543) := (hR31442 1 rfl (Or.inl rfl)).2
      have p31446 : g31435 32 = (Value.int .i64 (at_30840)) := (hR31442 2 rfl (Or.inl rfl)).2
      have p31447 : SliceRep encEdge s31436 (g31435 33) c31228 := (hR31442 3 rfl (Or.inl rfl)).2
      have p31448 : g31435 35 = (Value.agg #[Value.int .i64 (e29545.From), Value.int .i64 (e29545.Label), Value.int .i64 (e29545.To)]) := (hR31442 5 rfl (Or.inl rfl)).2
      have p31449 : g31435 38 = (v29543) := (hR31442 8 rfl (Or.inl rfl)).2
      have p31450 : g31435 39 = (Value.int .i64 (at_30840)) := (hR31442 9 rfl (Or.inl rfl)).2
      have p31451 : SliceRep encEdge s31436 (g31435 40) c31245 := (hR31442 10 rfl (Or.inl rfl)).2
      refine WL_step rfl rfl (Exec.assign (v := (g31435 41)) rfl rfl ?_)
      refine WL_nil (at_normal ?_)
      refine W_ret ?_
      have e31453 := Option.some.inj hm
      subst r
      refine ⟨_, ret1 rfl, ?_⟩
      obtain ⟨s31454, l31455, hS31456, r31457⟩ := hS31444.freezeArr
      have hS31458 := (hS31456).drop
      exact ⟨s31454, (g31435 41), (PHeap.le.trans (PHeap.le.trans l30981 le31439) l31455), hS31458, rfl, r31457⟩

theorem N13 : (Try.f13.name == "runtime.NumGoroutine") = false := by kernel_rfl

theorem ref44_Product_sim {w0 w : World} {s : PHeap} {H : List Res} {a27275 : System} {b27282 : System} {v27276 : Value} {v27278 : Value} {v27280 : Value} {v27283 : Value} {v27285 : Value} {v27287 : Value} {r : Int × System} (hm : ref44_Product_p a27275 b27282 = some r) (hS : St w0 s (H) w) (a27277 : SliceRep (encInt .i64) s v27276 a27275.Costs) (a27279 : SliceRep encEdge s v27278 a27275.Edges) (a27281 : SliceRep encBool s v27280 a27275.Goals) (a27284 : SliceRep (encInt .i64) s v27283 b27282.Costs) (a27286 : SliceRep encEdge s v27285 b27282.Edges) (a27288 : SliceRep encBool s v27287 b27282.Goals) :
    Calls Try.prog 13 #[Value.agg #[Value.int .i64 (a27275.States), Value.int .i64 (a27275.Init), v27276, v27278, v27280], Value.agg #[Value.int .i64 (b27282.States), Value.int .i64 (b27282.Init), v27283, v27285, v27287]] w fun e w' => ∃ v, e = .returned v ∧ ((un2 fun (y32699 : Int) (y32698 : System) => ∃ (s32713 : PHeap) (v32710 : Value) (v32711 : Value) (v32712 : Value), PHeap.le s s32713 ∧ St w0 s32713 (H) w' ∧ v = Value.tuple #[Value.agg #[Value.int .i64 (y32698.States), Value.int .i64 (y32698.Init), v32710, v32711, v32712], Value.int .i64 (y32699)] ∧ SliceRep (encInt .i64) s32713 v32710 y32698.Costs ∧ SliceRep encEdge s32713 v32711 y32698.Edges ∧ SliceRep encBool s32713 v32712 y32698.Goals) r) := by
  unfold ref44_Product_p at hm
  refine calls_of_W Try.func13 rfl rfl ?_
  refine W_seq ?_
  refine W_region ?_
  refine WL_step rfl rfl (Exec.box (cs := [Value.int .i64 (a27275.States), Value.int .i64 (a27275.Init), v27276, v27278, v27280]) hS rfl rfl rfl ?_)
  intro b32723 w32724 hS32725
  refine WL_step rfl rfl (Exec.box (cs := [Value.int .i64 (b27282.States), Value.int .i64 (b27282.Init), v27283, v27285, v27287]) hS32725 rfl rfl rfl ?_)
  intro b32726 w32727 hS32728
  refine WL_step rfl rfl (Exec.alloc (cs := [Value.int .i64 (0), Value.int .i64 (0), Value.slice none 0 0, Value.slice none 0 0, Value.slice none 0 0]) hS32728 Z26 rfl rfl ?_)
  intro b32729 w32730 hS32731
  refine WL_step rfl rfl (Exec.assign (v := Value.int .i64 (0)) rfl rfl ?_)
  refine WL_nil (at_normal ?_)
  refine W_seq ?_
  refine W_seq ?_
  obtain ⟨z32755, ht32756, hm⟩ := bind_some hm
  refine W_mid (M := fun f' w' => (fun (z32755 : Bool) => ∃ (s32757 : PHeap) , PHeap.le s s32757 ∧ St w0 s32757 (Res.box b32723 26 [Value.int .i64 (a27275.States), Value.int .i64 (a27275.Init), v27276, v27278, v27280] :: Res.box b32726 26 [Value.int .i64 (b27282.States), Value.int .i64 (b27282.Init), v27283, v27285, v27287] :: Res.box b32729 26 [Value.int .i64 (0), Value.int .i64 (0), Value.slice none 0 0, Value.slice none 0 0, Value.slice none 0 0] :: H) w' ∧ f' 2 = Value.pointer (some ⟨b32723, 0, none⟩) ∧ f' 3 = Value.pointer (some ⟨b32726, 0, none⟩) ∧ f' 4 = Value.pointer (some ⟨b32729, 0, none⟩) ∧ f' 28 = Value.bool (z32755)) z32755) ?_ ?_
  · refine W_region ?_
    refine WL_step rfl rfl (Exec.load_box_agg (ds := [Value.int .i64 (a27275.States), Value.int .i64 (a27275.Init), v27276, v27278, v27280]) ((hS32731).f2) A26 rfl rfl rfl ?_)
    obtain ⟨y32760, q32759, ht32756⟩ := bind_some ht32756
    refine WL_step rfl rfl (Exec.call rfl rfl Try.func17 rfl N17 (args_cons rfl args_nil) ((ref44_Valid_sim q32759 hS32731 a27277 a27279 a27281).mono ?_))
    rintro _ w32761 ⟨_, rfl, ⟨s32762, l32763, hS32764, rfl⟩⟩
    refine ⟨_, rfl, ?_⟩
    refine WL_step rfl rfl (Exec.not rfl rfl ?_)
    refine WL_step rfl rfl (Exec.move (v := Value.bool (!y32760)) rfl rfl ?_)
    rcases ite_some ht32756 with ⟨hc32765, ht32756⟩ | ⟨hc32765, ht32756⟩
    · refine WL_pass rfl (yield_of rfl (congrArg Value.bool hc32765)) rfl rfl ?_
      refine WL_pass rfl (yield_of rfl (congrArg Value.bool hc32765)) rfl rfl ?_
      refine WL_pass rfl (yield_of rfl (congrArg Value.bool hc32765)) rfl rfl ?_
      refine WL_step rfl rfl (Exec.pick_t (v := Value.bool (true)) rfl (congrArg Value.bool hc32765) rfl ?_)
      refine WL_step rfl rfl (Exec.move (v := Value.bool (true)) rfl rfl ?_)
      refine WL_pass rfl (yield_of rfl rfl) rfl rfl ?_
      refine WL_pass rfl (yield_of rfl rfl) rfl rfl ?_
      refine WL_pass rfl (yield_of rfl rfl) rfl rfl ?_
      refine WL_pass rfl (yield_of rfl rfl) rfl rfl ?_
      refine WL_pass rfl (yield_of rfl rfl) rfl rfl ?_
      refine WL_pass rfl (yield_of rfl rfl) rfl rfl ?_
      refine WL_step rfl rfl (Exec.pick_t (v := Value.bool (true)) rfl rfl rfl ?_)
      refine WL_nil (at_normal ?_)
      have e32766 := Option.some.inj ht32756
      subst z32755
      have hS32767 := (hS32764).f1
      have hS32768 := (hS32767).f2
      exact ⟨s32762, l32763, hS32768, rfl, rfl, rfl, rfl⟩
    · replace hc32765 := not_true hc32765
      refine WL_run rfl (yield_of rfl (congrArg Value.bool hc32765)) rfl (Exec.load_box_agg (ds := [Value.int .i64 (b27282.States), Value.int .i64 (b27282.Init), v27283, v27285, v27287]) ((hS32764).f1) A26 rfl rfl rfl ?_)
      obtain ⟨y32771, q32770, ht32756⟩ := bind_some ht32756
      refine WL_run rfl (yield_of rfl (congrArg Value.bool hc32765)) rfl (Exec.call rfl rfl Try.func17 rfl N17 (args_cons rfl args_nil) ((ref44_Valid_sim q32770 hS32764 (a27284.mono l32763) (a27286.mono l32763) (a27288.mono l32763)).mono ?_))
      rintro _ w32772 ⟨_, rfl, ⟨s32773, l32774, hS32775, rfl⟩⟩
      refine ⟨_, rfl, ?_⟩
      refine WL_run rfl (yield_of rfl (congrArg Value.bool hc32765)) rfl (Exec.not rfl rfl ?_)
      refine WL_step rfl rfl (Exec.pick_f (v := Value.bool (!y32771)) rfl (congrArg Value.bool hc32765) rfl ?_)
      refine WL_step rfl rfl (Exec.move (v := Value.bool (!y32771)) rfl rfl ?_)
      rcases ite_some ht32756 with ⟨hc32776, ht32756⟩ | ⟨hc32776, ht32756⟩
      · refine WL_pass rfl (yield_of rfl (congrArg Value.bool hc32776)) rfl rfl ?_
        refine WL_pass rfl (yield_of rfl (congrArg Value.bool hc32776)) rfl rfl ?_
        refine WL_pass rfl (yield_of rfl (congrArg Value.bool hc32776)) rfl rfl ?_
        refine WL_pass rfl (yield_of rfl (congrArg Value.bool hc32776)) rfl rfl ?_
        refine WL_pass rfl (yield_of rfl (congrArg Value.bool hc32776)) rfl rfl ?_
        refine WL_pass rfl (yield_of rfl (congrArg Value.bool hc32776)) rfl rfl ?_
        refine WL_step rfl rfl (Exec.pick_t (v := Value.bool (true)) rfl (congrArg Value.bool hc32776) rfl ?_)
        refine WL_nil (at_normal ?_)
        have e32777 := Option.some.inj ht32756
        subst z32755
        have hS32778 := (hS32775).f1
        have hS32779 := (hS32778).f2
        exact ⟨s32773, (PHeap.le.trans l32763 l32774), hS32779, rfl, rfl, rfl, rfl⟩
      · replace hc32776 := not_true hc32776
        refine WL_run rfl (yield_of rfl (congrArg Value.bool hc32776)) rfl (Exec.field F26_2 rfl rfl rfl ?_)
        refine WL_run rfl (yield_of rfl (congrArg Value.bool hc32776)) rfl (Exec.load_box ((hS32775).f2) A22 rfl rfl rfl ?_)
        refine WL_run rfl (yield_of rfl (congrArg Value.bool hc32776)) rfl (Exec.field F26_2 rfl rfl rfl ?_)
        refine WL_run rfl (yield_of rfl (congrArg Value.bool hc32776)) rfl (Exec.load_box ((hS32775).f1) A22 rfl rfl rfl ?_)
        obtain ⟨y32782, q32781, ht32756⟩ := bind_some ht32756
        refine WL_run rfl (yield_of rfl (congrArg Value.bool hc32776)) rfl (Exec.call rfl rfl Try.func20 rfl N20 (args_cons rfl (args_cons rfl args_nil)) ((base_Ints_sim q32781 hS32775 (a27277.mono (PHeap.le.trans l32763 l32774)) (a27284.mono (PHeap.le.trans l32763 l32774))).mono ?_))
        rintro _ w32783 ⟨_, rfl, ⟨s32784, l32785, hS32786, rfl⟩⟩
        refine ⟨_, rfl, ?_⟩
        refine WL_run rfl (yield_of rfl (congrArg Value.bool hc32776)) rfl (Exec.not rfl rfl ?_)
        refine WL_step rfl rfl (Exec.pick_f (v := Value.bool (!y32782)) rfl (congrArg Value.bool hc32776) rfl ?_)
        refine WL_nil (at_normal ?_)
        have e32787 := Option.some.inj ht32756
        subst z32755
        have hS32788 := (hS32786).f1
        have hS32789 := (hS32788).f2
        exact ⟨s32784, (PHeap.le.trans (PHeap.le.trans l32763 l32774) l32785), hS32789, rfl, rfl, rfl, rfl⟩
  · intro f32790 w32791 hM32792
    obtain ⟨s32793, l32794, hS32795, p32796, p32797, p32798, p32799⟩ := hM32792
    refine (at_normal ?_)
    rcases ite_some hm with ⟨hc32800, hm⟩ | ⟨hc32800, hm⟩
    · refine W_cond_t p32799 hc32800 ?_
      refine W_seq ?_
      refine W_region ?_
      refine WL_step rfl rfl (Exec.build rfl parts_nil (v := Value.agg #[Value.int .i64 (0), Value.int .i64 (0), Value.slice none 0 0, Value.slice none 0 0, Value.slice none 0 0]) (fun _ => by kernel_rfl) ?_)
      have hS32804 := (hS32795).f2
      refine WL_step rfl rfl (Exec.store_box (ds := [Value.int .i64 (0), Value.int .i64 (0), Value.slice none 0 0, Value.slice none 0 0, Value.slice none 0 0]) (es := [Value.int .i64 (0), Value.int .i64 (0), Value.slice none 0 0, Value.slice none 0 0, Value.slice none 0 0]) hS32804 A26 rfl p32798 rfl rfl (one_cons rfl (one_cons rfl (one_cons rfl (one_cons rfl (one_cons rfl one_nil))))) (Nat.le_of_ble_eq_true rfl) rfl ?_)
      intro w32805 hS32806
      refine WL_step rfl rfl (Exec.assign (v := Value.int .i64 (2)) rfl rfl ?_)
      refine WL_nil (at_normal ?_)
      refine W_ret (at_ret ?_)
      have e32808 := Option.some.inj hm
      subst r
      refine ⟨_, retG2 rfl ⟨_, _, p32798, cellRes (hS32806) A26⟩ rfl, ?_⟩
      have hS32809 := (hS32806).drop
      have hS32810 := (hS32809).drop
      have hS32811 := (hS32810).drop
      exact ⟨s32793, (Value.slice none 0 0), (Value.slice none 0 0), (Value.slice none 0 0), l32794, hS32811, (tup2 rfl rfl), (SliceRep.nil _ _), (SliceRep.nil _ _), (SliceRep.nil _ _)⟩
    · refine W_cond_f p32799 hc32800 ?_
      replace hc32800 := not_true hc32800
      refine W_skip (at_normal ?_)
      refine W_seq ?_
      refine W_seq ?_
      refine W_region ?_
      refine WL_step rfl rfl (Exec.field F26_0 rfl p32796 rfl ?_)
      refine WL_step rfl rfl (Exec.load_box (hS32795) A3 rfl rfl rfl ?_)
      refine WL_step rfl rfl (Exec.field F26_0 rfl p32797 rfl ?_)
      refine WL_step rfl rfl (Exec.load_box ((hS32795).f1) A3 rfl rfl rfl ?_)
      refine WL_step rfl rfl (Exec.mul rfl rfl rfl ?_)
      refine WL_step rfl rfl (Exec.gtr rfl rfl rfl ?_)
      refine WL_nil (at_normal ?_)
      rcases ite_some hm with ⟨hc32812, hm⟩ | ⟨hc32812, hm⟩
      · refine W_cond_t rfl hc32812 ?_
        refine W_seq ?_
        refine W_region ?_
        refine WL_step rfl rfl (Exec.build rfl parts_nil (v := Value.agg #[Value.int .i64 (0), Value.int .i64 (0), Value.slice none 0 0, Value.slice none 0 0, Value.slice none 0 0]) (fun _ => by kernel_rfl) ?_)
        have hS32816 := (hS32795).f2
        refine WL_step rfl rfl (Exec.store_box (ds := [Value.int .i64 (0), Value.int .i64 (0), Value.slice none 0 0, Value.slice none 0 0, Value.slice none 0 0]) (es := [Value.int .i64 (0), Value.int .i64 (0), Value.slice none 0 0, Value.slice none 0 0, Value.slice none 0 0]) hS32816 A26 rfl p32798 rfl rfl (one_cons rfl (one_cons rfl (one_cons rfl (one_cons rfl (one_cons rfl one_nil))))) (Nat.le_of_ble_eq_true rfl) rfl ?_)
        intro w32817 hS32818
        refine WL_step rfl rfl (Exec.assign (v := Value.int .i64 (5)) rfl rfl ?_)
        refine WL_nil (at_normal ?_)
        refine W_ret (at_ret ?_)
        have e32820 := Option.some.inj hm
        subst r
        refine ⟨_, retG2 rfl ⟨_, _, p32798, cellRes (hS32818) A26⟩ rfl, ?_⟩
        have hS32821 := (hS32818).drop
        have hS32822 := (hS32821).drop
        have hS32823 := (hS32822).drop
        exact ⟨s32793, (Value.slice none 0 0), (Value.slice none 0 0), (Value.slice none 0 0), l32794, hS32823, (tup2 rfl rfl), (SliceRep.nil _ _), (SliceRep.nil _ _), (SliceRep.nil _ _)⟩
      · refine W_cond_f rfl hc32812 ?_
        replace hc32812 := not_true hc32812
        refine W_skip (at_normal ?_)
        refine W_seq ?_
        obtain ⟨l32829, q32830, hm⟩ := bind_some hm
        refine W_mid (M := fun f' w' => ∃ (s32871 : PHeap) (b32868 : Nat) (v32870 : Value), PHeap.le s32793 s32871 ∧ St w0 s32871 (Res.box b32723 26 [Value.int .i64 (a27275.States), Value.int .i64 (a27275.Init), v27276, v27278, v27280] :: Res.box b32726 26 [Value.int .i64 (b27282.States), Value.int .i64 (b27282.Init), v27283, v27285, v27287] :: Res.box b32729 26 [Value.int .i64 (0), Value.int .i64 (0), Value.slice none 0 0, Value.slice none 0 0, Value.slice none 0 0] :: Res.box b32868 26 [Value.int .i64 (IntKind.i64.wrap (a27275.States * b27282.States)), Value.int .i64 (IntKind.i64.wrap ((IntKind.i64.wrap (a27275.Init * b27282.States)) + b27282.Init)), v32870, Value.slice none 0 0, Value.slice none 0 0] :: Res.arr (encInt .i64) 3 v32870 l32829 :: H) w' ∧ f' 2 = Value.pointer (some ⟨b32723, 0, none⟩) ∧ f' 3 = Value.pointer (some ⟨b32726, 0, none⟩) ∧ f' 4 = Value.pointer (some ⟨b32729, 0, none⟩) ∧ f' 6 = Value.pointer (some ⟨b32868, 0, none⟩)) ?_ ?_
        · refine W_dl (n0 := 19) (.q 0 (.q 1 (.q 2 (.q 3 (.q 4 (.q 5 (.q 6 (.q 7 (.q 8 (.q 9 (.q 10 (.q 11 (.q 12 (.q 14 (.q 15 (.alt (.e 13 [0, 1, 2, 3, 4, 5, 6, 7, 8, 9, 10, 11, 12, 14, 15] (.alt (.e 16 [0, 1, 2, 3, 4, 5, 6, 7, 8, 9, 10, 11, 12] (.q 17 (.e 18 [0, 1, 2, 3, 4, 5, 6, 7, 8, 9, 10, 11, 12, 17] .done))) (.e 18 [0, 1, 2, 3, 4, 5, 6, 7, 8, 9, 10, 11, 12, 14, 15] (.e 16 [0, 1, 2, 3, 4, 5, 6, 7, 8, 9, 10, 11, 12] (.q 17 .done))))) (.e 18 [0, 1, 2, 3, 4, 5, 6, 7, 8, 9, 10, 11, 12, 14, 15] (.e 13 [0, 1, 2, 3, 4, 5, 6, 7, 8, 9, 10, 11, 12, 14, 15] (.e 16 [0, 1, 2, 3, 4, 5, 6, 7, 8, 9, 10, 11, 12] (.q 17 .done)))))))))))))))))))) hmix (by kernel_rfl) (by kernel_rfl) ?_
          have hS32872 := hS32795.drew
          refine DL_q rfl rfl (Exec.field F26_0 rfl p32796 rfl ⟨rfl, ?_⟩)
          refine DL_q rfl rfl (Exec.load_box (hS32872) A3 rfl rfl rfl ⟨rfl, ?_⟩)
          refine DL_q rfl rfl (Exec.field F26_0 rfl p32797 rfl ⟨rfl, ?_⟩)
          refine DL_q rfl rfl (Exec.load_box ((hS32872).f1) A3 rfl rfl rfl ⟨rfl, ?_⟩)
          refine DL_q rfl rfl (Exec.mul rfl rfl rfl ⟨rfl, ?_⟩)
          refine DL_q rfl rfl (Exec.field F26_1 rfl p32796 rfl ⟨rfl, ?_⟩)
          refine DL_q rfl rfl (Exec.load_box (hS32872) A3 rfl rfl rfl ⟨rfl, ?_⟩)
          refine DL_q rfl rfl (Exec.field F26_0 rfl p32797 rfl ⟨rfl, ?_⟩)
          refine DL_q rfl rfl (Exec.load_box ((hS32872).f1) A3 rfl rfl rfl ⟨rfl, ?_⟩)
          refine DL_q rfl rfl (Exec.mul rfl rfl rfl ⟨rfl, ?_⟩)
          refine DL_q rfl rfl (Exec.field F26_1 rfl p32797 rfl ⟨rfl, ?_⟩)
          refine DL_q rfl rfl (Exec.load_box ((hS32872).f1) A3 rfl rfl rfl ⟨rfl, ?_⟩)
          refine DL_q rfl rfl (Exec.add rfl rfl rfl ⟨rfl, ?_⟩)
          refine DL_q rfl rfl (Exec.field F26_2 rfl p32796 rfl ⟨rfl, ?_⟩)
          refine DL_q rfl rfl (Exec.load_box (hS32872) A22 rfl rfl rfl ⟨rfl, ?_⟩)
          refine DL_alt ?_ ?_
          · refine DL_e rfl rfl (Exec.buildSlice (Te := 3) (cs := []) hS32872 rfl parts_nil (fun _ => by kernel_rfl) ?_)
            intro b32873 w32874 hS32875
            refine ⟨(ag_cons (ag_r rfl rfl (Exec.field F26_0 rfl p32796 rfl ⟨rfl, rfl⟩)) (ag_cons (ag_r rfl rfl (Exec.load_box ((hS32875).f1) A3 rfl rfl rfl ⟨rfl, rfl⟩)) (ag_cons (ag_r rfl rfl (Exec.field F26_0 rfl p32797 rfl ⟨rfl, rfl⟩)) (ag_cons (ag_r rfl rfl (Exec.load_box ((hS32875).f2) A3 rfl rfl rfl ⟨rfl, rfl⟩)) (ag_cons (ag_r rfl rfl (Exec.mul rfl rfl rfl ⟨rfl, rfl⟩)) (ag_cons (ag_r rfl rfl (Exec.field F26_1 rfl p32796 rfl ⟨rfl, rfl⟩)) (ag_cons (ag_r rfl rfl (Exec.load_box ((hS32875).f1) A3 rfl rfl rfl ⟨rfl, rfl⟩)) (ag_cons (ag_r rfl rfl (Exec.field F26_0 rfl p32797 rfl ⟨rfl, rfl⟩)) (ag_cons (ag_r rfl rfl (Exec.load_box ((hS32875).f2) A3 rfl rfl rfl ⟨rfl, rfl⟩)) (ag_cons (ag_r rfl rfl (Exec.mul rfl rfl rfl ⟨rfl, rfl⟩)) (ag_cons (ag_r rfl rfl (Exec.field F26_1 rfl p32797 rfl ⟨rfl, rfl⟩)) (ag_cons (ag_r rfl rfl (Exec.load_box ((hS32875).f2) A3 rfl rfl rfl ⟨rfl, rfl⟩)) (ag_cons (ag_r rfl rfl (Exec.add rfl rfl rfl ⟨rfl, rfl⟩)) (ag_cons (ag_r rfl rfl (Exec.field F26_2 rfl p32796 rfl ⟨rfl, rfl⟩)) (ag_cons (ag_r rfl rfl (Exec.load_box ((hS32875).f1) A22 rfl rfl rfl ⟨rfl, rfl⟩)) ag_nil))))))))))))))), ?_⟩
            refine DL_alt ?_ ?_
            · have hS32876 := St.boxArr (E := (encInt .i64)) (xs := []) hS32875 rfl (by simp [maxLen])
              refine DL_e rfl rfl (Exec.append_rep (E := (encInt .i64)) (ys := a27275.Costs) hS32876 S22 Z3 rfl (by decide) rfl rfl rfl (a27277.mono l32794) q32830 ?_)
              intro v32877 w32878 hS32879
              refine ⟨(ag_cons (ag_r rfl rfl (Exec.field F26_0 rfl p32796 rfl ⟨rfl, rfl⟩)) (ag_cons (ag_r rfl rfl (Exec.load_box ((hS32879).f1) A3 rfl rfl rfl ⟨rfl, rfl⟩)) (ag_cons (ag_r rfl rfl (Exec.field F26_0 rfl p32797 rfl ⟨rfl, rfl⟩)) (ag_cons (ag_r rfl rfl (Exec.load_box ((hS32879).f2) A3 rfl rfl rfl ⟨rfl, rfl⟩)) (ag_cons (ag_r rfl rfl (Exec.mul rfl rfl rfl ⟨rfl, rfl⟩)) (ag_cons (ag_r rfl rfl (Exec.field F26_1 rfl p32796 rfl ⟨rfl, rfl⟩)) (ag_cons (ag_r rfl rfl (Exec.load_box ((hS32879).f1) A3 rfl rfl rfl ⟨rfl, rfl⟩)) (ag_cons (ag_r rfl rfl (Exec.field F26_0 rfl p32797 rfl ⟨rfl, rfl⟩)) (ag_cons (ag_r rfl rfl (Exec.load_box ((hS32879).f2) A3 rfl rfl rfl ⟨rfl, rfl⟩)) (ag_cons (ag_r rfl rfl (Exec.mul rfl rfl rfl ⟨rfl, rfl⟩)) (ag_cons (ag_r rfl rfl (Exec.field F26_1 rfl p32797 rfl ⟨rfl, rfl⟩)) (ag_cons (ag_r rfl rfl (Exec.load_box ((hS32879).f2) A3 rfl rfl rfl ⟨rfl, rfl⟩)) (ag_cons (ag_r rfl rfl (Exec.add rfl rfl rfl ⟨rfl, rfl⟩)) ag_nil))))))))))))), ?_⟩
              refine DL_q rfl rfl (Exec.build rfl (parts_cons (c := [Value.int .i64 (IntKind.i64.wrap (a27275.States * b27282.States))]) (cells_of rfl rfl) (parts_cons (c := [Value.int .i64 (IntKind.i64.wrap ((IntKind.i64.wrap (a27275.Init * b27282.States)) + b27282.Init))]) (cells_of rfl rfl) (parts_cons (c := [v32877]) (cells_of rfl (cells_one (hS32879).arr_one)) parts_nil))) (v := Value.agg #[Value.int .i64 (IntKind.i64.wrap (a27275.States * b27282.States)), Value.int .i64 (IntKind.i64.wrap ((IntKind.i64.wrap (a27275.Init * b27282.States)) + b27282.Init)), v32877, Value.slice none 0 0, Value.slice none 0 0]) (fun _ => by kernel_rfl) ⟨rfl, ?_⟩)
              refine DL_e rfl rfl (Exec.alloc (cs := [Value.int .i64 (0), Value.int .i64 (0), Value.slice none 0 0, Value.slice none 0 0, Value.slice none 0 0]) hS32879 Z26 rfl rfl ?_)
              intro b32880 w32881 hS32882
              refine ⟨(ag_cons (ag_r rfl rfl (Exec.field F26_0 rfl p32796 rfl ⟨rfl, rfl⟩)) (ag_cons (ag_r rfl rfl (Exec.load_box ((hS32882).f2) A3 rfl rfl rfl ⟨rfl, rfl⟩)) (ag_cons (ag_r rfl rfl (Exec.field F26_0 rfl p32797 rfl ⟨rfl, rfl⟩)) (ag_cons (ag_r rfl rfl (Exec.load_box ((hS32882).f3) A3 rfl rfl rfl ⟨rfl, rfl⟩)) (ag_cons (ag_r rfl rfl (Exec.mul rfl rfl rfl ⟨rfl, rfl⟩)) (ag_cons (ag_r rfl rfl (Exec.field F26_1 rfl p32796 rfl ⟨rfl, rfl⟩)) (ag_cons (ag_r rfl rfl (Exec.load_box ((hS32882).f2) A3 rfl rfl rfl ⟨rfl, rfl⟩)) (ag_cons (ag_r rfl rfl (Exec.field F26_0 rfl p32797 rfl ⟨rfl, rfl⟩)) (ag_cons (ag_r rfl rfl (Exec.load_box ((hS32882).f3) A3 rfl rfl rfl ⟨rfl, rfl⟩)) (ag_cons (ag_r rfl rfl (Exec.mul rfl rfl rfl ⟨rfl, rfl⟩)) (ag_cons (ag_r rfl rfl (Exec.field F26_1 rfl p32797 rfl ⟨rfl, rfl⟩)) (ag_cons (ag_r rfl rfl (Exec.load_box ((hS32882).f3) A3 rfl rfl rfl ⟨rfl, rfl⟩)) (ag_cons (ag_r rfl rfl (Exec.add rfl rfl rfl ⟨rfl, rfl⟩)) (ag_cons (ag_r rfl rfl (Exec.build rfl (parts_cons (c := [Value.int .i64 (IntKind.i64.wrap (a27275.States * b27282.States))]) (cells_of rfl rfl) (parts_cons (c := [Value.int .i64 (IntKind.i64.wrap ((IntKind.i64.wrap (a27275.Init * b27282.States)) + b27282.Init))]) (cells_of rfl rfl) (parts_cons (c := [v32877]) (cells_of rfl (cells_one ((hS32882).f1).arr_one)) parts_nil))) (v := Value.agg #[Value.int .i64 (IntKind.i64.wrap (a27275.States * b27282.States)), Value.int .i64 (IntKind.i64.wrap ((IntKind.i64.wrap (a27275.Init * b27282.States)) + b27282.Init)), v32877, Value.slice none 0 0, Value.slice none 0 0]) (fun _ => by kernel_rfl) ⟨rfl, rfl⟩)) ag_nil)))))))))))))), ?_⟩
              refine DL_done ?_
              refine WL_step rfl rfl (Exec.store_box (ds := [Value.int .i64 (IntKind.i64.wrap (a27275.States * b27282.States)), Value.int .i64 (IntKind.i64.wrap ((IntKind.i64.wrap (a27275.Init * b27282.States)) + b27282.Init)), v32877, Value.slice none 0 0, Value.slice none 0 0]) (es := [Value.int .i64 (IntKind.i64.wrap (a27275.States * b27282.States)), Value.int .i64 (IntKind.i64.wrap ((IntKind.i64.wrap (a27275.Init * b27282.States)) + b27282.Init)), v32877, Value.slice none 0 0, Value.slice none 0 0]) hS32882 A26 rfl rfl rfl rfl (one_cons rfl (one_cons rfl (one_cons ((hS32882).f1).arr_one (one_cons rfl (one_cons rfl one_nil))))) (Nat.le_of_ble_eq_true rfl) rfl ?_)
              intro w32883 hS32884
              refine WL_nil (at_normal ?_)
              have hS32885 := (hS32884).f1
              have hS32886 := (hS32885).f1
              have hS32887 := (hS32886).f4
              have hS32888 := (hS32887).f4
              have hS32889 := (hS32888).f4
              exact ⟨s32793, b32880, v32877, (PHeap.le_refl _), hS32889, p32796, p32797, p32798, rfl⟩
            refine DL_e rfl rfl (Exec.alloc (cs := [Value.int .i64 (0), Value.int .i64 (0), Value.slice none 0 0, Value.slice none 0 0, Value.slice none 0 0]) hS32875 Z26 rfl rfl ?_)
            intro b32890 w32891 hS32892
            refine ⟨(ag_cons (ag_r rfl rfl (Exec.field F26_0 rfl p32796 rfl ⟨rfl, rfl⟩)) (ag_cons (ag_r rfl rfl (Exec.load_box ((hS32892).f2) A3 rfl rfl rfl ⟨rfl, rfl⟩)) (ag_cons (ag_r rfl rfl (Exec.field F26_0 rfl p32797 rfl ⟨rfl, rfl⟩)) (ag_cons (ag_r rfl rfl (Exec.load_box ((hS32892).f3) A3 rfl rfl rfl ⟨rfl, rfl⟩)) (ag_cons (ag_r rfl rfl (Exec.mul rfl rfl rfl ⟨rfl, rfl⟩)) (ag_cons (ag_r rfl rfl (Exec.field F26_1 rfl p32796 rfl ⟨rfl, rfl⟩)) (ag_cons (ag_r rfl rfl (Exec.load_box ((hS32892).f2) A3 rfl rfl rfl ⟨rfl, rfl⟩)) (ag_cons (ag_r rfl rfl (Exec.field F26_0 rfl p32797 rfl ⟨rfl, rfl⟩)) (ag_cons (ag_r rfl rfl (Exec.load_box ((hS32892).f3) A3 rfl rfl rfl ⟨rfl, rfl⟩)) (ag_cons (ag_r rfl rfl (Exec.mul rfl rfl rfl ⟨rfl, rfl⟩)) (ag_cons (ag_r rfl rfl (Exec.field F26_1 rfl p32797 rfl ⟨rfl, rfl⟩)) (ag_cons (ag_r rfl rfl (Exec.load_box ((hS32892).f3) A3 rfl rfl rfl ⟨rfl, rfl⟩)) (ag_cons (ag_r rfl rfl (Exec.add rfl rfl rfl ⟨rfl, rfl⟩)) (ag_cons (ag_r rfl rfl (Exec.field F26_2 rfl p32796 rfl ⟨rfl, rfl⟩)) (ag_cons (ag_r rfl rfl (Exec.load_box ((hS32892).f2) A22 rfl rfl rfl ⟨rfl, rfl⟩)) ag_nil))))))))))))))), ?_⟩
            have hS32893 := (hS32892).f1
            have hS32894 := St.boxArr (E := (encInt .i64)) (xs := []) hS32893 rfl (by simp [maxLen])
            refine DL_e rfl rfl (Exec.append_rep (E := (encInt .i64)) (ys := a27275.Costs) hS32894 S22 Z3 rfl (by decide) rfl rfl rfl (a27277.mono l32794) q32830 ?_)
            intro v32895 w32896 hS32897
            refine ⟨(ag_cons (ag_r rfl rfl (Exec.field F26_0 rfl p32796 rfl ⟨rfl, rfl⟩)) (ag_cons (ag_r rfl rfl (Exec.load_box ((hS32897).f2) A3 rfl rfl rfl ⟨rfl, rfl⟩)) (ag_cons (ag_r rfl rfl (Exec.field F26_0 rfl p32797 rfl ⟨rfl, rfl⟩)) (ag_cons (ag_r rfl rfl (Exec.load_box ((hS32897).f3) A3 rfl rfl rfl ⟨rfl, rfl⟩)) (ag_cons (ag_r rfl rfl (Exec.mul rfl rfl rfl ⟨rfl, rfl⟩)) (ag_cons (ag_r rfl rfl (Exec.field F26_1 rfl p32796 rfl ⟨rfl, rfl⟩)) (ag_cons (ag_r rfl rfl (Exec.load_box ((hS32897).f2) A3 rfl rfl rfl ⟨rfl, rfl⟩)) (ag_cons (ag_r rfl rfl (Exec.field F26_0 rfl p32797 rfl ⟨rfl, rfl⟩)) (ag_cons (ag_r rfl rfl (Exec.load_box ((hS32897).f3) A3 rfl rfl rfl ⟨rfl, rfl⟩)) (ag_cons (ag_r rfl rfl (Exec.mul rfl rfl rfl ⟨rfl, rfl⟩)) (ag_cons (ag_r rfl rfl (Exec.field F26_1 rfl p32797 rfl ⟨rfl, rfl⟩)) (ag_cons (ag_r rfl rfl (Exec.load_box ((hS32897).f3) A3 rfl rfl rfl ⟨rfl, rfl⟩)) (ag_cons (ag_r rfl rfl (Exec.add rfl rfl rfl ⟨rfl, rfl⟩)) ag_nil))))))))))))), ?_⟩
            refine DL_q rfl rfl (Exec.build rfl (parts_cons (c := [Value.int .i64 (IntKind.i64.wrap (a27275.States * b27282.States))]) (cells_of rfl rfl) (parts_cons (c := [Value.int .i64 (IntKind.i64.wrap ((IntKind.i64.wrap (a27275.Init * b27282.States)) + b27282.Init))]) (cells_of rfl rfl) (parts_cons (c := [v32895]) (cells_of rfl (cells_one (hS32897).arr_one)) parts_nil))) (v := Value.agg #[Value.int .i64 (IntKind.i64.wrap (a27275.States * b27282.States)), Value.int .i64 (IntKind.i64.wrap ((IntKind.i64.wrap (a27275.Init * b27282.States)) + b27282.Init)), v32895, Value.slice none 0 0, Value.slice none 0 0]) (fun _ => by kernel_rfl) ⟨rfl, ?_⟩)
            refine DL_done ?_
            have hS32898 := (hS32897).f1
            refine WL_step rfl rfl (Exec.store_box (ds := [Value.int .i64 (IntKind.i64.wrap (a27275.States * b27282.States)), Value.int .i64 (IntKind.i64.wrap ((IntKind.i64.wrap (a27275.Init * b27282.States)) + b27282.Init)), v32895, Value.slice none 0 0, Value.slice none 0 0]) (es := [Value.int .i64 (IntKind.i64.wrap (a27275.States * b27282.States)), Value.int .i64 (IntKind.i64.wrap ((IntKind.i64.wrap (a27275.Init * b27282.States)) + b27282.Init)), v32895, Value.slice none 0 0, Value.slice none 0 0]) hS32898 A26 rfl rfl rfl rfl (one_cons rfl (one_cons rfl (one_cons ((hS32898).f1).arr_one (one_cons rfl (one_cons rfl one_nil))))) (Nat.le_of_ble_eq_true rfl) rfl ?_)
            intro w32899 hS32900
            refine WL_nil (at_normal ?_)
            have hS32901 := (hS32900).f1
            have hS32902 := (hS32901).f1
            have hS32903 := (hS32902).f4
            have hS32904 := (hS32903).f4
            have hS32905 := (hS32904).f4
            exact ⟨s32793, b32890, v32895, (PHeap.le_refl _), hS32905, p32796, p32797, p32798, rfl⟩
          refine DL_e rfl rfl (Exec.alloc (cs := [Value.int .i64 (0), Value.int .i64 (0), Value.slice none 0 0, Value.slice none 0 0, Value.slice none 0 0]) hS32872 Z26 rfl rfl ?_)
          intro b32906 w32907 hS32908
          refine ⟨(ag_cons (ag_r rfl rfl (Exec.field F26_0 rfl p32796 rfl ⟨rfl, rfl⟩)) (ag_cons (ag_r rfl rfl (Exec.load_box ((hS32908).f1) A3 rfl rfl rfl ⟨rfl, rfl⟩)) (ag_cons (ag_r rfl rfl (Exec.field F26_0 rfl p32797 rfl ⟨rfl, rfl⟩)) (ag_cons (ag_r rfl rfl (Exec.load_box ((hS32908).f2) A3 rfl rfl rfl ⟨rfl, rfl⟩)) (ag_cons (ag_r rfl rfl (Exec.mul rfl rfl rfl ⟨rfl, rfl⟩)) (ag_cons (ag_r rfl rfl (Exec.field F26_1 rfl p32796 rfl ⟨rfl, rfl⟩)) (ag_cons (ag_r rfl rfl (Exec.load_box ((hS32908).f1) A3 rfl rfl rfl ⟨rfl, rfl⟩)) (ag_cons (ag_r rfl rfl (Exec.field F26_0 rfl p32797 rfl ⟨rfl, rfl⟩)) (ag_cons (ag_r rfl rfl (Exec.load_box ((hS32908).f2) A3 rfl rfl rfl ⟨rfl, rfl⟩)) (ag_cons (ag_r rfl rfl (Exec.mul rfl rfl rfl ⟨rfl, rfl⟩)) (ag_cons (ag_r rfl rfl (Exec.field F26_1 rfl p32797 rfl ⟨rfl, rfl⟩)) (ag_cons (ag_r rfl rfl (Exec.load_box ((hS32908).f2) A3 rfl rfl rfl ⟨rfl, rfl⟩)) (ag_cons (ag_r rfl rfl (Exec.add rfl rfl rfl ⟨rfl, rfl⟩)) (ag_cons (ag_r rfl rfl (Exec.field F26_2 rfl p32796 rfl ⟨rfl, rfl⟩)) (ag_cons (ag_r rfl rfl (Exec.load_box ((hS32908).f1) A22 rfl rfl rfl ⟨rfl, rfl⟩)) ag_nil))))))))))))))), ?_⟩
          refine DL_e rfl rfl (Exec.buildSlice (Te := 3) (cs := []) hS32908 rfl parts_nil (fun _ => by kernel_rfl) ?_)
          intro b32909 w32910 hS32911
          refine ⟨(ag_cons (ag_r rfl rfl (Exec.field F26_0 rfl p32796 rfl ⟨rfl, rfl⟩)) (ag_cons (ag_r rfl rfl (Exec.load_box ((hS32911).f2) A3 rfl rfl rfl ⟨rfl, rfl⟩)) (ag_cons (ag_r rfl rfl (Exec.field F26_0 rfl p32797 rfl ⟨rfl, rfl⟩)) (ag_cons (ag_r rfl rfl (Exec.load_box ((hS32911).f3) A3 rfl rfl rfl ⟨rfl, rfl⟩)) (ag_cons (ag_r rfl rfl (Exec.mul rfl rfl rfl ⟨rfl, rfl⟩)) (ag_cons (ag_r rfl rfl (Exec.field F26_1 rfl p32796 rfl ⟨rfl, rfl⟩)) (ag_cons (ag_r rfl rfl (Exec.load_box ((hS32911).f2) A3 rfl rfl rfl ⟨rfl, rfl⟩)) (ag_cons (ag_r rfl rfl (Exec.field F26_0 rfl p32797 rfl ⟨rfl, rfl⟩)) (ag_cons (ag_r rfl rfl (Exec.load_box ((hS32911).f3) A3 rfl rfl rfl ⟨rfl, rfl⟩)) (ag_cons (ag_r rfl rfl (Exec.mul rfl rfl rfl ⟨rfl, rfl⟩)) (ag_cons (ag_r rfl rfl (Exec.field F26_1 rfl p32797 rfl ⟨rfl, rfl⟩)) (ag_cons (ag_r rfl rfl (Exec.load_box ((hS32911).f3) A3 rfl rfl rfl ⟨rfl, rfl⟩)) (ag_cons (ag_r rfl rfl (Exec.add rfl rfl rfl ⟨rfl, rfl⟩)) (ag_cons (ag_r rfl rfl (Exec.field F26_2 rfl p32796 rfl ⟨rfl, rfl⟩)) (ag_cons (ag_r rfl rfl (Exec.load_box ((hS32911).f2) A22 rfl rfl rfl ⟨rfl, rfl⟩)) ag_nil))))))))))))))), ?_⟩
          have hS32912 := St.boxArr (E := (encInt .i64)) (xs := []) hS32911 rfl (by simp [maxLen])
          refine DL_e rfl rfl (Exec.append_rep (E := (encInt .i64)) (ys := a27275.Costs) hS32912 S22 Z3 rfl (by decide) rfl rfl rfl (a27277.mono l32794) q32830 ?_)
          intro v32913 w32914 hS32915
          refine ⟨(ag_cons (ag_r rfl rfl (Exec.field F26_0 rfl p32796 rfl ⟨rfl, rfl⟩)) (ag_cons (ag_r rfl rfl (Exec.load_box ((hS32915).f2) A3 rfl rfl rfl ⟨rfl, rfl⟩)) (ag_cons (ag_r rfl rfl (Exec.field F26_0 rfl p32797 rfl ⟨rfl, rfl⟩)) (ag_cons (ag_r rfl rfl (Exec.load_box ((hS32915).f3) A3 rfl rfl rfl ⟨rfl, rfl⟩)) (ag_cons (ag_r rfl rfl (Exec.mul rfl rfl rfl ⟨rfl, rfl⟩)) (ag_cons (ag_r rfl rfl (Exec.field F26_1 rfl p32796 rfl ⟨rfl, rfl⟩)) (ag_cons (ag_r rfl rfl (Exec.load_box ((hS32915).f2) A3 rfl rfl rfl ⟨rfl, rfl⟩)) (ag_cons (ag_r rfl rfl (Exec.field F26_0 rfl p32797 rfl ⟨rfl, rfl⟩)) (ag_cons (ag_r rfl rfl (Exec.load_box ((hS32915).f3) A3 rfl rfl rfl ⟨rfl, rfl⟩)) (ag_cons (ag_r rfl rfl (Exec.mul rfl rfl rfl ⟨rfl, rfl⟩)) (ag_cons (ag_r rfl rfl (Exec.field F26_1 rfl p32797 rfl ⟨rfl, rfl⟩)) (ag_cons (ag_r rfl rfl (Exec.load_box ((hS32915).f3) A3 rfl rfl rfl ⟨rfl, rfl⟩)) (ag_cons (ag_r rfl rfl (Exec.add rfl rfl rfl ⟨rfl, rfl⟩)) ag_nil))))))))))))), ?_⟩
          refine DL_q rfl rfl (Exec.build rfl (parts_cons (c := [Value.int .i64 (IntKind.i64.wrap (a27275.States * b27282.States))]) (cells_of rfl rfl) (parts_cons (c := [Value.int .i64 (IntKind.i64.wrap ((IntKind.i64.wrap (a27275.Init * b27282.States)) + b27282.Init))]) (cells_of rfl rfl) (parts_cons (c := [v32913]) (cells_of rfl (cells_one (hS32915).arr_one)) parts_nil))) (v := Value.agg #[Value.int .i64 (IntKind.i64.wrap (a27275.States * b27282.States)), Value.int .i64 (IntKind.i64.wrap ((IntKind.i64.wrap (a27275.Init * b27282.States)) + b27282.Init)), v32913, Value.slice none 0 0, Value.slice none 0 0]) (fun _ => by kernel_rfl) ⟨rfl, ?_⟩)
          refine DL_done ?_
          have hS32916 := (hS32915).f1
          refine WL_step rfl rfl (Exec.store_box (ds := [Value.int .i64 (IntKind.i64.wrap (a27275.States * b27282.States)), Value.int .i64 (IntKind.i64.wrap ((IntKind.i64.wrap (a27275.Init * b27282.States)) + b27282.Init)), v32913, Value.slice none 0 0, Value.slice none 0 0]) (es := [Value.int .i64 (IntKind.i64.wrap (a27275.States * b27282.States)), Value.int .i64 (IntKind.i64.wrap ((IntKind.i64.wrap (a27275.Init * b27282.States)) + b27282.Init)), v32913, Value.slice none 0 0, Value.slice none 0 0]) hS32916 A26 rfl rfl rfl rfl (one_cons rfl (one_cons rfl (one_cons ((hS32916).f1).arr_one (one_cons rfl (one_cons rfl one_nil))))) (Nat.le_of_ble_eq_true rfl) rfl ?_)
          intro w32917 hS32918
          refine WL_nil (at_normal ?_)
          have hS32919 := (hS32918).f1
          have hS32920 := (hS32919).f1
          have hS32921 := (hS32920).f4
          have hS32922 := (hS32921).f4
          have hS32923 := (hS32922).f4
          exact ⟨s32793, b32906, v32913, (PHeap.le_refl _), hS32923, p32796, p32797, p32798, rfl⟩
        · intro f32924 w32925 hM32926
          obtain ⟨s32927, b32868, v32870, l32928, hS32929, p32930, p32931, p32932, p32933⟩ := hM32926
          refine (at_normal ?_)
          refine W_seq ?_
          refine W_seq ?_
          refine W_region ?_
          refine WL_step rfl rfl (Exec.field F26_4 rfl p32930 rfl ?_)
          refine WL_step rfl rfl (Exec.load_box (hS32929) A24 rfl rfl rfl ?_)
          refine WL_step rfl rfl (Exec.len_rep S24 rfl rfl (a27281.mono (PHeap.le.trans l32794 l32928)) ?_)
          refine WL_step rfl rfl (Exec.move (v := Value.int .i64 (0)) rfl rfl ?_)
          refine WL_nil (at_normal ?_)
          obtain ⟨z33611, hB34275, hm⟩ := bind_some hm
          refine W_block (W_forS (fun k' s' f' w' => (fun (z33611 : (List Bool)) => ∃ (s34276 : PHeap) (v33612 : Value), PHeap.le s32927 s34276 ∧ St w0 s34276 (Res.box b32723 26 [Value.int .i64 (a27275.States), Value.int .i64 (a27275.Init), v27276, v27278, v27280] :: Res.box b32726 26 [Value.int .i64 (b27282.States), Value.int .i64 (b27282.Init), v27283, v27285, v27287] :: Res.box b32729 26 [Value.int .i64 (0), Value.int .i64 (0), Value.slice none 0 0, Value.slice none 0 0, Value.slice none 0 0] :: Res.box b32868 26 [Value.int .i64 (IntKind.i64.wrap (a27275.States * b27282.States)), Value.int .i64 (IntKind.i64.wrap ((IntKind.i64.wrap (a27275.Init * b27282.States)) + b27282.Init)), v32870, Value.slice none 0 0, v33612] :: Res.arr (encInt .i64) 3 v32870 l32829 :: Res.arr encBool 4 v33612 z33611 :: H) w' ∧ f' 2 = Value.pointer (some ⟨b32723, 0, none⟩) ∧ f' 3 = Value.pointer (some ⟨b32726, 0, none⟩) ∧ f' 4 = Value.pointer (some ⟨b32729, 0, none⟩) ∧ f' 6 = Value.pointer (some ⟨b32868, 0, none⟩) ∧ f' 57 = Value.int .i64 ((a27275.Goals.length : Int)) ∧ f' 58 = Value.int .i64 (k' : Int)) s') hB34275 ?_ ?_ ?_)
          · have hS34277 := hS32929.nilArr encBool 4
            have hS34278 := (hS34277).f5
            have hS34279 := (hS34278).f5
            have hS34280 := (hS34279).f5
            have hS34281 := (hS34280).f5
            have hS34282 := (hS34281).f5
            exact ⟨s32927, (Value.slice none 0 0), (PHeap.le_refl _), hS34282, p32930, p32931, p32932, p32933, rfl, rfl⟩
          · intro i32934 z33611 s34284 f34285 w34286 hi34287 hI34288 hm34289
            obtain ⟨s34290, v33612, l34291, hS34292, p34293, p34294, p34295, p34296, p34297, x34298⟩ := hI34288
            refine W_seq ?_
            refine W_region ?_
            refine WL_step rfl rfl (Exec.lss rfl x34298 p34297 ?_)
            refine WL_nil (at_normal ?_)
            refine W_seq ?_
            refine W_true (congrArg Value.bool (decide_eq_true (by omega))) ?_
            refine W_skip (at_normal ?_)
            refine W_seq ?_
            refine W_block ?_
            refine W_seq ?_
            refine W_region ?_
            refine WL_step rfl rfl (Exec.move (v := Value.int .i64 ((i32934 : Int))) rfl x34298 ?_)
            refine WL_step rfl rfl (Exec.assign (v := Value.int .i64 ((i32934 : Int))) rfl rfl ?_)
            refine WL_nil (at_normal ?_)
            refine W_seq ?_
            refine W_region ?_
            refine WL_step rfl rfl (Exec.field F26_4 rfl p34294 rfl ?_)
            refine WL_step rfl rfl (Exec.load_box ((hS34292).f1) A24 rfl rfl rfl ?_)
            refine WL_step rfl rfl (Exec.len_rep S24 rfl rfl (a27288.mono (PHeap.le.trans (PHeap.le.trans l32794 l32928) l34291)) ?_)
            refine WL_step rfl rfl (Exec.move (v := Value.int .i64 (0)) rfl rfl ?_)
            refine WL_nil (at_normal ?_)
            obtain ⟨l34502, hB34708, hm34289⟩ := bind_some hm34289
            refine W_block (W_forS (fun k' s' f' w' => (fun (l34502 : (List Bool)) => ∃ (s34709 : PHeap) (v34503 : Value), PHeap.le s34290 s34709 ∧ St w0 s34709 (Res.box b32723 26 [Value.int .i64 (a27275.States), Value.int .i64 (a27275.Init), v27276, v27278, v27280] :: Res.box b32726 26 [Value.int .i64 (b27282.States), Value.int .i64 (b27282.Init), v27283, v27285, v27287] :: Res.box b32729 26 [Value.int .i64 (0), Value.int .i64 (0), Value.slice none 0 0, Value.slice none 0 0, Value.slice none 0 0] :: Res.box b32868 26 [Value.int .i64 (IntKind.i64.wrap (a27275.States * b27282.States)), Value.int .i64 (IntKind.i64.wrap ((IntKind.i64.wrap (a27275.Init * b27282.States)) + b27282.Init)), v32870, Value.slice none 0 0, v34503] :: Res.arr (encInt .i64) 3 v32870 l32829 :: Res.arr encBool 4 v34503 l34502 :: H) w' ∧ f' 2 = Value.pointer (some ⟨b32723, 0, none⟩) ∧ f' 3 = Value.pointer (some ⟨b32726, 0, none⟩) ∧ f' 4 = Value.pointer (some ⟨b32729, 0, none⟩) ∧ f' 6 = Value.pointer (some ⟨b32868, 0, none⟩) ∧ f' 7 = Value.int .i64 ((i32934 : Int)) ∧ f' 57 = Value.int .i64 ((a27275.Goals.length : Int)) ∧ f' 58 = Value.int .i64 ((i32934 : Int)) ∧ f' 63 = Value.int .i64 ((b27282.Goals.length : Int)) ∧ f' 64 = Value.int .i64 (k' : Int)) s') hB34708 ?_ ?_ ?_)
            · have hS34710 := (hS34292).f5
              have hS34711 := (hS34710).f5
              have hS34712 := (hS34711).f5
              have hS34713 := (hS34712).f5
              have hS34714 := (hS34713).f5
              have hS34715 := (hS34714).f5
              exact ⟨s34290, v33612, (PHeap.le_refl _), hS34715, p34293, p34294, p34295, p34296, rfl, p34297, x34298, rfl, rfl⟩
            · intro i34299 l34502 s34717 f34718 w34719 hi34720 hI34721 hm34722
              obtain ⟨s34723, v34503, l34724, hS34725, p34726, p34727, p34728, p34729, p34730, p34731, p34732, p34733, x34734⟩ := hI34721
              refine W_seq ?_
              refine W_region ?_
              refine WL_step rfl rfl (Exec.lss rfl x34734 p34733 ?_)
              refine WL_nil (at_normal ?_)
              refine W_seq ?_
              refine W_true (congrArg Value.bool (decide_eq_true (by omega))) ?_
              refine W_skip (at_normal ?_)
              refine W_seq ?_
              refine W_block ?_
              refine W_seq ?_
              refine W_region ?_
              refine WL_step rfl rfl (Exec.move (v := Value.int .i64 ((i34299 : Int))) rfl x34734 ?_)
              refine WL_step rfl rfl (Exec.assign (v := Value.int .i64 ((i34299 : Int))) rfl rfl ?_)
              refine WL_nil (at_normal ?_)
              obtain ⟨l34819, ht34821, hm34722⟩ := bind_some hm34722
              refine W_mid (M := fun f' w' => (fun (l34819 : (List Bool)) => ∃ (s34822 : PHeap) (v34820 : Value), PHeap.le s34723 s34822 ∧ St w0 s34822 (Res.box b32723 26 [Value.int .i64 (a27275.States), Value.int .i64 (a27275.Init), v27276, v27278, v27280] :: Res.box b32726 26 [Value.int .i64 (b27282.States), Value.int .i64 (b27282.Init), v27283, v27285, v27287] :: Res.box b32729 26 [Value.int .i64 (0), Value.int .i64 (0), Value.slice none 0 0, Value.slice none 0 0, Value.slice none 0 0] :: Res.box b32868 26 [Value.int .i64 (IntKind.i64.wrap (a27275.States * b27282.States)), Value.int .i64 (IntKind.i64.wrap ((IntKind.i64.wrap (a27275.Init * b27282.States)) + b27282.Init)), v32870, Value.slice none 0 0, v34820] :: Res.arr (encInt .i64) 3 v32870 l32829 :: Res.arr encBool 4 v34820 l34819 :: H) w' ∧ f' 2 = Value.pointer (some ⟨b32723, 0, none⟩) ∧ f' 3 = Value.pointer (some ⟨b32726, 0, none⟩) ∧ f' 4 = Value.pointer (some ⟨b32729, 0, none⟩) ∧ f' 6 = Value.pointer (some ⟨b32868, 0, none⟩) ∧ f' 7 = Value.int .i64 ((i32934 : Int)) ∧ f' 57 = Value.int .i64 ((a27275.Goals.length : Int)) ∧ f' 58 = Value.int .i64 ((i32934 : Int)) ∧ f' 63 = Value.int .i64 ((b27282.Goals.length : Int)) ∧ f' 64 = Value.int .i64 ((i34299 : Int))) l34819) ?_ ?_
              · refine W_dl (n0 := 16) (.q 0 (.q 1 (.q 2 (.q 3 (.q 4 (.q 5 (.q 6 (.q 7 (.q 8 (.q 9 (.q 10 (.q 11 (.q 12 (.q 13 (.e 14 [0, 1] (.e 15 [] .done)))))))))))))))) hmix (by kernel_rfl) (by kernel_rfl) ?_
                have hS34865 := hS34725.drew
                refine DL_q rfl rfl (Exec.field F26_4 rfl p34729 rfl ⟨rfl, ?_⟩)
                refine DL_q rfl rfl (Exec.load_box ((hS34865).f3) A24 rfl rfl rfl ⟨rfl, ?_⟩)
                refine DL_q rfl rfl (Exec.field F26_4 rfl p34726 rfl ⟨rfl, ?_⟩)
                refine DL_q rfl rfl (Exec.load_box (hS34865) A24 rfl rfl rfl ⟨rfl, ?_⟩)
                refine DL_q rfl rfl (Exec.move (v := Value.int .i64 ((i32934 : Int))) rfl p34730 ⟨rfl, ?_⟩)
                obtain ⟨x34866, q34867, ht34821⟩ := bind_some ht34821
                refine DL_q rfl rfl (Exec.index_repE S24 rfl rfl rfl (a27281.mono (PHeap.le.trans (PHeap.le.trans (PHeap.le.trans l32794 l32928) l34291) l34724)) q34867 ?_)
                intro b34868 o34869 a34870 e34871
                refine ⟨rfl, ?_⟩
                refine DL_q rfl rfl (Exec.load_at (E := encBool) hS34865 A4 rfl rfl rfl a34870 ?_)
                intro v34872 q34873
                obtain rfl := encBool_val.1 q34873
                refine ⟨rfl, ?_⟩
                refine DL_q rfl rfl (Exec.move (v := Value.bool (x34866)) rfl rfl ⟨rfl, ?_⟩)
                rcases ite_some ht34821 with ⟨hc34874, ht34821⟩ | ⟨hc34874, ht34821⟩
                · refine DL_qg rfl rfl (yield_of rfl (congrArg Value.bool hc34874)) (Exec.field F26_4 rfl p34727 rfl ⟨rfl, ?_⟩)
                  refine DL_qg rfl rfl (yield_of rfl (congrArg Value.bool hc34874)) (Exec.load_box ((hS34865).f1) A24 rfl rfl rfl ⟨rfl, ?_⟩)
                  refine DL_qg rfl rfl (yield_of rfl (congrArg Value.bool hc34874)) (Exec.move (v := Value.int .i64 ((i34299 : Int))) rfl rfl ⟨rfl, ?_⟩)
                  obtain ⟨x34875, q34876, ht34821⟩ := bind_some ht34821
                  refine DL_qg rfl rfl (yield_of rfl (congrArg Value.bool hc34874)) (Exec.index_repE S24 rfl rfl rfl (a27288.mono (PHeap.le.trans (PHeap.le.trans (PHeap.le.trans l32794 l32928) l34291) l34724)) q34876 ?_)
                  intro b34877 o34878 a34879 e34880
                  refine ⟨rfl, ?_⟩
                  refine DL_qg rfl rfl (yield_of rfl (congrArg Value.bool hc34874)) (Exec.load_at (E := encBool) hS34865 A4 rfl rfl rfl a34879 ?_)
                  intro v34881 q34882
                  obtain rfl := encBool_val.1 q34882
                  refine ⟨rfl, ?_⟩
                  refine DL_q rfl rfl (Exec.pick_t (v := Value.bool (x34875)) rfl (congrArg Value.bool hc34874) rfl ⟨rfl, ?_⟩)
                  refine DL_e rfl rfl (Exec.buildSlice (Te := 4) (cs := [Value.bool (x34875)]) hS34865 rfl (parts_cons (c := [Value.bool (x34875)]) (cells_of rfl rfl) parts_nil) (fun _ => by kernel_rfl) ?_)
                  intro b34883 w34884 hS34885
                  refine ⟨(ag_cons (ag_r rfl rfl (Exec.field F26_4 rfl p34729 rfl ⟨rfl, rfl⟩)) (ag_cons (ag_r rfl rfl (Exec.load_box ((hS34885).f4) A24 rfl rfl rfl ⟨rfl, rfl⟩)) ag_nil)), ?_⟩
                  obtain ⟨l34886, q34887, ht34821⟩ := bind_some ht34821
                  have hS34888 := (hS34885).f6
                  refine DL_e rfl rfl (Exec.append_box (E := encBool) (ys := [x34875]) hS34888 S24 Z4 rfl (by decide) rfl rfl rfl rfl ⟨[Value.bool (x34875)], [], rfl, rfl, rfl⟩ rfl q34887 ?_)
                  intro v34889 w34890 hS34891
                  refine ⟨ag_nil, ?_⟩
                  refine DL_done ?_
                  refine WL_step rfl rfl (Exec.field F26_4 rfl p34729 rfl ?_)
                  have hS34892 := (hS34891).f4
                  refine WL_step rfl rfl (Exec.store_box (ds := [v34889]) (es := [Value.int .i64 (IntKind.i64.wrap (a27275.States * b27282.States)), Value.int .i64 (IntKind.i64.wrap ((IntKind.i64.wrap (a27275.Init * b27282.States)) + b27282.Init)), v32870, Value.slice none 0 0, v34889]) hS34892 A24 rfl rfl rfl (cells_one ((hS34892).f1).arr_one) (one_cons ((hS34892).f1).arr_one one_nil) (Nat.le_of_ble_eq_true rfl) rfl ?_)
                  intro w34893 hS34894
                  refine WL_nil (at_normal ?_)
                  have e34895 := Option.some.inj ht34821
                  subst l34819
                  have hS34896 := (hS34894).f1
                  have hS34897 := (hS34896).f5
                  have hS34898 := (hS34897).f2
                  have hS34899 := (hS34898).f5
                  have hS34900 := (hS34899).f5
                  have hS34901 := (hS34900).f5
                  exact ⟨s34723, v34889, (PHeap.le_refl _), hS34901, p34726, p34727, p34728, p34729, p34730, p34731, p34732, p34733, x34734⟩
                · replace hc34874 := not_true hc34874
                  refine DL_qp rfl rfl (yield_of rfl (congrArg Value.bool hc34874)) rfl ?_
                  refine DL_qp rfl rfl (yield_of rfl (congrArg Value.bool hc34874)) rfl ?_
                  refine DL_qp rfl rfl (yield_of rfl (congrArg Value.bool hc34874)) rfl ?_
                  refine DL_qp rfl rfl (yield_of rfl (congrArg Value.bool hc34874)) rfl ?_
                  refine DL_qp rfl rfl (yield_of rfl (congrArg Value.bool hc34874)) rfl ?_
                  refine DL_q rfl rfl (Exec.pick_f (v := Value.bool (false)) rfl (congrArg Value.bool hc34874) rfl ⟨rfl, ?_⟩)
                  refine DL_e rfl rfl (Exec.buildSlice (Te := 4) (cs := [Value.bool (false)]) hS34865 rfl (parts_cons (c := [Value.bool (false)]) (cells_of rfl rfl) parts_nil) (fun _ => by kernel_rfl) ?_)
                  intro b34902 w34903 hS34904
                  refine ⟨(ag_cons (ag_r rfl rfl (Exec.field F26_4 rfl p34729 rfl ⟨rfl, rfl⟩)) (ag_cons (ag_r rfl rfl (Exec.load_box ((hS34904).f4) A24 rfl rfl rfl ⟨rfl, rfl⟩)) ag_nil)), ?_⟩
                  obtain ⟨l34905, q34906, ht34821⟩ := bind_some ht34821
                  have hS34907 := (hS34904).f6
                  refine DL_e rfl rfl (Exec.append_box (E := encBool) (ys := [false]) hS34907 S24 Z4 rfl (by decide) rfl rfl rfl rfl ⟨[Value.bool (false)], [], rfl, rfl, rfl⟩ rfl q34906 ?_)
                  intro v34908 w34909 hS34910
                  refine ⟨ag_nil, ?_⟩
                  refine DL_done ?_
                  refine WL_step rfl rfl (Exec.field F26_4 rfl p34729 rfl ?_)
                  have hS34911 := (hS34910).f4
                  refine WL_step rfl rfl (Exec.store_box (ds := [v34908]) (es := [Value.int .i64 (IntKind.i64.wrap (a27275.States * b27282.States)), Value.int .i64 (IntKind.i64.wrap ((IntKind.i64.wrap (a27275.Init * b27282.States)) + b27282.Init)), v32870, Value.slice none 0 0, v34908]) hS34911 A24 rfl rfl rfl (cells_one ((hS34911).f1).arr_one) (one_cons ((hS34911).f1).arr_one one_nil) (Nat.le_of_ble_eq_true rfl) rfl ?_)
                  intro w34912 hS34913
                  refine WL_nil (at_normal ?_)
                  have e34914 := Option.some.inj ht34821
                  subst l34819
                  have hS34915 := (hS34913).f1
                  have hS34916 := (hS34915).f5
                  have hS34917 := (hS34916).f2
                  have hS34918 := (hS34917).f5
                  have hS34919 := (hS34918).f5
                  have hS34920 := (hS34919).f5
                  exact ⟨s34723, v34908, (PHeap.le_refl _), hS34920, p34726, p34727, p34728, p34729, p34730, p34731, p34732, p34733, x34734⟩
              · intro f34921 w34922 hM34923
                obtain ⟨s34924, v34820, l34925, hS34926, p34927, p34928, p34929, p34930, p34931, p34932, p34933, p34934, p34935⟩ := hM34923
                refine (ib_normal (at_normal ?_))
                refine W_region ?_
                refine WL_step rfl rfl (Exec.add rfl p34935 rfl ?_)
                refine WL_step rfl rfl (Exec.move (v := Value.int .i64 (IntKind.i64.wrap ((i34299 : Int) + 1))) rfl rfl ?_)
                refine WL_nil (at_normal ?_)
                have e34936 := Option.some.inj hm34722
                subst s34717
                have hS34937 := (hS34926).f5
                have hS34938 := (hS34937).f5
                have hS34939 := (hS34938).f5
                have hS34940 := (hS34939).f5
                have hS34941 := (hS34940).f5
                have hS34942 := (hS34941).f5
                exact ⟨s34924, v34820, (PHeap.le.trans l34724 l34925), hS34942, p34927, p34928, p34929, p34930, p34931, p34932, p34933, p34934, (Eq.trans rfl (wrap_up hi34720 (SliceRep.le (a27288.mono (PHeap.le.trans (PHeap.le.trans l32794 l32928) l34291)))))⟩
            · intro f34943 w34944 hI34945
              obtain ⟨s34946, v34503, l34947, hS34948, p34949, p34950, p34951, p34952, p34953, p34954, p34955, p34956, x34957⟩ := hI34945
              refine W_seq ?_
              refine W_region ?_
              refine WL_step rfl rfl (Exec.lss rfl x34957 p34956 ?_)
              refine WL_nil (at_normal ?_)
              refine W_seq ?_
              refine W_false (congrArg Value.bool (decide_eq_false (by omega))) ?_
              refine W_exit (at_exit (at_exit (ib_here (ib_normal (at_normal ?_)))))
              refine W_region ?_
              refine WL_step rfl rfl (Exec.add rfl p34955 rfl ?_)
              refine WL_step rfl rfl (Exec.move (v := Value.int .i64 (IntKind.i64.wrap ((i32934 : Int) + 1))) rfl rfl ?_)
              refine WL_nil (at_normal ?_)
              have e34958 := Option.some.inj hm34289
              subst s34284
              have hS34959 := (hS34948).f5
              have hS34960 := (hS34959).f5
              have hS34961 := (hS34960).f5
              have hS34962 := (hS34961).f5
              have hS34963 := (hS34962).f5
              have hS34964 := (hS34963).f5
              exact ⟨s34946, v34503, (PHeap.le.trans l34291 l34947), hS34964, p34949, p34950, p34951, p34952, p34954, (Eq.trans rfl (wrap_up hi34287 (SliceRep.le (a27281.mono (PHeap.le.trans l32794 l32928)))))⟩
          · intro f34965 w34966 hI34967
            obtain ⟨s34968, v33612, l34969, hS34970, p34971, p34972, p34973, p34974, p34975, x34976⟩ := hI34967
            refine W_seq ?_
            refine W_region ?_
            refine WL_step rfl rfl (Exec.lss rfl x34976 p34975 ?_)
            refine WL_nil (at_normal ?_)
            refine W_seq ?_
            refine W_false (congrArg Value.bool (decide_eq_false (by omega))) ?_
            refine W_exit (at_exit (at_exit (ib_here (at_normal ?_))))
            refine W_seq ?_
            refine W_seq ?_
            refine W_region ?_
            refine WL_step rfl rfl (Exec.field F26_3 rfl p34971 rfl ?_)
            refine WL_step rfl rfl (Exec.load_box (hS34970) A23 rfl rfl rfl ?_)
            refine WL_step rfl rfl (Exec.len_rep S23 rfl rfl (a27279.mono (PHeap.le.trans (PHeap.le.trans l32794 l32928) l34969)) ?_)
            refine WL_step rfl rfl (Exec.move (v := Value.int .i64 (0)) rfl rfl ?_)
            refine WL_nil (at_normal ?_)
            obtain ⟨z35388, hB35802, hm⟩ := bind_some hm
            refine W_block (W_forS (fun k' s' f' w' => (fun (z35388 : (List Edge)) => ∃ (s35803 : PHeap) (v35389 : Value), PHeap.le s34968 s35803 ∧ St w0 s35803 (Res.box b32726 26 [Value.int .i64 (b27282.States), Value.int .i64 (b27282.Init), v27283, v27285, v27287] :: Res.box b32729 26 [Value.int .i64 (0), Value.int .i64 (0), Value.slice none 0 0, Value.slice none 0 0, Value.slice none 0 0] :: Res.box b32868 26 [Value.int .i64 (IntKind.i64.wrap (a27275.States * b27282.States)), Value.int .i64 (IntKind.i64.wrap ((IntKind.i64.wrap (a27275.Init * b27282.States)) + b27282.Init)), v32870, v35389, v33612] :: Res.arr (encInt .i64) 3 v32870 l32829 :: Res.arr encBool 4 v33612 z33611 :: H) w' ∧ f' 3 = Value.pointer (some ⟨b32726, 0, none⟩) ∧ f' 4 = Value.pointer (some ⟨b32729, 0, none⟩) ∧ f' 6 = Value.pointer (some ⟨b32868, 0, none⟩) ∧ f' 87 = v27278 ∧ f' 88 = Value.int .i64 ((a27275.Edges.length : Int)) ∧ f' 89 = Value.int .i64 (k' : Int) ∧ SliceRep encEdge s35803 v35389 z35388) s') hB35802 ?_ ?_ ?_)
            · have hS35804 := (hS34970).drop
              have hS35805 := (hS35804).f4
              have hS35806 := (hS35805).f4
              have hS35807 := (hS35806).f4
              have hS35808 := (hS35807).f4
              have hS35809 := (hS35808).f4
              exact ⟨s34968, (Value.slice none 0 0), (PHeap.le_refl _), hS35809, p34972, p34973, p34974, rfl, rfl, rfl, (SliceRep.nil _ _)⟩
            · intro i34977 z35388 s35811 f35812 w35813 hi35814 hI35815 hm35816
              obtain ⟨s35817, v35389, l35818, hS35819, p35820, p35821, p35822, p35823, p35824, x35825, hr_v35389⟩ := hI35815
              refine W_seq ?_
              refine W_region ?_
              refine WL_step rfl rfl (Exec.lss rfl x35825 p35824 ?_)
              refine WL_nil (at_normal ?_)
              refine W_seq ?_
              refine W_true (congrArg Value.bool (decide_eq_true (by omega))) ?_
              refine W_skip (at_normal ?_)
              refine W_seq ?_
              refine W_block ?_
              refine W_seq ?_
              refine W_region ?_
              obtain ⟨x35838, q35839, hm35816⟩ := bind_some hm35816
              refine WL_step rfl rfl (Exec.index_rep S23 rfl p35823 x35825 (a27279.mono (PHeap.le.trans (PHeap.le.trans (PHeap.le.trans l32794 l32928) l34969) l35818)) q35839 ?_)
              intro b35840 o35841 a35842
              refine WL_step rfl rfl (Exec.load_at (E := encEdge) hS35819 A66 rfl rfl rfl a35842 ?_)
              intro v35843 q35844
              obtain rfl := encEdge_val.1 q35844
              refine WL_step rfl rfl (Exec.alloc (cs := [Value.int .i64 (0), Value.int .i64 (0), Value.int .i64 (0)]) hS35819 Z66 rfl rfl ?_)
              intro b35845 w35846 hS35847
              refine WL_step rfl rfl (Exec.store_box (ds := [Value.int .i64 (x35838.From), Value.int .i64 (x35838.Label), Value.int .i64 (x35838.To)]) (es := [Value.int .i64 (x35838.From), Value.int .i64 (x35838.Label), Value.int .i64 (x35838.To)]) hS35847 A66 rfl rfl rfl rfl (one_cons rfl (one_cons rfl (one_cons rfl one_nil))) (Nat.le_of_ble_eq_true rfl) rfl ?_)
              intro w35848 hS35849
              refine WL_nil (at_normal ?_)
              refine W_seq ?_
              refine W_region ?_
              refine WL_step rfl rfl (Exec.field F26_3 rfl p35820 rfl ?_)
              refine WL_step rfl rfl (Exec.load_box ((hS35849).f1) A23 rfl rfl rfl ?_)
              refine WL_step rfl rfl (Exec.len_rep S23 rfl rfl (a27286.mono (PHeap.le.trans (PHeap.le.trans (PHeap.le.trans l32794 l32928) l34969) l35818)) ?_)
              refine WL_step rfl rfl (Exec.move (v := Value.int .i64 (0)) rfl rfl ?_)
              refine WL_nil (at_normal ?_)
              obtain ⟨z35961, hB36075, hm35816⟩ := bind_some hm35816
              refine W_block (W_forS (fun k' s' f' w' => (fun (z35961 : (List Edge)) => ∃ (s36076 : PHeap) (v35962 : Value), PHeap.le s35817 s36076 ∧ St w0 s36076 (Res.box b32726 26 [Value.int .i64 (b27282.States), Value.int .i64 (b27282.Init), v27283, v27285, v27287] :: Res.box b32729 26 [Value.int .i64 (0), Value.int .i64 (0), Value.slice none 0 0, Value.slice none 0 0, Value.slice none 0 0] :: Res.box b32868 26 [Value.int .i64 (IntKind.i64.wrap (a27275.States * b27282.States)), Value.int .i64 (IntKind.i64.wrap ((IntKind.i64.wrap (a27275.Init * b27282.States)) + b27282.Init)), v32870, v35962, v33612] :: Res.box b35845 66 [Value.int .i64 (x35838.From), Value.int .i64 (x35838.Label), Value.int .i64 (x35838.To)] :: Res.arr (encInt .i64) 3 v32870 l32829 :: Res.arr encBool 4 v33612 z33611 :: H) w' ∧ f' 3 = Value.pointer (some ⟨b32726, 0, none⟩) ∧ f' 4 = Value.pointer (some ⟨b32729, 0, none⟩) ∧ f' 6 = Value.pointer (some ⟨b32868, 0, none⟩) ∧ f' 10 = Value.pointer (some ⟨b35845, 0, none⟩) ∧ f' 87 = v27278 ∧ f' 88 = Value.int .i64 ((a27275.Edges.length : Int)) ∧ f' 89 = Value.int .i64 ((i34977 : Int)) ∧ f' 94 = v27285 ∧ f' 95 = Value.int .i64 ((b27282.Edges.length : Int)) ∧ f' 96 = Value.int .i64 (k' : Int) ∧ SliceRep encEdge s36076 v35962 z35961) s') hB36075 ?_ ?_ ?_)
              · have hS36077 := (hS35849).f5
                have hS36078 := (hS36077).f5
                have hS36079 := (hS36078).f2
                have hS36080 := (hS36079).f5
                have hS36081 := (hS36080).f5
                have hS36082 := (hS36081).f5
                exact ⟨s35817, v35389, (PHeap.le_refl _), hS36082, p35820, p35821, p35822, rfl, p35823, p35824, x35825, rfl, rfl, rfl, hr_v35389⟩
              · intro i35850 z35961 s36084 f36085 w36086 hi36087 hI36088 hm36089
                obtain ⟨s36090, v35962, l36091, hS36092, p36093, p36094, p36095, p36096, p36097, p36098, p36099, p36100, p36101, x36102, hr_v35962⟩ := hI36088
                refine W_seq ?_
                refine W_region ?_
                refine WL_step rfl rfl (Exec.lss rfl x36102 p36101 ?_)
                refine WL_nil (at_normal ?_)
                refine W_seq ?_
                refine W_true (congrArg Value.bool (decide_eq_true (by omega))) ?_
                refine W_skip (at_normal ?_)
                refine W_seq ?_
                refine W_block ?_
                refine W_seq ?_
                refine W_region ?_
                obtain ⟨x36115, q36116, hm36089⟩ := bind_some hm36089
                refine WL_step rfl rfl (Exec.index_rep S23 rfl p36100 x36102 (a27286.mono (PHeap.le.trans (PHeap.le.trans (PHeap.le.trans (PHeap.le.trans l32794 l32928) l34969) l35818) l36091)) q36116 ?_)
                intro b36117 o36118 a36119
                refine WL_step rfl rfl (Exec.load_at (E := encEdge) hS36092 A66 rfl rfl rfl a36119 ?_)
                intro v36120 q36121
                obtain rfl := encEdge_val.1 q36121
                refine WL_step rfl rfl (Exec.alloc (cs := [Value.int .i64 (0), Value.int .i64 (0), Value.int .i64 (0)]) hS36092 Z66 rfl rfl ?_)
                intro b36122 w36123 hS36124
                refine WL_step rfl rfl (Exec.store_box (ds := [Value.int .i64 (x36115.From), Value.int .i64 (x36115.Label), Value.int .i64 (x36115.To)]) (es := [Value.int .i64 (x36115.From), Value.int .i64 (x36115.Label), Value.int .i64 (x36115.To)]) hS36124 A66 rfl rfl rfl rfl (one_cons rfl (one_cons rfl (one_cons rfl one_nil))) (Nat.le_of_ble_eq_true rfl) rfl ?_)
                intro w36125 hS36126
                refine WL_nil (at_normal ?_)
                refine W_seq ?_
                refine W_region ?_
                refine WL_step rfl rfl (Exec.field F66_1 rfl p36096 rfl ?_)
                refine WL_step rfl rfl (Exec.load_box ((hS36126).f4) A3 rfl rfl rfl ?_)
                refine WL_step rfl rfl (Exec.field F66_1 rfl rfl rfl ?_)
                refine WL_step rfl rfl (Exec.load_box (hS36126) A3 rfl rfl rfl ?_)
                refine WL_step rfl rfl (Exec.eql rfl rfl rfl ?_)
                refine WL_nil (at_normal ?_)
                obtain ⟨z36151, ht36153, hm36089⟩ := bind_some hm36089
                refine W_mid (M := fun f' w' => (fun (z36151 : (List Edge)) => ∃ (s36154 : PHeap) (v36152 : Value), PHeap.le s36090 s36154 ∧ St w0 s36154 (Res.box b32726 26 [Value.int .i64 (b27282.States), Value.int .i64 (b27282.Init), v27283, v27285, v27287] :: Res.box b32729 26 [Value.int .i64 (0), Value.int .i64 (0), Value.slice none 0 0, Value.slice none 0 0, Value.slice none 0 0] :: Res.box b32868 26 [Value.int .i64 (IntKind.i64.wrap (a27275.States * b27282.States)), Value.int .i64 (IntKind.i64.wrap ((IntKind.i64.wrap (a27275.Init * b27282.States)) + b27282.Init)), v32870, v36152, v33612] :: Res.box b35845 66 [Value.int .i64 (x35838.From), Value.int .i64 (x35838.Label), Value.int .i64 (x35838.To)] :: Res.arr (encInt .i64) 3 v32870 l32829 :: Res.arr encBool 4 v33612 z33611 :: H) w' ∧ f' 3 = Value.pointer (some ⟨b32726, 0, none⟩) ∧ f' 4 = Value.pointer (some ⟨b32729, 0, none⟩) ∧ f' 6 = Value.pointer (some ⟨b32868, 0, none⟩) ∧ f' 10 = Value.pointer (some ⟨b35845, 0, none⟩) ∧ f' 87 = v27278 ∧ f' 88 = Value.int .i64 ((a27275.Edges.length : Int)) ∧ f' 89 = Value.int .i64 ((i34977 : Int)) ∧ f' 94 = v27285 ∧ f' 95 = Value.int .i64 ((b27282.Edges.length : Int)) ∧ f' 96 = Value.int .i64 ((i35850 : Int)) ∧ SliceRep encEdge s36154 v36152 z36151) z36151) ?_ ?_
                · rcases ite_some ht36153 with ⟨hc36155, ht36153⟩ | ⟨hc36155, ht36153⟩
                  · refine W_cond_t rfl hc36155 ?_
                    refine W_region ?_
                    refine WL_step rfl rfl (Exec.field F26_3 rfl p36095 rfl ?_)
                    refine WL_step rfl rfl (Exec.load_box ((hS36126).f3) A23 rfl rfl rfl ?_)
                    refine WL_step rfl rfl (Exec.field F66_0 rfl p36096 rfl ?_)
                    refine WL_step rfl rfl (Exec.load_box ((hS36126).f4) A3 rfl rfl rfl ?_)
                    refine WL_step rfl rfl (Exec.field F26_0 rfl p36093 rfl ?_)
                    refine WL_step rfl rfl (Exec.load_box ((hS36126).f1) A3 rfl rfl rfl ?_)
                    refine WL_step rfl rfl (Exec.mul rfl rfl rfl ?_)
                    refine WL_step rfl rfl (Exec.field F66_0 rfl rfl rfl ?_)
                    refine WL_step rfl rfl (Exec.load_box (hS36126) A3 rfl rfl rfl ?_)
                    refine WL_step rfl rfl (Exec.add rfl rfl rfl ?_)
                    refine WL_step rfl rfl (Exec.field F66_1 rfl p36096 rfl ?_)
                    refine WL_step rfl rfl (Exec.load_box ((hS36126).f4) A3 rfl rfl rfl ?_)
                    refine WL_step rfl rfl (Exec.field F66_2 rfl p36096 rfl ?_)
                    refine WL_step rfl rfl (Exec.load_box ((hS36126).f4) A3 rfl rfl rfl ?_)
                    refine WL_step rfl rfl (Exec.field F26_0 rfl p36093 rfl ?_)
                    refine WL_step rfl rfl (Exec.load_box ((hS36126).f1) A3 rfl rfl rfl ?_)
                    refine WL_step rfl rfl (Exec.mul rfl rfl rfl ?_)
                    refine WL_step rfl rfl (Exec.field F66_2 rfl rfl rfl ?_)
                    refine WL_step rfl rfl (Exec.load_box (hS36126) A3 rfl rfl rfl ?_)
                    refine WL_step rfl rfl (Exec.add rfl rfl rfl ?_)
                    refine WL_step rfl rfl (Exec.build rfl (parts_cons (c := [Value.int .i64 (IntKind.i64.wrap ((IntKind.i64.wrap (x35838.From * b27282.States)) + x36115.From))]) (cells_of rfl rfl) (parts_cons (c := [Value.int .i64 (x35838.Label)]) (cells_of rfl rfl) (parts_cons (c := [Value.int .i64 (IntKind.i64.wrap ((IntKind.i64.wrap (x35838.To * b27282.States)) + x36115.To))]) (cells_of rfl rfl) parts_nil))) (v := Value.agg #[Value.int .i64 (IntKind.i64.wrap ((IntKind.i64.wrap (x35838.From * b27282.States)) + x36115.From)), Value.int .i64 (x35838.Label), Value.int .i64 (IntKind.i64.wrap ((IntKind.i64.wrap (x35838.To * b27282.States)) + x36115.To))]) (fun _ => by kernel_rfl) ?_)
                    obtain ⟨y36170, q36169, ht36153⟩ := bind_some ht36153
                    refine WL_step rfl rfl (Exec.call rfl rfl Try.func40 rfl N40 (args_cons rfl (args_cons rfl args_nil)) ((ref44_Insert_sim q36169 hS36126 hr_v35962).mono ?_))
                    rintro _ w36171 ⟨v36175, rfl, ⟨s36172, _, l36173, hS36174, rfl, r36176⟩⟩
                    refine ⟨_, rfl, ?_⟩
                    refine WL_step rfl rfl (Exec.field F26_3 rfl p36095 rfl ?_)
                    have hS36177 := (hS36174).f3
                    refine WL_step rfl rfl (Exec.store_box (ds := [v36175]) (es := [Value.int .i64 (IntKind.i64.wrap (a27275.States * b27282.States)), Value.int .i64 (IntKind.i64.wrap ((IntKind.i64.wrap (a27275.Init * b27282.States)) + b27282.Init)), v32870, v36175, v33612]) hS36177 A23 rfl rfl rfl (cells_one (r36176).one) (one_cons (r36176).one one_nil) (Nat.le_of_ble_eq_true rfl) rfl ?_)
                    intro w36178 hS36179
                    refine WL_nil (at_normal ?_)
                    have e36180 := Option.some.inj ht36153
                    subst z36151
                    have hS36181 := ((hS36179).f1).drop
                    have hS36182 := (hS36181).f5
                    have hS36183 := (hS36182).f5
                    have hS36184 := (hS36183).f5
                    have hS36185 := (hS36184).f3
                    have hS36186 := (hS36185).f5
                    have hS36187 := (hS36186).f5
                    exact ⟨s36172, v36175, l36173, hS36187, p36093, p36094, p36095, p36096, p36097, p36098, p36099, p36100, p36101, x36102, r36176⟩
                  · refine W_cond_f rfl hc36155 ?_
                    replace hc36155 := not_true hc36155
                    refine W_skip (at_normal ?_)
                    have e36188 := Option.some.inj ht36153
                    subst z36151
                    have hS36189 := (hS36126).drop
                    have hS36190 := (hS36189).f5
                    have hS36191 := (hS36190).f5
                    have hS36192 := (hS36191).f5
                    have hS36193 := (hS36192).f5
                    have hS36194 := (hS36193).f5
                    have hS36195 := (hS36194).f5
                    exact ⟨s36090, v35962, (PHeap.le_refl _), hS36195, p36093, p36094, p36095, p36096, p36097, p36098, p36099, p36100, p36101, x36102, hr_v35962⟩
                · intro f36196 w36197 hM36198
                  obtain ⟨s36199, v36152, l36200, hS36201, p36202, p36203, p36204, p36205, p36206, p36207, p36208, p36209, p36210, p36211, hr_v36152⟩ := hM36198
                  refine (ib_normal (at_normal ?_))
                  refine W_region ?_
                  refine WL_step rfl rfl (Exec.add rfl p36211 rfl ?_)
                  refine WL_step rfl rfl (Exec.move (v := Value.int .i64 (IntKind.i64.wrap ((i35850 : Int) + 1))) rfl rfl ?_)
                  refine WL_nil (at_normal ?_)
                  have e36212 := Option.some.inj hm36089
                  subst s36084
                  have hS36213 := (hS36201).f5
                  have hS36214 := (hS36213).f5
                  have hS36215 := (hS36214).f5
                  have hS36216 := (hS36215).f5
                  have hS36217 := (hS36216).f5
                  have hS36218 := (hS36217).f5
                  exact ⟨s36199, v36152, (PHeap.le.trans l36091 l36200), hS36218, p36202, p36203, p36204, p36205, p36206, p36207, p36208, p36209, p36210, (Eq.trans rfl (wrap_up hi36087 (SliceRep.le (a27286.mono (PHeap.le.trans (PHeap.le.trans (PHeap.le.trans l32794 l32928) l34969) l35818))))), hr_v36152⟩
              · intro f36219 w36220 hI36221
                obtain ⟨s36222, v35962, l36223, hS36224, p36225, p36226, p36227, p36228, p36229, p36230, p36231, p36232, p36233, x36234, hr_v35962⟩ := hI36221
                refine W_seq ?_
                refine W_region ?_
                refine WL_step rfl rfl (Exec.lss rfl x36234 p36233 ?_)
                refine WL_nil (at_normal ?_)
                refine W_seq ?_
                refine W_false (congrArg Value.bool (decide_eq_false (by omega))) ?_
                refine W_exit (at_exit (at_exit (ib_here (ib_normal (at_normal ?_)))))
                refine W_region ?_
                refine WL_step rfl rfl (Exec.add rfl p36231 rfl ?_)
                refine WL_step rfl rfl (Exec.move (v := Value.int .i64 (IntKind.i64.wrap ((i34977 : Int) + 1))) rfl rfl ?_)
                refine WL_nil (at_normal ?_)
                have e36235 := Option.some.inj hm35816
                subst s35811
                have hS36236 := ((hS36224).f3).drop
                have hS36237 := (hS36236).f4
                have hS36238 := (hS36237).f4
                have hS36239 := (hS36238).f4
                have hS36240 := (hS36239).f4
                have hS36241 := (hS36240).f4
                exact ⟨s36222, v35962, (PHeap.le.trans l35818 l36223), hS36241, p36225, p36226, p36227, p36229, p36230, (Eq.trans rfl (wrap_up hi35814 (SliceRep.le (a27279.mono (PHeap.le.trans (PHeap.le.trans l32794 l32928) l34969))))), hr_v35962⟩
            · intro f36242 w36243 hI36244
              obtain ⟨s36245, v35389, l36246, hS36247, p36248, p36249, p36250, p36251, p36252, x36253, hr_v35389⟩ := hI36244
              refine W_seq ?_
              refine W_region ?_
              refine WL_step rfl rfl (Exec.lss rfl x36253 p36252 ?_)
              refine WL_nil (at_normal ?_)
              refine W_seq ?_
              refine W_false (congrArg Value.bool (decide_eq_false (by omega))) ?_
              refine W_exit (at_exit (at_exit (ib_here (at_normal ?_))))
              refine W_seq ?_
              refine W_seq ?_
              refine W_region ?_
              refine WL_step rfl rfl (Exec.field F26_3 rfl p36250 rfl ?_)
              refine WL_step rfl rfl (Exec.load_box ((hS36247).f2) A23 rfl rfl rfl ?_)
              refine WL_step rfl rfl (Exec.len_rep S23 rfl rfl hr_v35389 ?_)
              refine WL_step rfl rfl (Exec.gtr rfl rfl rfl ?_)
              refine WL_nil (at_normal ?_)
              rcases ite_some hm with ⟨hc36254, hm⟩ | ⟨hc36254, hm⟩
              · refine W_cond_t rfl hc36254 ?_
                refine W_seq ?_
                refine W_region ?_
                refine WL_step rfl rfl (Exec.build rfl parts_nil (v := Value.agg #[Value.int .i64 (0), Value.int .i64 (0), Value.slice none 0 0, Value.slice none 0 0, Value.slice none 0 0]) (fun _ => by kernel_rfl) ?_)
                have hS36258 := (hS36247).f1
                refine WL_step rfl rfl (Exec.store_box (ds := [Value.int .i64 (0), Value.int .i64 (0), Value.slice none 0 0, Value.slice none 0 0, Value.slice none 0 0]) (es := [Value.int .i64 (0), Value.int .i64 (0), Value.slice none 0 0, Value.slice none 0 0, Value.slice none 0 0]) hS36258 A26 rfl p36249 rfl rfl (one_cons rfl (one_cons rfl (one_cons rfl (one_cons rfl (one_cons rfl one_nil))))) (Nat.le_of_ble_eq_true rfl) rfl ?_)
                intro w36259 hS36260
                refine WL_step rfl rfl (Exec.assign (v := Value.int .i64 (5)) rfl rfl ?_)
                refine WL_nil (at_normal ?_)
                refine W_ret (at_ret ?_)
                have e36262 := Option.some.inj hm
                subst r
                refine ⟨_, retG2 rfl ⟨_, _, p36249, cellRes (hS36260) A26⟩ rfl, ?_⟩
                have hS36263 := (hS36260).drop
                have hS36264 := (hS36263).drop
                have hS36265 := (hS36264).drop
                have hS36266 := (hS36265).drop
                have hS36267 := (hS36266).drop
                exact ⟨s36245, (Value.slice none 0 0), (Value.slice none 0 0), (Value.slice none 0 0), (PHeap.le.trans (PHeap.le.trans (PHeap.le.trans l32794 l32928) l34969) l36246), hS36267, (tup2 rfl rfl), (SliceRep.nil _ _), (SliceRep.nil _ _), (SliceRep.nil _ _)⟩
              · refine W_cond_f rfl hc36254 ?_
                replace hc36254 := not_true hc36254
                refine W_skip (at_normal ?_)
                refine W_seq ?_
                refine W_region ?_
                refine WL_step rfl rfl (Exec.load_box_agg (ds := [Value.int .i64 (IntKind.i64.wrap (a27275.States * b27282.States)), Value.int .i64 (IntKind.i64.wrap ((IntKind.i64.wrap (a27275.Init * b27282.States)) + b27282.Init)), v32870, v35389, v33612]) ((hS36247).f2) A26 rfl p36250 rfl ?_)
                have hS36271 := (hS36247).f1
                refine WL_step rfl rfl (Exec.store_box (ds := [Value.int .i64 (IntKind.i64.wrap (a27275.States * b27282.States)), Value.int .i64 (IntKind.i64.wrap ((IntKind.i64.wrap (a27275.Init * b27282.States)) + b27282.Init)), v32870, v35389, v33612]) (es := [Value.int .i64 (IntKind.i64.wrap (a27275.States * b27282.States)), Value.int .i64 (IntKind.i64.wrap ((IntKind.i64.wrap (a27275.Init * b27282.States)) + b27282.Init)), v32870, v35389, v33612]) hS36271 A26 rfl p36249 rfl rfl (one_cons rfl (one_cons rfl (one_cons ((hS36271).f3).arr_one (one_cons (hr_v35389).one (one_cons ((hS36271).f4).arr_one one_nil))))) (Nat.le_of_ble_eq_true rfl) rfl ?_)
                intro w36272 hS36273
                refine WL_step rfl rfl (Exec.assign (v := Value.int .i64 (0)) rfl rfl ?_)
                refine WL_nil (at_normal ?_)
                refine W_ret ?_
                have e36275 := Option.some.inj hm
                subst r
                refine ⟨_, retG2 rfl ⟨_, _, p36249, cellRes (hS36273) A26⟩ rfl, ?_⟩
                have hS36276 := (hS36273).f3
                obtain ⟨s36277, l36278, hS36279, r36280⟩ := hS36276.freezeArr
                have hS36281 := (hS36279).f3
                obtain ⟨s36282, l36283, hS36284, r36285⟩ := hS36281.freezeArr
                have hS36286 := (hS36284).drop
                have hS36287 := (hS36286).drop
                have hS36288 := (hS36287).drop
                exact ⟨s36282, v32870, v35389, v33612, (PHeap.le.trans (PHeap.le.trans (PHeap.le.trans (PHeap.le.trans (PHeap.le.trans l32794 l32928) l34969) l36246) l36278) l36283), hS36288, (tup2 rfl rfl), (r36280.mono l36283), (hr_v35389.mono (PHeap.le.trans l36278 l36283)), r36285⟩

theorem N14 : (Try.f14.name == "runtime.NumGoroutine") = false := by kernel_rfl

theorem ref44_Same_sim {w0 w : World} {s : PHeap} {H : List Res} {a36327 : System} {b36334 : System} {v36328 : Value} {v36330 : Value} {v36332 : Value} {v36335 : Value} {v36337 : Value} {v36339 : Value} {r : Bool} (hm : ref44_Same_p a36327 b36334 = some r) (hS : St w0 s (H) w) (a36329 : SliceRep (encInt .i64) s v36328 a36327.Costs) (a36331 : SliceRep encEdge s v36330 a36327.Edges) (a36333 : SliceRep encBool s v36332 a36327.Goals) (a36336 : SliceRep (encInt .i64) s v36335 b36334.Costs) (a36338 : SliceRep encEdge s v36337 b36334.Edges) (a36340 : SliceRep encBool s v36339 b36334.Goals) :
    Calls Try.prog 14 #[Value.agg #[Value.int .i64 (a36327.States), Value.int .i64 (a36327.Init), v36328, v36330, v36332], Value.agg #[Value.int .i64 (b36334.States), Value.int .i64 (b36334.Init), v36335, v36337, v36339]] w fun e w' => ∃ v, e = .returned v ∧ ((fun (y36925 : Bool) => ∃ (s36926 : PHeap) , PHeap.le s s36926 ∧ St w0 s36926 (H) w' ∧ v = Value.bool (y36925)) r) := by
  unfold ref44_Same_p at hm
  refine calls_of_W Try.func14 rfl rfl ?_
  refine W_seq ?_
  refine W_region ?_
  refine WL_step rfl rfl (Exec.box (cs := [Value.int .i64 (a36327.States), Value.int .i64 (a36327.Init), v36328, v36330, v36332]) hS rfl rfl rfl ?_)
  intro b36933 w36934 hS36935
  refine WL_step rfl rfl (Exec.box (cs := [Value.int .i64 (b36334.States), Value.int .i64 (b36334.Init), v36335, v36337, v36339]) hS36935 rfl rfl rfl ?_)
  intro b36936 w36937 hS36938
  refine WL_step rfl rfl (Exec.assign (v := Value.bool (false)) rfl rfl ?_)
  refine WL_nil (at_normal ?_)
  refine W_seq ?_
  refine W_seq ?_
  obtain ⟨z36950, ht36951, hm⟩ := bind_some hm
  refine W_mid (M := fun f' w' => (fun (z36950 : Bool) => ∃ (s36952 : PHeap) , PHeap.le s s36952 ∧ St w0 s36952 (Res.box b36933 26 [Value.int .i64 (a36327.States), Value.int .i64 (a36327.Init), v36328, v36330, v36332] :: Res.box b36936 26 [Value.int .i64 (b36334.States), Value.int .i64 (b36334.Init), v36335, v36337, v36339] :: H) w' ∧ f' 2 = Value.pointer (some ⟨b36933, 0, none⟩) ∧ f' 3 = Value.pointer (some ⟨b36936, 0, none⟩) ∧ f' 44 = Value.bool (z36950)) z36950) ?_ ?_
  · refine W_region ?_
    refine WL_step rfl rfl (Exec.field F26_0 rfl rfl rfl ?_)
    refine WL_step rfl rfl (Exec.load_box ((hS36938).f1) A3 rfl rfl rfl ?_)
    refine WL_step rfl rfl (Exec.field F26_0 rfl rfl rfl ?_)
    refine WL_step rfl rfl (Exec.load_box (hS36938) A3 rfl rfl rfl ?_)
    refine WL_step rfl rfl (Exec.neq rfl rfl rfl ?_)
    refine WL_step rfl rfl (Exec.move (v := Value.bool (!decide (a36327.States = b36334.States))) rfl rfl ?_)
    rcases ite_some ht36951 with ⟨hc36953, ht36951⟩ | ⟨hc36953, ht36951⟩
    · refine WL_pass rfl (yield_of rfl (congrArg Value.bool hc36953)) rfl rfl ?_
      refine WL_pass rfl (yield_of rfl (congrArg Value.bool hc36953)) rfl rfl ?_
      refine WL_pass rfl (yield_of rfl (congrArg Value.bool hc36953)) rfl rfl ?_
      refine WL_pass rfl (yield_of rfl (congrArg Value.bool hc36953)) rfl rfl ?_
      refine WL_pass rfl (yield_of rfl (congrArg Value.bool hc36953)) rfl rfl ?_
      refine WL_step rfl rfl (Exec.pick_t (v := Value.bool (true)) rfl (congrArg Value.bool hc36953) rfl ?_)
      refine WL_step rfl rfl (Exec.move (v := Value.bool (true)) rfl rfl ?_)
      refine WL_pass rfl (yield_of rfl rfl) rfl rfl ?_
      refine WL_pass rfl (yield_of rfl rfl) rfl rfl ?_
      refine WL_pass rfl (yield_of rfl rfl) rfl rfl ?_
      refine WL_pass rfl (yield_of rfl rfl) rfl rfl ?_
      refine WL_pass rfl (yield_of rfl rfl) rfl rfl ?_
      refine WL_pass rfl (yield_of rfl rfl) rfl rfl ?_
      refine WL_step rfl rfl (Exec.pick_t (v := Value.bool (true)) rfl rfl rfl ?_)
      refine WL_step rfl rfl (Exec.move (v := Value.bool (true)) rfl rfl ?_)
      refine WL_pass rfl (yield_of rfl rfl) rfl rfl ?_
      refine WL_pass rfl (yield_of rfl rfl) rfl rfl ?_
      refine WL_pass rfl (yield_of rfl rfl) rfl rfl ?_
      refine WL_pass rfl (yield_of rfl rfl) rfl rfl ?_
      refine WL_pass rfl (yield_of rfl rfl) rfl rfl ?_
      refine WL_pass rfl (yield_of rfl rfl) rfl rfl ?_
      refine WL_pass rfl (yield_of rfl rfl) rfl rfl ?_
      refine WL_step rfl rfl (Exec.pick_t (v := Value.bool (true)) rfl rfl rfl ?_)
      refine WL_step rfl rfl (Exec.move (v := Value.bool (true)) rfl rfl ?_)
      refine WL_pass rfl (yield_of rfl rfl) rfl rfl ?_
      refine WL_pass rfl (yield_of rfl rfl) rfl rfl ?_
      refine WL_pass rfl (yield_of rfl rfl) rfl rfl ?_
      refine WL_pass rfl (yield_of rfl rfl) rfl rfl ?_
      refine WL_pass rfl (yield_of rfl rfl) rfl rfl ?_
      refine WL_pass rfl (yield_of rfl rfl) rfl rfl ?_
      refine WL_pass rfl (yield_of rfl rfl) rfl rfl ?_
      refine WL_step rfl rfl (Exec.pick_t (v := Value.bool (true)) rfl rfl rfl ?_)
      refine WL_nil (at_normal ?_)
      have e36954 := Option.some.inj ht36951
      subst z36950
      have hS36955 := (hS36938).f1
      exact ⟨s, (PHeap.le_refl _), hS36955, rfl, rfl, rfl⟩
    · replace hc36953 := not_true hc36953
      refine WL_run rfl (yield_of rfl (congrArg Value.bool hc36953)) rfl (Exec.field F26_1 rfl rfl rfl ?_)
      refine WL_run rfl (yield_of rfl (congrArg Value.bool hc36953)) rfl (Exec.load_box ((hS36938).f1) A3 rfl rfl rfl ?_)
      refine WL_run rfl (yield_of rfl (congrArg Value.bool hc36953)) rfl (Exec.field F26_1 rfl rfl rfl ?_)
      refine WL_run rfl (yield_of rfl (congrArg Value.bool hc36953)) rfl (Exec.load_box (hS36938) A3 rfl rfl rfl ?_)
      refine WL_run rfl (yield_of rfl (congrArg Value.bool hc36953)) rfl (Exec.neq rfl rfl rfl ?_)
      refine WL_step rfl rfl (Exec.pick_f (v := Value.bool (!decide (a36327.Init = b36334.Init))) rfl (congrArg Value.bool hc36953) rfl ?_)
      refine WL_step rfl rfl (Exec.move (v := Value.bool (!decide (a36327.Init = b36334.Init))) rfl rfl ?_)
      rcases ite_some ht36951 with ⟨hc36956, ht36951⟩ | ⟨hc36956, ht36951⟩
      · refine WL_pass rfl (yield_of rfl (congrArg Value.bool hc36956)) rfl rfl ?_
        refine WL_pass rfl (yield_of rfl (congrArg Value.bool hc36956)) rfl rfl ?_
        refine WL_pass rfl (yield_of rfl (congrArg Value.bool hc36956)) rfl rfl ?_
        refine WL_pass rfl (yield_of rfl (congrArg Value.bool hc36956)) rfl rfl ?_
        refine WL_pass rfl (yield_of rfl (congrArg Value.bool hc36956)) rfl rfl ?_
        refine WL_pass rfl (yield_of rfl (congrArg Value.bool hc36956)) rfl rfl ?_
        refine WL_step rfl rfl (Exec.pick_t (v := Value.bool (true)) rfl (congrArg Value.bool hc36956) rfl ?_)
        refine WL_step rfl rfl (Exec.move (v := Value.bool (true)) rfl rfl ?_)
        refine WL_pass rfl (yield_of rfl rfl) rfl rfl ?_
        refine WL_pass rfl (yield_of rfl rfl) rfl rfl ?_
        refine WL_pass rfl (yield_of rfl rfl) rfl rfl ?_
        refine WL_pass rfl (yield_of rfl rfl) rfl rfl ?_
        refine WL_pass rfl (yield_of rfl rfl) rfl rfl ?_
        refine WL_pass rfl (yield_of rfl rfl) rfl rfl ?_
        refine WL_pass rfl (yield_of rfl rfl) rfl rfl ?_
        refine WL_step rfl rfl (Exec.pick_t (v := Value.bool (true)) rfl rfl rfl ?_)
        refine WL_step rfl rfl (Exec.move (v := Value.bool (true)) rfl rfl ?_)
        refine WL_pass rfl (yield_of rfl rfl) rfl rfl ?_
        refine WL_pass rfl (yield_of rfl rfl) rfl rfl ?_
        refine WL_pass rfl (yield_of rfl rfl) rfl rfl ?_
        refine WL_pass rfl (yield_of rfl rfl) rfl rfl ?_
        refine WL_pass rfl (yield_of rfl rfl) rfl rfl ?_
        refine WL_pass rfl (yield_of rfl rfl) rfl rfl ?_
        refine WL_pass rfl (yield_of rfl rfl) rfl rfl ?_
        refine WL_step rfl rfl (Exec.pick_t (v := Value.bool (true)) rfl rfl rfl ?_)
        refine WL_nil (at_normal ?_)
        have e36957 := Option.some.inj ht36951
        subst z36950
        have hS36958 := (hS36938).f1
        exact ⟨s, (PHeap.le_refl _), hS36958, rfl, rfl, rfl⟩
      · replace hc36956 := not_true hc36956
        refine WL_run rfl (yield_of rfl (congrArg Value.bool hc36956)) rfl (Exec.field F26_2 rfl rfl rfl ?_)
        refine WL_run rfl (yield_of rfl (congrArg Value.bool hc36956)) rfl (Exec.load_box ((hS36938).f1) A22 rfl rfl rfl ?_)
        refine WL_run rfl (yield_of rfl (congrArg Value.bool hc36956)) rfl (Exec.field F26_2 rfl rfl rfl ?_)
        refine WL_run rfl (yield_of rfl (congrArg Value.bool hc36956)) rfl (Exec.load_box (hS36938) A22 rfl rfl rfl ?_)
        obtain ⟨y36961, q36960, ht36951⟩ := bind_some ht36951
        refine WL_run rfl (yield_of rfl (congrArg Value.bool hc36956)) rfl (Exec.call rfl rfl Try.func20 rfl N20 (args_cons rfl (args_cons rfl args_nil)) ((base_Ints_sim q36960 hS36938 a36329 a36336).mono ?_))
        rintro _ w36962 ⟨_, rfl, ⟨s36963, l36964, hS36965, rfl⟩⟩
        refine ⟨_, rfl, ?_⟩
        refine WL_run rfl (yield_of rfl (congrArg Value.bool hc36956)) rfl (Exec.not rfl rfl ?_)
        refine WL_step rfl rfl (Exec.pick_f (v := Value.bool (!y36961)) rfl (congrArg Value.bool hc36956) rfl ?_)
        refine WL_step rfl rfl (Exec.move (v := Value.bool (!y36961)) rfl rfl ?_)
        rcases ite_some ht36951 with ⟨hc36966, ht36951⟩ | ⟨hc36966, ht36951⟩
        · refine WL_pass rfl (yield_of rfl (congrArg Value.bool hc36966)) rfl rfl ?_
          refine WL_pass rfl (yield_of rfl (congrArg Value.bool hc36966)) rfl rfl ?_
          refine WL_pass rfl (yield_of rfl (congrArg Value.bool hc36966)) rfl rfl ?_
          refine WL_pass rfl (yield_of rfl (congrArg Value.bool hc36966)) rfl rfl ?_
          refine WL_pass rfl (yield_of rfl (congrArg Value.bool hc36966)) rfl rfl ?_
          refine WL_pass rfl (yield_of rfl (congrArg Value.bool hc36966)) rfl rfl ?_
          refine WL_pass rfl (yield_of rfl (congrArg Value.bool hc36966)) rfl rfl ?_
          refine WL_step rfl rfl (Exec.pick_t (v := Value.bool (true)) rfl (congrArg Value.bool hc36966) rfl ?_)
          refine WL_step rfl rfl (Exec.move (v := Value.bool (true)) rfl rfl ?_)
          refine WL_pass rfl (yield_of rfl rfl) rfl rfl ?_
          refine WL_pass rfl (yield_of rfl rfl) rfl rfl ?_
          refine WL_pass rfl (yield_of rfl rfl) rfl rfl ?_
          refine WL_pass rfl (yield_of rfl rfl) rfl rfl ?_
          refine WL_pass rfl (yield_of rfl rfl) rfl rfl ?_
          refine WL_pass rfl (yield_of rfl rfl) rfl rfl ?_
          refine WL_pass rfl (yield_of rfl rfl) rfl rfl ?_
          refine WL_step rfl rfl (Exec.pick_t (v := Value.bool (true)) rfl rfl rfl ?_)
          refine WL_nil (at_normal ?_)
          have e36967 := Option.some.inj ht36951
          subst z36950
          have hS36968 := (hS36965).f1
          exact ⟨s36963, l36964, hS36968, rfl, rfl, rfl⟩
        · replace hc36966 := not_true hc36966
          refine WL_run rfl (yield_of rfl (congrArg Value.bool hc36966)) rfl (Exec.field F26_3 rfl rfl rfl ?_)
          refine WL_run rfl (yield_of rfl (congrArg Value.bool hc36966)) rfl (Exec.load_box ((hS36965).f1) A23 rfl rfl rfl ?_)
          refine WL_run rfl (yield_of rfl (congrArg Value.bool hc36966)) rfl (Exec.len_rep S23 rfl rfl (a36331.mono l36964) ?_)
          refine WL_run rfl (yield_of rfl (congrArg Value.bool hc36966)) rfl (Exec.field F26_3 rfl rfl rfl ?_)
          refine WL_run rfl (yield_of rfl (congrArg Value.bool hc36966)) rfl (Exec.load_box (hS36965) A23 rfl rfl rfl ?_)
          refine WL_run rfl (yield_of rfl (congrArg Value.bool hc36966)) rfl (Exec.len_rep S23 rfl rfl (a36338.mono l36964) ?_)
          refine WL_run rfl (yield_of rfl (congrArg Value.bool hc36966)) rfl (Exec.neq rfl rfl rfl ?_)
          refine WL_step rfl rfl (Exec.pick_f (v := Value.bool (!decide ((a36327.Edges.length : Int) = (b36334.Edges.length : Int)))) rfl (congrArg Value.bool hc36966) rfl ?_)
          refine WL_step rfl rfl (Exec.move (v := Value.bool (!decide ((a36327.Edges.length : Int) = (b36334.Edges.length : Int)))) rfl rfl ?_)
          rcases ite_some ht36951 with ⟨hc36969, ht36951⟩ | ⟨hc36969, ht36951⟩
          · refine WL_pass rfl (yield_of rfl (congrArg Value.bool hc36969)) rfl rfl ?_
            refine WL_pass rfl (yield_of rfl (congrArg Value.bool hc36969)) rfl rfl ?_
            refine WL_pass rfl (yield_of rfl (congrArg Value.bool hc36969)) rfl rfl ?_
            refine WL_pass rfl (yield_of rfl (congrArg Value.bool hc36969)) rfl rfl ?_
            refine WL_pass rfl (yield_of rfl (congrArg Value.bool hc36969)) rfl rfl ?_
            refine WL_pass rfl (yield_of rfl (congrArg Value.bool hc36969)) rfl rfl ?_
            refine WL_pass rfl (yield_of rfl (congrArg Value.bool hc36969)) rfl rfl ?_
            refine WL_step rfl rfl (Exec.pick_t (v := Value.bool (true)) rfl (congrArg Value.bool hc36969) rfl ?_)
            refine WL_nil (at_normal ?_)
            have e36970 := Option.some.inj ht36951
            subst z36950
            have hS36971 := (hS36965).f1
            exact ⟨s36963, l36964, hS36971, rfl, rfl, rfl⟩
          · replace hc36969 := not_true hc36969
            refine WL_run rfl (yield_of rfl (congrArg Value.bool hc36969)) rfl (Exec.field F26_4 rfl rfl rfl ?_)
            refine WL_run rfl (yield_of rfl (congrArg Value.bool hc36969)) rfl (Exec.load_box ((hS36965).f1) A24 rfl rfl rfl ?_)
            refine WL_run rfl (yield_of rfl (congrArg Value.bool hc36969)) rfl (Exec.len_rep S24 rfl rfl (a36333.mono l36964) ?_)
            refine WL_run rfl (yield_of rfl (congrArg Value.bool hc36969)) rfl (Exec.field F26_4 rfl rfl rfl ?_)
            refine WL_run rfl (yield_of rfl (congrArg Value.bool hc36969)) rfl (Exec.load_box (hS36965) A24 rfl rfl rfl ?_)
            refine WL_run rfl (yield_of rfl (congrArg Value.bool hc36969)) rfl (Exec.len_rep S24 rfl rfl (a36340.mono l36964) ?_)
            refine WL_run rfl (yield_of rfl (congrArg Value.bool hc36969)) rfl (Exec.neq rfl rfl rfl ?_)
            refine WL_step rfl rfl (Exec.pick_f (v := Value.bool (!decide ((a36327.Goals.length : Int) = (b36334.Goals.length : Int)))) rfl (congrArg Value.bool hc36969) rfl ?_)
            refine WL_nil (at_normal ?_)
            have e36972 := Option.some.inj ht36951
            subst z36950
            have hS36973 := (hS36965).f1
            exact ⟨s36963, l36964, hS36973, rfl, rfl, rfl⟩
  · intro f36974 w36975 hM36976
    obtain ⟨s36977, l36978, hS36979, p36980, p36981, p36982⟩ := hM36976
    refine (at_normal ?_)
    rcases ite_some hm with ⟨hc36983, hm⟩ | ⟨hc36983, hm⟩
    · refine W_cond_t p36982 hc36983 ?_
      refine W_seq ?_
      refine W_region ?_
      refine WL_step rfl rfl (Exec.assign (v := Value.bool (false)) rfl rfl ?_)
      refine WL_nil (at_normal ?_)
      refine W_ret (at_ret ?_)
      have e36985 := Option.some.inj hm
      subst r
      refine ⟨_, ret1 rfl, ?_⟩
      have hS36986 := (hS36979).drop
      have hS36987 := (hS36986).drop
      exact ⟨s36977, l36978, hS36987, rfl⟩
    · refine W_cond_f p36982 hc36983 ?_
      replace hc36983 := not_true hc36983
      refine W_skip (at_normal ?_)
      refine W_seq ?_
      refine W_seq ?_
      refine W_region ?_
      refine WL_step rfl rfl (Exec.field F26_3 rfl p36980 rfl ?_)
      refine WL_step rfl rfl (Exec.load_box (hS36979) A23 rfl rfl rfl ?_)
      refine WL_step rfl rfl (Exec.len_rep S23 rfl rfl (a36331.mono l36978) ?_)
      refine WL_step rfl rfl (Exec.move (v := Value.int .i64 (0)) rfl rfl ?_)
      refine WL_nil (at_normal ?_)
      obtain ⟨c37129, hB37130, hr37131, hn37132, hb37133⟩ := ctl_some hm
      refine W_mid (M := fun f' w' => ∃ s', (c37129 = .next s' ∨ c37129 = .brk s') ∧ (fun (_ : Unit) => ∃ (s37135 : PHeap) , PHeap.le s36977 s37135 ∧ St w0 s37135 (Res.box b36933 26 [Value.int .i64 (a36327.States), Value.int .i64 (a36327.Init), v36328, v36330, v36332] :: Res.box b36936 26 [Value.int .i64 (b36334.States), Value.int .i64 (b36334.Init), v36335, v36337, v36339] :: H) w' ∧ f' 2 = Value.pointer (some ⟨b36933, 0, none⟩) ∧ f' 3 = Value.pointer (some ⟨b36936, 0, none⟩) ∧ f' 47 = Value.int .i64 ((a36327.Edges.length : Int))) s') ?_ ?_
      · refine W_block (W_forC (fun k' s' f' w' => (fun (_ : Unit) => ∃ (s37134 : PHeap) , PHeap.le s36977 s37134 ∧ St w0 s37134 (Res.box b36933 26 [Value.int .i64 (a36327.States), Value.int .i64 (a36327.Init), v36328, v36330, v36332] :: Res.box b36936 26 [Value.int .i64 (b36334.States), Value.int .i64 (b36334.Init), v36335, v36337, v36339] :: H) w' ∧ f' 2 = Value.pointer (some ⟨b36933, 0, none⟩) ∧ f' 3 = Value.pointer (some ⟨b36936, 0, none⟩) ∧ f' 47 = Value.int .i64 ((a36327.Edges.length : Int)) ∧ f' 48 = Value.int .i64 (k' : Int)) s') hB37130 ?_ ?_ ?_)
        · have hS37136 := (hS36979).f1
          have hS37137 := (hS37136).f1
          exact ⟨s36977, (PHeap.le_refl _), hS37137, p36980, p36981, rfl, rfl⟩
        · intro i36988 t37145 c37139 f37140 w37141 hi37146 hI37142 hm37143 hres37144
          obtain ⟨s37147, l37148, hS37149, p37150, p37151, p37152, x37153⟩ := hI37142
          refine W_seq ?_
          refine W_region ?_
          refine WL_step rfl rfl (Exec.lss rfl x37153 p37152 ?_)
          refine WL_nil (at_normal ?_)
          refine W_seq ?_
          refine W_true (congrArg Value.bool (decide_eq_true (by omega))) ?_
          refine W_skip (at_normal ?_)
          refine W_seq ?_
          refine W_block ?_
          refine W_seq ?_
          refine W_region ?_
          refine WL_step rfl rfl (Exec.move (v := Value.int .i64 ((i36988 : Int))) rfl x37153 ?_)
          refine WL_step rfl rfl (Exec.assign (v := Value.int .i64 ((i36988 : Int))) rfl rfl ?_)
          refine WL_nil (at_normal ?_)
          refine W_seq ?_
          refine W_dl (n0 := 11) (.q 0 (.q 1 (.q 2 (.q 3 (.q 4 (.q 5 (.q 6 (.q 7 (.q 8 (.q 9 (.q 10 .done))))))))))) hmix (by kernel_rfl) (by kernel_rfl) ?_
          have hS37205 := hS37149.drew
          refine DL_q rfl rfl (Exec.field F26_3 rfl p37150 rfl ⟨rfl, ?_⟩)
          refine DL_q rfl rfl (Exec.load_box (hS37205) A23 rfl rfl rfl ⟨rfl, ?_⟩)
          refine DL_q rfl rfl (Exec.move (v := Value.int .i64 ((i36988 : Int))) rfl rfl ⟨rfl, ?_⟩)
          obtain ⟨x37206, q37207, hm37143⟩ := bind_some hm37143
          refine DL_q rfl rfl (Exec.index_repE S23 rfl rfl rfl (a36331.mono (PHeap.le.trans l36978 l37148)) q37207 ?_)
          intro b37208 o37209 a37210 e37211
          refine ⟨rfl, ?_⟩
          refine DL_q rfl rfl (Exec.load_at (E := encEdge) hS37205 A66 rfl rfl rfl a37210 ?_)
          intro v37212 q37213
          obtain rfl := encEdge_val.1 q37213
          refine ⟨rfl, ?_⟩
          refine DL_q rfl rfl (Exec.field F26_3 rfl p37151 rfl ⟨rfl, ?_⟩)
          refine DL_q rfl rfl (Exec.load_box ((hS37205).f1) A23 rfl rfl rfl ⟨rfl, ?_⟩)
          refine DL_q rfl rfl (Exec.move (v := Value.int .i64 ((i36988 : Int))) rfl rfl ⟨rfl, ?_⟩)
          obtain ⟨x37214, q37215, hm37143⟩ := bind_some hm37143
          refine DL_q rfl rfl (Exec.index_repE S23 rfl rfl rfl (a36338.mono (PHeap.le.trans l36978 l37148)) q37215 ?_)
          intro b37216 o37217 a37218 e37219
          refine ⟨rfl, ?_⟩
          refine DL_q rfl rfl (Exec.load_at (E := encEdge) hS37205 A66 rfl rfl rfl a37218 ?_)
          intro v37220 q37221
          obtain rfl := encEdge_val.1 q37221
          refine ⟨rfl, ?_⟩
          refine DL_q rfl rfl (Exec.ints_neq (xs := [x37206.From, x37206.Label, x37206.To]) (ys := [x37214.From, x37214.Label, x37214.To]) IS66 rfl rfl rfl rfl rfl rfl rfl ⟨rfl, ?_⟩)
          refine DL_done ?_
          refine WL_nil (at_normal ?_)
          rcases ite_some hm37143 with ⟨hc37222, hm37143⟩ | ⟨hc37222, hm37143⟩
          · refine W_cond_t rfl hc37222 ?_
            refine W_seq ?_
            refine W_region ?_
            refine WL_step rfl rfl (Exec.assign (v := Value.bool (false)) rfl rfl ?_)
            refine WL_nil (at_normal ?_)
            refine W_ret (ib_ret (at_ret (at_ret (ib_ret (at_ret (at_ret ?_))))))
            have e37223 := Option.some.inj hm37143
            subst c37139
            have hq37224 := hr37131 _ (hres37144 (by intro _ h; cases h))
            have e37225 := Option.some.inj hq37224
            subst r
            refine ⟨_, ret1 rfl, ?_⟩
            have hS37226 := (hS37205).drop
            have hS37227 := (hS37226).drop
            exact ⟨s37147, (PHeap.le.trans l36978 l37148), hS37227, rfl⟩
          · refine W_cond_f rfl hc37222 ?_
            replace hc37222 := not_true hc37222
            refine W_skip (ib_normal (at_normal ?_))
            refine W_region ?_
            refine WL_step rfl rfl (Exec.add rfl x37153 rfl ?_)
            refine WL_step rfl rfl (Exec.move (v := Value.int .i64 (IntKind.i64.wrap ((i36988 : Int) + 1))) rfl rfl ?_)
            refine WL_nil (at_normal ?_)
            have e37228 := Option.some.inj hm37143
            subst c37139
            have hS37229 := (hS37205).f1
            have hS37230 := (hS37229).f1
            refine ⟨_, rfl, ?_⟩; exact ⟨s37147, l37148, hS37230, p37150, p37151, p37152, (Eq.trans rfl (wrap_up hi37146 (SliceRep.le (a36331.mono l36978))))⟩
        · intro t37231 f37232 w37233 hI37234 hres37235
          obtain ⟨s37236, l37237, hS37238, p37239, p37240, p37241, x37242⟩ := hI37234
          refine W_seq ?_
          refine W_region ?_
          refine WL_step rfl rfl (Exec.lss rfl x37242 p37241 ?_)
          refine WL_nil (at_normal ?_)
          refine W_seq ?_
          refine W_false (congrArg Value.bool (decide_eq_false (by omega))) ?_
          refine W_exit (at_exit (at_exit (ib_here (at_normal ?_))))
          have hS37243 := (hS37238).f1
          have hS37244 := (hS37243).f1
          refine ⟨_, .inl hres37235, ?_⟩; exact ⟨s37236, l37237, hS37244, p37239, p37240, p37241⟩
      · rintro f37245 w37246 ⟨t37247, hc37248, hM37249⟩
        have hm := hc37248.elim (hn37132 _) (hb37133 _)
        clear hc37248
        obtain ⟨s37250, l37251, hS37252, p37253, p37254, p37255⟩ := hM37249
        refine (at_normal ?_)
        refine W_seq ?_
        refine W_seq ?_
        refine W_region ?_
        refine WL_step rfl rfl (Exec.field F26_4 rfl p37253 rfl ?_)
        refine WL_step rfl rfl (Exec.load_box (hS37252) A24 rfl rfl rfl ?_)
        refine WL_step rfl rfl (Exec.len_rep S24 rfl rfl (a36333.mono (PHeap.le.trans l36978 l37251)) ?_)
        refine WL_step rfl rfl (Exec.move (v := Value.int .i64 (0)) rfl rfl ?_)
        refine WL_nil (at_normal ?_)
        obtain ⟨c37397, hB37398, hr37399, hn37400, hb37401⟩ := ctl_some hm
        refine W_mid (M := fun f' w' => ∃ s', (c37397 = .next s' ∨ c37397 = .brk s') ∧ (fun (_ : Unit) => ∃ (s37403 : PHeap) , PHeap.le s37250 s37403 ∧ St w0 s37403 (Res.box b36933 26 [Value.int .i64 (a36327.States), Value.int .i64 (a36327.Init), v36328, v36330, v36332] :: Res.box b36936 26 [Value.int .i64 (b36334.States), Value.int .i64 (b36334.Init), v36335, v36337, v36339] :: H) w' ∧ f' 2 = Value.pointer (some ⟨b36933, 0, none⟩) ∧ f' 3 = Value.pointer (some ⟨b36936, 0, none⟩) ∧ f' 65 = Value.int .i64 ((a36327.Goals.length : Int))) s') ?_ ?_
        · refine W_block (W_forC (fun k' s' f' w' => (fun (_ : Unit) => ∃ (s37402 : PHeap) , PHeap.le s37250 s37402 ∧ St w0 s37402 (Res.box b36933 26 [Value.int .i64 (a36327.States), Value.int .i64 (a36327.Init), v36328, v36330, v36332] :: Res.box b36936 26 [Value.int .i64 (b36334.States), Value.int .i64 (b36334.Init), v36335, v36337, v36339] :: H) w' ∧ f' 2 = Value.pointer (some ⟨b36933, 0, none⟩) ∧ f' 3 = Value.pointer (some ⟨b36936, 0, none⟩) ∧ f' 65 = Value.int .i64 ((a36327.Goals.length : Int)) ∧ f' 66 = Value.int .i64 (k' : Int)) s') hB37398 ?_ ?_ ?_)
          · have hS37404 := (hS37252).f1
            have hS37405 := (hS37404).f1
            exact ⟨s37250, (PHeap.le_refl _), hS37405, p37253, p37254, rfl, rfl⟩
          · intro i37256 t37413 c37407 f37408 w37409 hi37414 hI37410 hm37411 hres37412
            obtain ⟨s37415, l37416, hS37417, p37418, p37419, p37420, x37421⟩ := hI37410
            refine W_seq ?_
            refine W_region ?_
            refine WL_step rfl rfl (Exec.lss rfl x37421 p37420 ?_)
            refine WL_nil (at_normal ?_)
            refine W_seq ?_
            refine W_true (congrArg Value.bool (decide_eq_true (by omega))) ?_
            refine W_skip (at_normal ?_)
            refine W_seq ?_
            refine W_block ?_
            refine W_seq ?_
            refine W_region ?_
            refine WL_step rfl rfl (Exec.move (v := Value.int .i64 ((i37256 : Int))) rfl x37421 ?_)
            refine WL_step rfl rfl (Exec.assign (v := Value.int .i64 ((i37256 : Int))) rfl rfl ?_)
            refine WL_nil (at_normal ?_)
            refine W_seq ?_
            refine W_dl (n0 := 11) (.q 0 (.q 1 (.q 2 (.q 3 (.q 4 (.q 5 (.q 6 (.q 7 (.q 8 (.q 9 (.q 10 .done))))))))))) hmix (by kernel_rfl) (by kernel_rfl) ?_
            have hS37473 := hS37417.drew
            refine DL_q rfl rfl (Exec.field F26_4 rfl p37418 rfl ⟨rfl, ?_⟩)
            refine DL_q rfl rfl (Exec.load_box (hS37473) A24 rfl rfl rfl ⟨rfl, ?_⟩)
            refine DL_q rfl rfl (Exec.move (v := Value.int .i64 ((i37256 : Int))) rfl rfl ⟨rfl, ?_⟩)
            obtain ⟨x37474, q37475, hm37411⟩ := bind_some hm37411
            refine DL_q rfl rfl (Exec.index_repE S24 rfl rfl rfl (a36333.mono (PHeap.le.trans (PHeap.le.trans l36978 l37251) l37416)) q37475 ?_)
            intro b37476 o37477 a37478 e37479
            refine ⟨rfl, ?_⟩
            refine DL_q rfl rfl (Exec.load_at (E := encBool) hS37473 A4 rfl rfl rfl a37478 ?_)
            intro v37480 q37481
            obtain rfl := encBool_val.1 q37481
            refine ⟨rfl, ?_⟩
            refine DL_q rfl rfl (Exec.field F26_4 rfl p37419 rfl ⟨rfl, ?_⟩)
            refine DL_q rfl rfl (Exec.load_box ((hS37473).f1) A24 rfl rfl rfl ⟨rfl, ?_⟩)
            refine DL_q rfl rfl (Exec.move (v := Value.int .i64 ((i37256 : Int))) rfl rfl ⟨rfl, ?_⟩)
            obtain ⟨x37482, q37483, hm37411⟩ := bind_some hm37411
            refine DL_q rfl rfl (Exec.index_repE S24 rfl rfl rfl (a36340.mono (PHeap.le.trans (PHeap.le.trans l36978 l37251) l37416)) q37483 ?_)
            intro b37484 o37485 a37486 e37487
            refine ⟨rfl, ?_⟩
            refine DL_q rfl rfl (Exec.load_at (E := encBool) hS37473 A4 rfl rfl rfl a37486 ?_)
            intro v37488 q37489
            obtain rfl := encBool_val.1 q37489
            refine ⟨rfl, ?_⟩
            refine DL_q rfl rfl (Exec.bool_neq Try.underlying4 rfl rfl rfl ⟨rfl, ?_⟩)
            refine DL_done ?_
            refine WL_nil (at_normal ?_)
            rcases ite_some hm37411 with ⟨hc37490, hm37411⟩ | ⟨hc37490, hm37411⟩
            · refine W_cond_t rfl hc37490 ?_
              refine W_seq ?_
              refine W_region ?_
              refine WL_step rfl rfl (Exec.assign (v := Value.bool (false)) rfl rfl ?_)
              refine WL_nil (at_normal ?_)
              refine W_ret (ib_ret (at_ret (at_ret (ib_ret (at_ret (at_ret ?_))))))
              have e37491 := Option.some.inj hm37411
              subst c37407
              have hq37492 := hr37399 _ (hres37412 (by intro _ h; cases h))
              have e37493 := Option.some.inj hq37492
              subst r
              refine ⟨_, ret1 rfl, ?_⟩
              have hS37494 := (hS37473).drop
              have hS37495 := (hS37494).drop
              exact ⟨s37415, (PHeap.le.trans (PHeap.le.trans l36978 l37251) l37416), hS37495, rfl⟩
            · refine W_cond_f rfl hc37490 ?_
              replace hc37490 := not_true hc37490
              refine W_skip (ib_normal (at_normal ?_))
              refine W_region ?_
              refine WL_step rfl rfl (Exec.add rfl x37421 rfl ?_)
              refine WL_step rfl rfl (Exec.move (v := Value.int .i64 (IntKind.i64.wrap ((i37256 : Int) + 1))) rfl rfl ?_)
              refine WL_nil (at_normal ?_)
              have e37496 := Option.some.inj hm37411
              subst c37407
              have hS37497 := (hS37473).f1
              have hS37498 := (hS37497).f1
              refine ⟨_, rfl, ?_⟩; exact ⟨s37415, l37416, hS37498, p37418, p37419, p37420, (Eq.trans rfl (wrap_up hi37414 (SliceRep.le (a36333.mono (PHeap.le.trans l36978 l37251)))))⟩
          · intro t37499 f37500 w37501 hI37502 hres37503
            obtain ⟨s37504, l37505, hS37506, p37507, p37508, p37509, x37510⟩ := hI37502
            refine W_seq ?_
            refine W_region ?_
            refine WL_step rfl rfl (Exec.lss rfl x37510 p37509 ?_)
            refine WL_nil (at_normal ?_)
            refine W_seq ?_
            refine W_false (congrArg Value.bool (decide_eq_false (by omega))) ?_
            refine W_exit (at_exit (at_exit (ib_here (at_normal ?_))))
            have hS37511 := (hS37506).f1
            have hS37512 := (hS37511).f1
            refine ⟨_, .inl hres37503, ?_⟩; exact ⟨s37504, l37505, hS37512, p37507, p37508, p37509⟩
        · rintro f37513 w37514 ⟨t37515, hc37516, hM37517⟩
          have hm := hc37516.elim (hn37400 _) (hb37401 _)
          clear hc37516
          obtain ⟨s37518, l37519, hS37520, p37521, p37522, p37523⟩ := hM37517
          refine (at_normal ?_)
          refine W_seq ?_
          refine W_region ?_
          refine WL_step rfl rfl (Exec.assign (v := Value.bool (true)) rfl rfl ?_)
          refine WL_nil (at_normal ?_)
          refine W_ret ?_
          have e37525 := Option.some.inj hm
          subst r
          refine ⟨_, ret1 rfl, ?_⟩
          have hS37526 := (hS37520).drop
          have hS37527 := (hS37526).drop
          exact ⟨s37518, (PHeap.le.trans (PHeap.le.trans l36978 l37251) l37519), hS37527, rfl⟩

theorem ZZ39 : (Try.prog.info? 39).map (·.zero) = some (some (.int .i64 0)) := by kernel_rfl

theorem N15 : (Try.f15.name == "runtime.NumGoroutine") = false := by kernel_rfl

theorem base_Num_sim {w0 w : World} {s : PHeap} {H : List Res} {e37536 : (Option Int)}  {r : Int} (hm : base_Num_p e37536 = some r) (hS : St w0 s (H) w)  :
    Calls Try.prog 15 #[errV 39 (e37536)] w fun e w' => ∃ v, e = .returned v ∧ ((fun (y37540 : Int) => ∃ (s37541 : PHeap) , PHeap.le s s37541 ∧ St w0 s37541 (H) w' ∧ v = Value.int .i64 (y37540)) r) := by
  unfold base_Num_p at hm
  refine calls_of_W Try.func15 rfl rfl ?_
  refine W_seq ?_
  refine W_region ?_
  refine WL_step rfl rfl (Exec.assign (v := Value.int .i64 (0)) rfl rfl ?_)
  refine WL_nil (at_normal ?_)
  refine W_seq ?_
  refine W_seq ?_
  refine W_region ?_
  refine WL_step rfl rfl (Exec.move (v := errV 39 (e37536)) rfl rfl ?_)
  refine WL_step rfl rfl (Exec.err_eql_nil (T := 39) Try.underlying30 rfl rfl rfl ?_)
  refine WL_nil (at_normal ?_)
  rcases ite_some hm with ⟨hc37542, hm⟩ | ⟨hc37542, hm⟩
  · refine W_cond_t rfl hc37542 ?_
    refine W_seq ?_
    refine W_region ?_
    refine WL_step rfl rfl (Exec.assign (v := Value.int .i64 (0)) rfl rfl ?_)
    refine WL_nil (at_normal ?_)
    refine W_ret (at_ret ?_)
    have e37544 := Option.some.inj hm
    subst r
    refine ⟨_, ret1 rfl, ?_⟩
    exact ⟨s, (PHeap.le_refl _), hS, rfl⟩
  · refine W_cond_f rfl hc37542 ?_
    replace hc37542 := not_true hc37542
    refine W_skip (at_normal ?_)
    refine W_seq ?_
    refine W_seq ?_
    refine W_region ?_
    refine WL_step rfl rfl (Exec.move (v := errV 39 (e37536)) rfl rfl ?_)
    refine WL_step rfl rfl (Exec.err_assert Try.underlying39 ZZ39 rfl rfl ?_)
    refine WL_step rfl rfl (Exec.move (v := Value.tuple #[Value.int .i64 (e37536.getD 0), Value.bool (e37536.isSome)]) rfl rfl ?_)
    refine WL_step rfl rfl (Exec.extract (v := Value.int .i64 (e37536.getD 0)) rfl rfl rfl ?_)
    refine WL_step rfl rfl (Exec.extract (v := Value.bool (e37536.isSome)) rfl rfl rfl ?_)
    refine WL_step rfl rfl (Exec.assign (v := Value.int .i64 (e37536.getD 0)) rfl rfl ?_)
    refine WL_step rfl rfl (Exec.assign (v := Value.bool (e37536.isSome)) rfl rfl ?_)
    refine WL_nil (at_normal ?_)
    refine W_seq ?_
    refine W_region ?_
    refine WL_step rfl rfl (Exec.move (v := Value.bool (e37536.isSome)) rfl rfl ?_)
    refine WL_nil (at_normal ?_)
    rcases ite_some hm with ⟨hc37545, hm⟩ | ⟨hc37545, hm⟩
    · refine W_cond_t rfl hc37545 ?_
      refine W_seq ?_
      refine W_region ?_
      refine WL_step rfl rfl (Exec.move (v := Value.int .i64 (e37536.getD 0)) rfl rfl ?_)
      refine WL_step rfl rfl (Exec.assign (v := Value.int .i64 (e37536.getD 0)) rfl rfl ?_)
      refine WL_nil (at_normal ?_)
      refine W_ret (at_ret ?_)
      have e37547 := Option.some.inj hm
      subst r
      refine ⟨_, ret1 rfl, ?_⟩
      exact ⟨s, (PHeap.le_refl _), hS, rfl⟩
    · refine W_cond_f rfl hc37545 ?_
      replace hc37545 := not_true hc37545
      refine W_skip (at_normal ?_)
      refine W_seq ?_
      refine W_region ?_
      refine WL_step rfl rfl (Exec.assign (v := Value.int .i64 ((-1))) rfl rfl ?_)
      refine WL_nil (at_normal ?_)
      refine W_ret ?_
      have e37549 := Option.some.inj hm
      subst r
      refine ⟨_, ret1 rfl, ?_⟩
      exact ⟨s, (PHeap.le_refl _), hS, rfl⟩

theorem N3 : (Try.f3.name == "runtime.NumGoroutine") = false := by kernel_rfl

theorem law44_TransysProducts_sim {w0 w : World} {s : PHeap} {H : List Res} {a1 : System} {b8 : System} {v2 : Value} {v4 : Value} {v6 : Value} {v9 : Value} {v11 : Value} {v13 : Value} {r : Bool} (hm : law44_TransysProducts_p a1 b8 = some r) (hS : St w0 s (H) w) (a3 : SliceRep (encInt .i64) s v2 a1.Costs) (a5 : SliceRep encEdge s v4 a1.Edges) (a7 : SliceRep encBool s v6 a1.Goals) (a10 : SliceRep (encInt .i64) s v9 b8.Costs) (a12 : SliceRep encEdge s v11 b8.Edges) (a14 : SliceRep encBool s v13 b8.Goals) :
    Calls Try.prog 3 #[Value.agg #[Value.int .i64 (a1.States), Value.int .i64 (a1.Init), v2, v4, v6], Value.agg #[Value.int .i64 (b8.States), Value.int .i64 (b8.Init), v9, v11, v13]] w fun e w' => ∃ v, e = .returned v ∧ ((fun (y37587 : Bool) => ∃ (s37588 : PHeap) , PHeap.le s s37588 ∧ St w0 s37588 (H) w' ∧ v = Value.bool (y37587)) r) := by
  unfold law44_TransysProducts_p at hm
  refine calls_of_W Try.func3 rfl rfl ?_
  refine W_seq ?_
  refine W_region ?_
  refine WL_step rfl rfl (Exec.box (cs := [Value.int .i64 (a1.States), Value.int .i64 (a1.Init), v2, v4, v6]) hS rfl rfl rfl ?_)
  intro b37595 w37596 hS37597
  refine WL_step rfl rfl (Exec.box (cs := [Value.int .i64 (b8.States), Value.int .i64 (b8.Init), v9, v11, v13]) hS37597 rfl rfl rfl ?_)
  intro b37598 w37599 hS37600
  refine WL_step rfl rfl (Exec.assign (v := Value.bool (false)) rfl rfl ?_)
  refine WL_nil (at_normal ?_)
  refine W_seq ?_
  refine W_seq ?_
  obtain ⟨z37624, ht37625, hm⟩ := bind_some hm
  refine W_mid (M := fun f' w' => (fun (z37624 : Bool) => ∃ (s37626 : PHeap) , PHeap.le s s37626 ∧ St w0 s37626 (Res.box b37595 26 [Value.int .i64 (a1.States), Value.int .i64 (a1.Init), v2, v4, v6] :: Res.box b37598 26 [Value.int .i64 (b8.States), Value.int .i64 (b8.Init), v9, v11, v13] :: H) w' ∧ f' 2 = Value.pointer (some ⟨b37595, 0, none⟩) ∧ f' 3 = Value.pointer (some ⟨b37598, 0, none⟩) ∧ f' 18 = Value.bool (z37624)) z37624) ?_ ?_
  · refine W_region ?_
    obtain ⟨y37629, q37628, ht37625⟩ := bind_some ht37625
    refine WL_step rfl rfl (Exec.call rfl rfl Try.func10 rfl N10 args_nil ((law44_awake_sim q37628 hS37600 ).mono ?_))
    rintro _ w37630 ⟨_, rfl, ⟨s37631, l37632, hS37633, rfl⟩⟩
    refine ⟨_, rfl, ?_⟩
    refine WL_step rfl rfl (Exec.not rfl rfl ?_)
    refine WL_step rfl rfl (Exec.move (v := Value.bool (!y37629)) rfl rfl ?_)
    rcases ite_some ht37625 with ⟨hc37634, ht37625⟩ | ⟨hc37634, ht37625⟩
    · refine WL_pass rfl (yield_of rfl (congrArg Value.bool hc37634)) rfl rfl ?_
      refine WL_pass rfl (yield_of rfl (congrArg Value.bool hc37634)) rfl rfl ?_
      refine WL_step rfl rfl (Exec.pick_t (v := Value.bool (true)) rfl (congrArg Value.bool hc37634) rfl ?_)
      refine WL_step rfl rfl (Exec.move (v := Value.bool (true)) rfl rfl ?_)
      refine WL_pass rfl (yield_of rfl rfl) rfl rfl ?_
      refine WL_pass rfl (yield_of rfl rfl) rfl rfl ?_
      refine WL_step rfl rfl (Exec.pick_t (v := Value.bool (true)) rfl rfl rfl ?_)
      refine WL_nil (at_normal ?_)
      have e37635 := Option.some.inj ht37625
      subst z37624
      have hS37636 := (hS37633).f1
      exact ⟨s37631, l37632, hS37636, rfl, rfl, rfl⟩
    · replace hc37634 := not_true hc37634
      refine WL_run rfl (yield_of rfl (congrArg Value.bool hc37634)) rfl (Exec.load_box_agg (ds := [Value.int .i64 (a1.States), Value.int .i64 (a1.Init), v2, v4, v6]) ((hS37633).f1) A26 rfl rfl rfl ?_)
      obtain ⟨y37639, q37638, ht37625⟩ := bind_some ht37625
      refine WL_run rfl (yield_of rfl (congrArg Value.bool hc37634)) rfl (Exec.call rfl rfl Try.func11 rfl N11 (args_cons rfl args_nil) ((law44_large_sim q37638 hS37633 (a3.mono l37632) (a5.mono l37632) (a7.mono l37632)).mono ?_))
      rintro _ w37640 ⟨_, rfl, ⟨s37641, l37642, hS37643, rfl⟩⟩
      refine ⟨_, rfl, ?_⟩
      refine WL_step rfl rfl (Exec.pick_f (v := Value.bool (y37639)) rfl (congrArg Value.bool hc37634) rfl ?_)
      refine WL_step rfl rfl (Exec.move (v := Value.bool (y37639)) rfl rfl ?_)
      rcases ite_some ht37625 with ⟨hc37644, ht37625⟩ | ⟨hc37644, ht37625⟩
      · refine WL_pass rfl (yield_of rfl (congrArg Value.bool hc37644)) rfl rfl ?_
        refine WL_pass rfl (yield_of rfl (congrArg Value.bool hc37644)) rfl rfl ?_
        refine WL_step rfl rfl (Exec.pick_t (v := Value.bool (true)) rfl (congrArg Value.bool hc37644) rfl ?_)
        refine WL_nil (at_normal ?_)
        have e37645 := Option.some.inj ht37625
        subst z37624
        have hS37646 := (hS37643).f1
        exact ⟨s37641, (PHeap.le.trans l37632 l37642), hS37646, rfl, rfl, rfl⟩
      · replace hc37644 := not_true hc37644
        refine WL_run rfl (yield_of rfl (congrArg Value.bool hc37644)) rfl (Exec.load_box_agg (ds := [Value.int .i64 (b8.States), Value.int .i64 (b8.Init), v9, v11, v13]) (hS37643) A26 rfl rfl rfl ?_)
        obtain ⟨y37649, q37648, ht37625⟩ := bind_some ht37625
        refine WL_run rfl (yield_of rfl (congrArg Value.bool hc37644)) rfl (Exec.call rfl rfl Try.func11 rfl N11 (args_cons rfl args_nil) ((law44_large_sim q37648 hS37643 (a10.mono (PHeap.le.trans l37632 l37642)) (a12.mono (PHeap.le.trans l37632 l37642)) (a14.mono (PHeap.le.trans l37632 l37642))).mono ?_))
        rintro _ w37650 ⟨_, rfl, ⟨s37651, l37652, hS37653, rfl⟩⟩
        refine ⟨_, rfl, ?_⟩
        refine WL_step rfl rfl (Exec.pick_f (v := Value.bool (y37649)) rfl (congrArg Value.bool hc37644) rfl ?_)
        refine WL_nil (at_normal ?_)
        have e37654 := Option.some.inj ht37625
        subst z37624
        have hS37655 := (hS37653).f1
        exact ⟨s37651, (PHeap.le.trans (PHeap.le.trans l37632 l37642) l37652), hS37655, rfl, rfl, rfl⟩
  · intro f37656 w37657 hM37658
    obtain ⟨s37659, l37660, hS37661, p37662, p37663, p37664⟩ := hM37658
    refine (at_normal ?_)
    rcases ite_some hm with ⟨hc37665, hm⟩ | ⟨hc37665, hm⟩
    · refine W_cond_t p37664 hc37665 ?_
      refine W_seq ?_
      refine W_region ?_
      obtain ⟨y37675, q37674, hm⟩ := bind_some hm
      refine WL_step rfl rfl (Exec.call rfl rfl Try.func10 rfl N10 args_nil ((law44_awake_sim q37674 hS37661 ).mono ?_))
      rintro _ w37676 ⟨_, rfl, ⟨s37677, l37678, hS37679, rfl⟩⟩
      refine ⟨_, rfl, ?_⟩
      refine WL_step rfl rfl (Exec.assign (v := Value.bool (y37675)) rfl rfl ?_)
      refine WL_nil (at_normal ?_)
      refine W_ret (at_ret ?_)
      have e37681 := Option.some.inj hm
      subst r
      refine ⟨_, ret1 rfl, ?_⟩
      have hS37682 := (hS37679).drop
      have hS37683 := (hS37682).drop
      exact ⟨s37677, (PHeap.le.trans l37660 l37678), hS37683, rfl⟩
    · refine W_cond_f p37664 hc37665 ?_
      replace hc37665 := not_true hc37665
      refine W_skip (at_normal ?_)
      refine W_seq ?_
      refine W_region ?_
      refine WL_step rfl rfl (Exec.load_box_agg (ds := [Value.int .i64 (a1.States), Value.int .i64 (a1.Init), v2, v4, v6]) (hS37661) A26 rfl p37662 rfl ?_)
      refine WL_step rfl rfl (Exec.load_box_agg (ds := [Value.int .i64 (b8.States), Value.int .i64 (b8.Init), v9, v11, v13]) ((hS37661).f1) A26 rfl p37663 rfl ?_)
      obtain ⟨t37703, q37704, hm⟩ := bind_some hm
      obtain ⟨y37705, y37706⟩ := t37703
      replace hm := un2_eq hm
      refine WL_step rfl rfl (Exec.call rfl rfl Try.func12 rfl N12 (args_cons rfl (args_cons rfl args_nil)) ((transys_Product_sim q37704 hS37661 (a3.mono l37660) (a5.mono l37660) (a7.mono l37660) (a10.mono l37660) (a12.mono l37660) (a14.mono l37660)).mono ?_))
      rintro _ w37707 ⟨_, rfl, ⟨s37708, v37711, v37712, v37713, l37709, hS37710, rfl, r37714, r37715, r37716⟩⟩
      refine ⟨_, rfl, ?_⟩
      refine WL_step rfl rfl (Exec.move (v := Value.tuple #[Value.agg #[Value.int .i64 (y37706.States), Value.int .i64 (y37706.Init), v37711, v37712, v37713], errV 39 (y37705)]) rfl rfl ?_)
      refine WL_step rfl rfl (Exec.extract (v := Value.agg #[Value.int .i64 (y37706.States), Value.int .i64 (y37706.Init), v37711, v37712, v37713]) rfl rfl rfl ?_)
      refine WL_step rfl rfl (Exec.extract (v := errV 39 (y37705)) rfl rfl rfl ?_)
      refine WL_step rfl rfl (Exec.alloc (cs := [Value.int .i64 (0), Value.int .i64 (0), Value.slice none 0 0, Value.slice none 0 0, Value.slice none 0 0]) hS37710 Z26 rfl rfl ?_)
      intro b37717 w37718 hS37719
      refine WL_step rfl rfl (Exec.store_box (ds := [Value.int .i64 (y37706.States), Value.int .i64 (y37706.Init), v37711, v37712, v37713]) (es := [Value.int .i64 (y37706.States), Value.int .i64 (y37706.Init), v37711, v37712, v37713]) hS37719 A26 rfl rfl rfl rfl (one_cons rfl (one_cons rfl (one_cons (r37714).one (one_cons (r37715).one (one_cons (r37716).one one_nil))))) (Nat.le_of_ble_eq_true rfl) rfl ?_)
      intro w37720 hS37721
      refine WL_step rfl rfl (Exec.assign (v := errV 39 (y37705)) rfl rfl ?_)
      refine WL_nil (at_normal ?_)
      refine W_seq ?_
      refine W_region ?_
      refine WL_step rfl rfl (Exec.load_box_agg (ds := [Value.int .i64 (a1.States), Value.int .i64 (a1.Init), v2, v4, v6]) ((hS37721).f1) A26 rfl p37662 rfl ?_)
      refine WL_step rfl rfl (Exec.load_box_agg (ds := [Value.int .i64 (b8.States), Value.int .i64 (b8.Init), v9, v11, v13]) ((hS37721).f2) A26 rfl p37663 rfl ?_)
      obtain ⟨t37741, q37742, hm⟩ := bind_some hm
      obtain ⟨y37743, y37744⟩ := t37741
      replace hm := un2_eq hm
      refine WL_step rfl rfl (Exec.call rfl rfl Try.func13 rfl N13 (args_cons rfl (args_cons rfl args_nil)) ((ref44_Product_sim q37742 hS37721 (a3.mono (PHeap.le.trans l37660 l37709)) (a5.mono (PHeap.le.trans l37660 l37709)) (a7.mono (PHeap.le.trans l37660 l37709)) (a10.mono (PHeap.le.trans l37660 l37709)) (a12.mono (PHeap.le.trans l37660 l37709)) (a14.mono (PHeap.le.trans l37660 l37709))).mono ?_))
      rintro _ w37745 ⟨_, rfl, ⟨s37746, v37749, v37750, v37751, l37747, hS37748, rfl, r37752, r37753, r37754⟩⟩
      refine ⟨_, rfl, ?_⟩
      refine WL_step rfl rfl (Exec.move (v := Value.tuple #[Value.agg #[Value.int .i64 (y37744.States), Value.int .i64 (y37744.Init), v37749, v37750, v37751], Value.int .i64 (y37743)]) rfl rfl ?_)
      refine WL_step rfl rfl (Exec.extract (v := Value.agg #[Value.int .i64 (y37744.States), Value.int .i64 (y37744.Init), v37749, v37750, v37751]) rfl rfl rfl ?_)
      refine WL_step rfl rfl (Exec.extract (v := Value.int .i64 (y37743)) rfl rfl rfl ?_)
      refine WL_step rfl rfl (Exec.alloc (cs := [Value.int .i64 (0), Value.int .i64 (0), Value.slice none 0 0, Value.slice none 0 0, Value.slice none 0 0]) hS37748 Z26 rfl rfl ?_)
      intro b37755 w37756 hS37757
      refine WL_step rfl rfl (Exec.store_box (ds := [Value.int .i64 (y37744.States), Value.int .i64 (y37744.Init), v37749, v37750, v37751]) (es := [Value.int .i64 (y37744.States), Value.int .i64 (y37744.Init), v37749, v37750, v37751]) hS37757 A26 rfl rfl rfl rfl (one_cons rfl (one_cons rfl (one_cons (r37752).one (one_cons (r37753).one (one_cons (r37754).one one_nil))))) (Nat.le_of_ble_eq_true rfl) rfl ?_)
      intro w37758 hS37759
      refine WL_step rfl rfl (Exec.assign (v := Value.int .i64 (y37743)) rfl rfl ?_)
      refine WL_nil (at_normal ?_)
      refine W_seq ?_
      obtain ⟨z37772, ht37773, hm⟩ := bind_some hm
      refine W_mid (M := fun f' w' => (fun (z37772 : Bool) => ∃ (s37774 : PHeap) , PHeap.le s37746 s37774 ∧ St w0 s37774 (H) w' ∧ f' 4 = Value.bool (z37772)) z37772) ?_ ?_
      · refine W_region ?_
        refine WL_step rfl rfl (Exec.load_box_agg (ds := [Value.int .i64 (y37706.States), Value.int .i64 (y37706.Init), v37711, v37712, v37713]) ((hS37759).f1) A26 rfl rfl rfl ?_)
        refine WL_step rfl rfl (Exec.load_box_agg (ds := [Value.int .i64 (y37744.States), Value.int .i64 (y37744.Init), v37749, v37750, v37751]) (hS37759) A26 rfl rfl rfl ?_)
        obtain ⟨y37777, q37776, ht37773⟩ := bind_some ht37773
        refine WL_step rfl rfl (Exec.call rfl rfl Try.func14 rfl N14 (args_cons rfl (args_cons rfl args_nil)) ((ref44_Same_sim q37776 hS37759 (r37714.mono l37747) (r37715.mono l37747) (r37716.mono l37747) r37752 r37753 r37754).mono ?_))
        rintro _ w37778 ⟨_, rfl, ⟨s37779, l37780, hS37781, rfl⟩⟩
        refine ⟨_, rfl, ?_⟩
        refine WL_step rfl rfl (Exec.move (v := Value.bool (y37777)) rfl rfl ?_)
        rcases ite_some ht37773 with ⟨hc37782, ht37773⟩ | ⟨hc37782, ht37773⟩
        · refine WL_run rfl (yield_of rfl (congrArg Value.bool hc37782)) rfl (Exec.move (v := errV 39 (y37705)) rfl rfl ?_)
          refine WL_run rfl (yield_of rfl (congrArg Value.bool hc37782)) rfl (Exec.call rfl rfl Try.func15 rfl N15 (args_cons rfl args_nil) ((base_Num_sim (base_Num_tot y37705) hS37781 ).mono ?_))
          rintro _ w37783 ⟨_, rfl, ⟨s37784, l37785, hS37786, rfl⟩⟩
          refine ⟨_, rfl, ?_⟩
          refine WL_run rfl (yield_of rfl (congrArg Value.bool hc37782)) rfl (Exec.move (v := Value.int .i64 (y37743)) rfl rfl ?_)
          refine WL_run rfl (yield_of rfl (congrArg Value.bool hc37782)) rfl (Exec.eql rfl rfl rfl ?_)
          refine WL_step rfl rfl (Exec.pick_t (v := Value.bool (decide ((base_Num_t y37705) = y37743))) rfl (congrArg Value.bool hc37782) rfl ?_)
          refine WL_step rfl rfl (Exec.assign (v := Value.bool (decide ((base_Num_t y37705) = y37743))) rfl rfl ?_)
          refine WL_nil (at_normal ?_)
          have e37787 := Option.some.inj ht37773
          subst z37772
          have hS37788 := (hS37786).drop
          have hS37789 := (hS37788).drop
          have hS37790 := (hS37789).drop
          have hS37791 := (hS37790).drop
          exact ⟨s37784, (PHeap.le.trans l37780 l37785), hS37791, rfl⟩
        · replace hc37782 := not_true hc37782
          refine WL_pass rfl (yield_of rfl (congrArg Value.bool hc37782)) rfl rfl ?_
          refine WL_pass rfl (yield_of rfl (congrArg Value.bool hc37782)) rfl rfl ?_
          refine WL_pass rfl (yield_of rfl (congrArg Value.bool hc37782)) rfl rfl ?_
          refine WL_pass rfl (yield_of rfl (congrArg Value.bool hc37782)) rfl rfl ?_
          refine WL_step rfl rfl (Exec.pick_f (v := Value.bool (false)) rfl (congrArg Value.bool hc37782) rfl ?_)
          refine WL_step rfl rfl (Exec.assign (v := Value.bool (false)) rfl rfl ?_)
          refine WL_nil (at_normal ?_)
          have e37792 := Option.some.inj ht37773
          subst z37772
          have hS37793 := (hS37781).drop
          have hS37794 := (hS37793).drop
          have hS37795 := (hS37794).drop
          have hS37796 := (hS37795).drop
          exact ⟨s37779, l37780, hS37796, rfl⟩
      · intro f37797 w37798 hM37799
        obtain ⟨s37800, l37801, hS37802, p37803⟩ := hM37799
        refine (at_normal ?_)
        refine W_ret ?_
        have e37805 := Option.some.inj hm
        subst r
        refine ⟨_, ret1 rfl, ?_⟩
        exact ⟨s37800, (PHeap.le.trans (PHeap.le.trans (PHeap.le.trans l37660 l37709) l37747) l37801), hS37802, p37803⟩

end Go.Pw
