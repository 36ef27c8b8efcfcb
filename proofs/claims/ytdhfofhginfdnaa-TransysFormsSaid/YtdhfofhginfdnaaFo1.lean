/-
  The walks (printed by my generator).
-/
import Derived.Test.YtdhfofhginfdnaaFo0
import Derived.Test.YtdhfofhginfdnaaFoX
set_option maxRecDepth 100000
set_option maxHeartbeats 4000000
set_option linter.unusedVariables false
namespace Go.Pw
open Go.Proofs
theorem N12 : (Try.f12.name == "runtime.NumGoroutine") = false := by kernel_rfl

theorem transys_Product_sim {w0 w : World} {s : PHeap} {H : List Res} {a139 : System} {b146 : System} {v140 : Value} {v142 : Value} {v144 : Value} {v147 : Value} {v149 : Value} {v151 : Value} {r : (Option Int) × System} (hm : transys_Product_p a139 b146 = some r) (hS : St w0 s (H) w) (a141 : SliceRep (encInt .i64) s v140 a139.Costs) (a143 : SliceRep encEdge s v142 a139.Edges) (a145 : SliceRep encBool s v144 a139.Goals) (a148 : SliceRep (encInt .i64) s v147 b146.Costs) (a150 : SliceRep encEdge s v149 b146.Edges) (a152 : SliceRep encBool s v151 b146.Goals) :
    Calls Try.prog 12 #[Value.agg #[Value.int .i64 (a139.States), Value.int .i64 (a139.Init), v140, v142, v144], Value.agg #[Value.int .i64 (b146.States), Value.int .i64 (b146.Init), v147, v149, v151]] w fun e w' => ∃ v, e = .returned v ∧ ((un2 fun (y8666 : (Option Int)) (y8665 : System) => ∃ (s8685 : PHeap) (v8682 : Value) (v8683 : Value) (v8684 : Value), PHeap.le s s8685 ∧ St w0 s8685 (H) w' ∧ v = Value.tuple #[Value.agg #[Value.int .i64 (y8665.States), Value.int .i64 (y8665.Init), v8682, v8683, v8684], errV 39 (y8666)] ∧ SliceRep (encInt .i64) s8685 v8682 y8665.Costs ∧ SliceRep encEdge s8685 v8683 y8665.Edges ∧ SliceRep encBool s8685 v8684 y8665.Goals) r) := by
  unfold transys_Product_p at hm
  refine calls_of_W Try.func12 rfl rfl ?_
  refine W_seq ?_
  refine W_region ?_
  refine WL_step rfl rfl (Exec.box (cs := [Value.int .i64 (a139.States), Value.int .i64 (a139.Init), v140, v142, v144]) hS rfl rfl rfl ?_)
  intro b8695 w8696 hS8697
  refine WL_step rfl rfl (Exec.box (cs := [Value.int .i64 (b146.States), Value.int .i64 (b146.Init), v147, v149, v151]) hS8697 rfl rfl rfl ?_)
  intro b8698 w8699 hS8700
  refine WL_step rfl rfl (Exec.alloc (cs := [Value.int .i64 (0), Value.int .i64 (0), Value.slice none 0 0, Value.slice none 0 0, Value.slice none 0 0]) hS8700 Z26 rfl rfl ?_)
  intro b8701 w8702 hS8703
  refine WL_step rfl rfl (Exec.assign (v := errV 39 (none)) rfl rfl ?_)
  refine WL_nil (at_normal ?_)
  refine W_seq ?_
  refine W_seq ?_
  obtain ⟨z8727, ht8728, hm⟩ := bind_some hm
  refine W_mid (M := fun f' w' => (fun (z8727 : Bool) => ∃ (s8729 : PHeap) , PHeap.le s s8729 ∧ St w0 s8729 (Res.box b8695 26 [Value.int .i64 (a139.States), Value.int .i64 (a139.Init), v140, v142, v144] :: Res.box b8698 26 [Value.int .i64 (b146.States), Value.int .i64 (b146.Init), v147, v149, v151] :: Res.box b8701 26 [Value.int .i64 (0), Value.int .i64 (0), Value.slice none 0 0, Value.slice none 0 0, Value.slice none 0 0] :: H) w' ∧ f' 2 = Value.pointer (some ⟨b8695, 0, none⟩) ∧ f' 3 = Value.pointer (some ⟨b8698, 0, none⟩) ∧ f' 4 = Value.pointer (some ⟨b8701, 0, none⟩) ∧ f' 33 = Value.bool (z8727)) z8727) ?_ ?_
  · refine W_region ?_
    refine WL_step rfl rfl (Exec.load_box_agg (ds := [Value.int .i64 (a139.States), Value.int .i64 (a139.Init), v140, v142, v144]) ((hS8703).f2) A26 rfl rfl rfl ?_)
    obtain ⟨y8732, q8731, ht8728⟩ := bind_some ht8728
    refine WL_step rfl rfl (Exec.call rfl rfl Try.func25 rfl N25 (args_cons rfl args_nil) ((transys_Valid_sim q8731 hS8703 a141 a143 a145).mono ?_))
    rintro _ w8733 ⟨_, rfl, ⟨s8734, l8735, hS8736, rfl⟩⟩
    refine ⟨_, rfl, ?_⟩
    refine WL_step rfl rfl (Exec.not rfl rfl ?_)
    refine WL_step rfl rfl (Exec.move (v := Value.bool (!y8732)) rfl rfl ?_)
    rcases ite_some ht8728 with ⟨hc8737, ht8728⟩ | ⟨hc8737, ht8728⟩
    · refine WL_pass rfl (yield_of rfl (congrArg Value.bool hc8737)) rfl rfl ?_
      refine WL_pass rfl (yield_of rfl (congrArg Value.bool hc8737)) rfl rfl ?_
      refine WL_pass rfl (yield_of rfl (congrArg Value.bool hc8737)) rfl rfl ?_
      refine WL_step rfl rfl (Exec.pick_t (v := Value.bool (true)) rfl (congrArg Value.bool hc8737) rfl ?_)
      refine WL_step rfl rfl (Exec.move (v := Value.bool (true)) rfl rfl ?_)
      refine WL_pass rfl (yield_of rfl rfl) rfl rfl ?_
      refine WL_pass rfl (yield_of rfl rfl) rfl rfl ?_
      refine WL_pass rfl (yield_of rfl rfl) rfl rfl ?_
      refine WL_pass rfl (yield_of rfl rfl) rfl rfl ?_
      refine WL_pass rfl (yield_of rfl rfl) rfl rfl ?_
      refine WL_pass rfl (yield_of rfl rfl) rfl rfl ?_
      refine WL_step rfl rfl (Exec.pick_t (v := Value.bool (true)) rfl rfl rfl ?_)
      refine WL_nil (at_normal ?_)
      have e8738 := Option.some.inj ht8728
      subst z8727
      have hS8739 := (hS8736).f1
      have hS8740 := (hS8739).f2
      exact ⟨s8734, l8735, hS8740, rfl, rfl, rfl, rfl⟩
    · replace hc8737 := not_true hc8737
      refine WL_run rfl (yield_of rfl (congrArg Value.bool hc8737)) rfl (Exec.load_box_agg (ds := [Value.int .i64 (b146.States), Value.int .i64 (b146.Init), v147, v149, v151]) ((hS8736).f1) A26 rfl rfl rfl ?_)
      obtain ⟨y8743, q8742, ht8728⟩ := bind_some ht8728
      refine WL_run rfl (yield_of rfl (congrArg Value.bool hc8737)) rfl (Exec.call rfl rfl Try.func25 rfl N25 (args_cons rfl args_nil) ((transys_Valid_sim q8742 hS8736 (a148.mono l8735) (a150.mono l8735) (a152.mono l8735)).mono ?_))
      rintro _ w8744 ⟨_, rfl, ⟨s8745, l8746, hS8747, rfl⟩⟩
      refine ⟨_, rfl, ?_⟩
      refine WL_run rfl (yield_of rfl (congrArg Value.bool hc8737)) rfl (Exec.not rfl rfl ?_)
      refine WL_step rfl rfl (Exec.pick_f (v := Value.bool (!y8743)) rfl (congrArg Value.bool hc8737) rfl ?_)
      refine WL_step rfl rfl (Exec.move (v := Value.bool (!y8743)) rfl rfl ?_)
      rcases ite_some ht8728 with ⟨hc8748, ht8728⟩ | ⟨hc8748, ht8728⟩
      · refine WL_pass rfl (yield_of rfl (congrArg Value.bool hc8748)) rfl rfl ?_
        refine WL_pass rfl (yield_of rfl (congrArg Value.bool hc8748)) rfl rfl ?_
        refine WL_pass rfl (yield_of rfl (congrArg Value.bool hc8748)) rfl rfl ?_
        refine WL_pass rfl (yield_of rfl (congrArg Value.bool hc8748)) rfl rfl ?_
        refine WL_pass rfl (yield_of rfl (congrArg Value.bool hc8748)) rfl rfl ?_
        refine WL_pass rfl (yield_of rfl (congrArg Value.bool hc8748)) rfl rfl ?_
        refine WL_step rfl rfl (Exec.pick_t (v := Value.bool (true)) rfl (congrArg Value.bool hc8748) rfl ?_)
        refine WL_nil (at_normal ?_)
        have e8749 := Option.some.inj ht8728
        subst z8727
        have hS8750 := (hS8747).f1
        have hS8751 := (hS8750).f2
        exact ⟨s8745, (PHeap.le.trans l8735 l8746), hS8751, rfl, rfl, rfl, rfl⟩
      · replace hc8748 := not_true hc8748
        refine WL_run rfl (yield_of rfl (congrArg Value.bool hc8748)) rfl (Exec.field F26_2 rfl rfl rfl ?_)
        refine WL_run rfl (yield_of rfl (congrArg Value.bool hc8748)) rfl (Exec.load_box ((hS8747).f2) A22 rfl rfl rfl ?_)
        refine WL_run rfl (yield_of rfl (congrArg Value.bool hc8748)) rfl (Exec.field F26_2 rfl rfl rfl ?_)
        refine WL_run rfl (yield_of rfl (congrArg Value.bool hc8748)) rfl (Exec.load_box ((hS8747).f1) A22 rfl rfl rfl ?_)
        obtain ⟨y8754, q8753, ht8728⟩ := bind_some ht8728
        refine WL_run rfl (yield_of rfl (congrArg Value.bool hc8748)) rfl (Exec.call rfl rfl Try.func35 rfl N35 (args_cons rfl (args_cons rfl args_nil)) ((slices_Equal___int_int__sim q8753 hS8747 (a141.mono (PHeap.le.trans l8735 l8746)) (a148.mono (PHeap.le.trans l8735 l8746))).mono ?_))
        rintro _ w8755 ⟨_, rfl, ⟨s8756, l8757, hS8758, rfl⟩⟩
        refine ⟨_, rfl, ?_⟩
        refine WL_run rfl (yield_of rfl (congrArg Value.bool hc8748)) rfl (Exec.not rfl rfl ?_)
        refine WL_step rfl rfl (Exec.pick_f (v := Value.bool (!y8754)) rfl (congrArg Value.bool hc8748) rfl ?_)
        refine WL_nil (at_normal ?_)
        have e8759 := Option.some.inj ht8728
        subst z8727
        have hS8760 := (hS8758).f1
        have hS8761 := (hS8760).f2
        exact ⟨s8756, (PHeap.le.trans (PHeap.le.trans l8735 l8746) l8757), hS8761, rfl, rfl, rfl, rfl⟩
  · intro f8762 w8763 hM8764
    obtain ⟨s8765, l8766, hS8767, p8768, p8769, p8770, p8771⟩ := hM8764
    refine (at_normal ?_)
    rcases ite_some hm with ⟨hc8772, hm⟩ | ⟨hc8772, hm⟩
    · refine W_cond_t p8771 hc8772 ?_
      refine W_seq ?_
      refine W_region ?_
      refine WL_step rfl rfl (Exec.build rfl parts_nil (v := Value.agg #[Value.int .i64 (0), Value.int .i64 (0), Value.slice none 0 0, Value.slice none 0 0, Value.slice none 0 0]) (fun _ => by kernel_rfl) ?_)
      refine WL_step rfl rfl (Exec.makeInterface C39 rfl rfl ?_)
      have hS8776 := (hS8767).f2
      refine WL_step rfl rfl (Exec.store_box (ds := [Value.int .i64 (0), Value.int .i64 (0), Value.slice none 0 0, Value.slice none 0 0, Value.slice none 0 0]) (es := [Value.int .i64 (0), Value.int .i64 (0), Value.slice none 0 0, Value.slice none 0 0, Value.slice none 0 0]) hS8776 A26 rfl p8770 rfl rfl (one_cons rfl (one_cons rfl (one_cons rfl (one_cons rfl (one_cons rfl one_nil))))) (Nat.le_of_ble_eq_true rfl) rfl ?_)
      intro w8777 hS8778
      refine WL_step rfl rfl (Exec.assign (v := errV 39 (some 2)) rfl rfl ?_)
      refine WL_nil (at_normal ?_)
      refine W_ret (at_ret ?_)
      have e8780 := Option.some.inj hm
      subst r
      refine ⟨_, retG2 rfl ⟨_, _, p8770, cellRes (hS8778) A26⟩ rfl, ?_⟩
      have hS8781 := (hS8778).drop
      have hS8782 := (hS8781).drop
      have hS8783 := (hS8782).drop
      exact ⟨s8765, (Value.slice none 0 0), (Value.slice none 0 0), (Value.slice none 0 0), l8766, hS8783, (tup2 rfl rfl), (SliceRep.nil _ _), (SliceRep.nil _ _), (SliceRep.nil _ _)⟩
    · refine W_cond_f p8771 hc8772 ?_
      replace hc8772 := not_true hc8772
      refine W_skip (at_normal ?_)
      refine W_seq ?_
      refine W_seq ?_
      refine W_region ?_
      refine WL_step rfl rfl (Exec.field F26_0 rfl p8768 rfl ?_)
      refine WL_step rfl rfl (Exec.load_box (hS8767) A3 rfl rfl rfl ?_)
      refine WL_step rfl rfl (Exec.field F26_0 rfl p8769 rfl ?_)
      refine WL_step rfl rfl (Exec.load_box ((hS8767).f1) A3 rfl rfl rfl ?_)
      refine WL_step rfl rfl (Exec.mul rfl rfl rfl ?_)
      refine WL_step rfl rfl (Exec.gtr rfl rfl rfl ?_)
      refine WL_nil (at_normal ?_)
      rcases ite_some hm with ⟨hc8784, hm⟩ | ⟨hc8784, hm⟩
      · refine W_cond_t rfl hc8784 ?_
        refine W_seq ?_
        refine W_region ?_
        refine WL_step rfl rfl (Exec.build rfl parts_nil (v := Value.agg #[Value.int .i64 (0), Value.int .i64 (0), Value.slice none 0 0, Value.slice none 0 0, Value.slice none 0 0]) (fun _ => by kernel_rfl) ?_)
        refine WL_step rfl rfl (Exec.makeInterface C39 rfl rfl ?_)
        have hS8788 := (hS8767).f2
        refine WL_step rfl rfl (Exec.store_box (ds := [Value.int .i64 (0), Value.int .i64 (0), Value.slice none 0 0, Value.slice none 0 0, Value.slice none 0 0]) (es := [Value.int .i64 (0), Value.int .i64 (0), Value.slice none 0 0, Value.slice none 0 0, Value.slice none 0 0]) hS8788 A26 rfl p8770 rfl rfl (one_cons rfl (one_cons rfl (one_cons rfl (one_cons rfl (one_cons rfl one_nil))))) (Nat.le_of_ble_eq_true rfl) rfl ?_)
        intro w8789 hS8790
        refine WL_step rfl rfl (Exec.assign (v := errV 39 (some 5)) rfl rfl ?_)
        refine WL_nil (at_normal ?_)
        refine W_ret (at_ret ?_)
        have e8792 := Option.some.inj hm
        subst r
        refine ⟨_, retG2 rfl ⟨_, _, p8770, cellRes (hS8790) A26⟩ rfl, ?_⟩
        have hS8793 := (hS8790).drop
        have hS8794 := (hS8793).drop
        have hS8795 := (hS8794).drop
        exact ⟨s8765, (Value.slice none 0 0), (Value.slice none 0 0), (Value.slice none 0 0), l8766, hS8795, (tup2 rfl rfl), (SliceRep.nil _ _), (SliceRep.nil _ _), (SliceRep.nil _ _)⟩
      · refine W_cond_f rfl hc8784 ?_
        replace hc8784 := not_true hc8784
        refine W_skip (at_normal ?_)
        refine W_seq ?_
        obtain ⟨y8799, q8798, hm⟩ := bind_some hm
        refine W_mid (M := fun f' w' => ∃ (s8825 : PHeap) (b8822 : Nat) (v8824 : Value), PHeap.le s8765 s8825 ∧ St w0 s8825 (Res.box b8695 26 [Value.int .i64 (a139.States), Value.int .i64 (a139.Init), v140, v142, v144] :: Res.box b8698 26 [Value.int .i64 (b146.States), Value.int .i64 (b146.Init), v147, v149, v151] :: Res.box b8701 26 [Value.int .i64 (0), Value.int .i64 (0), Value.slice none 0 0, Value.slice none 0 0, Value.slice none 0 0] :: Res.box b8822 26 [Value.int .i64 (IntKind.i64.wrap (a139.States * b146.States)), Value.int .i64 (IntKind.i64.wrap ((IntKind.i64.wrap (a139.Init * b146.States)) + b146.Init)), v8824, Value.slice none 0 0, Value.slice none 0 0] :: Res.arr (encInt .i64) 3 v8824 y8799 :: H) w' ∧ f' 2 = Value.pointer (some ⟨b8695, 0, none⟩) ∧ f' 3 = Value.pointer (some ⟨b8698, 0, none⟩) ∧ f' 4 = Value.pointer (some ⟨b8701, 0, none⟩) ∧ f' 6 = Value.pointer (some ⟨b8822, 0, none⟩)) ?_ ?_
        · refine W_dl (n0 := 18) (.q 0 (.q 1 (.q 2 (.q 3 (.q 4 (.q 5 (.q 6 (.q 7 (.q 8 (.q 9 (.q 10 (.q 11 (.q 12 (.q 13 (.q 14 (.alt (.e 15 [0, 1, 2, 3, 4, 5, 6, 7, 8, 9, 10, 11, 12] (.q 16 (.e 17 [0, 1, 2, 3, 4, 5, 6, 7, 8, 9, 10, 11, 12, 16] .done))) (.e 17 [0, 1, 2, 3, 4, 5, 6, 7, 8, 9, 10, 11, 12, 13, 14] (.e 15 [0, 1, 2, 3, 4, 5, 6, 7, 8, 9, 10, 11, 12] (.q 16 .done))))))))))))))))))) hmix (by kernel_rfl) (by kernel_rfl) ?_
          have hS8826 := hS8767.drew
          refine DL_q rfl rfl (Exec.field F26_0 rfl p8768 rfl ⟨rfl, ?_⟩)
          refine DL_q rfl rfl (Exec.load_box (hS8826) A3 rfl rfl rfl ⟨rfl, ?_⟩)
          refine DL_q rfl rfl (Exec.field F26_0 rfl p8769 rfl ⟨rfl, ?_⟩)
          refine DL_q rfl rfl (Exec.load_box ((hS8826).f1) A3 rfl rfl rfl ⟨rfl, ?_⟩)
          refine DL_q rfl rfl (Exec.mul rfl rfl rfl ⟨rfl, ?_⟩)
          refine DL_q rfl rfl (Exec.field F26_1 rfl p8768 rfl ⟨rfl, ?_⟩)
          refine DL_q rfl rfl (Exec.load_box (hS8826) A3 rfl rfl rfl ⟨rfl, ?_⟩)
          refine DL_q rfl rfl (Exec.field F26_0 rfl p8769 rfl ⟨rfl, ?_⟩)
          refine DL_q rfl rfl (Exec.load_box ((hS8826).f1) A3 rfl rfl rfl ⟨rfl, ?_⟩)
          refine DL_q rfl rfl (Exec.mul rfl rfl rfl ⟨rfl, ?_⟩)
          refine DL_q rfl rfl (Exec.field F26_1 rfl p8769 rfl ⟨rfl, ?_⟩)
          refine DL_q rfl rfl (Exec.load_box ((hS8826).f1) A3 rfl rfl rfl ⟨rfl, ?_⟩)
          refine DL_q rfl rfl (Exec.add rfl rfl rfl ⟨rfl, ?_⟩)
          refine DL_q rfl rfl (Exec.field F26_2 rfl p8768 rfl ⟨rfl, ?_⟩)
          refine DL_q rfl rfl (Exec.load_box (hS8826) A22 rfl rfl rfl ⟨rfl, ?_⟩)
          refine DL_alt ?_ ?_
          · refine DL_e rfl rfl (Exec.call rfl rfl Try.func36 rfl N36 (args_cons rfl args_nil) ((slices_Clone___int_int__sim q8798 hS8826 (a141.mono l8766)).mono ?_))
            rintro _ w8827 ⟨v8831, rfl, ⟨s8828, _, l8829, hS8830, rfl⟩⟩
            refine ⟨_, rfl, ?_⟩
            refine ⟨(ag_cons (ag_r rfl rfl (Exec.field F26_0 rfl p8768 rfl ⟨rfl, rfl⟩)) (ag_cons (ag_r rfl rfl (Exec.load_box ((hS8830).f1) A3 rfl rfl rfl ⟨rfl, rfl⟩)) (ag_cons (ag_r rfl rfl (Exec.field F26_0 rfl p8769 rfl ⟨rfl, rfl⟩)) (ag_cons (ag_r rfl rfl (Exec.load_box ((hS8830).f2) A3 rfl rfl rfl ⟨rfl, rfl⟩)) (ag_cons (ag_r rfl rfl (Exec.mul rfl rfl rfl ⟨rfl, rfl⟩)) (ag_cons (ag_r rfl rfl (Exec.field F26_1 rfl p8768 rfl ⟨rfl, rfl⟩)) (ag_cons (ag_r rfl rfl (Exec.load_box ((hS8830).f1) A3 rfl rfl rfl ⟨rfl, rfl⟩)) (ag_cons (ag_r rfl rfl (Exec.field F26_0 rfl p8769 rfl ⟨rfl, rfl⟩)) (ag_cons (ag_r rfl rfl (Exec.load_box ((hS8830).f2) A3 rfl rfl rfl ⟨rfl, rfl⟩)) (ag_cons (ag_r rfl rfl (Exec.mul rfl rfl rfl ⟨rfl, rfl⟩)) (ag_cons (ag_r rfl rfl (Exec.field F26_1 rfl p8769 rfl ⟨rfl, rfl⟩)) (ag_cons (ag_r rfl rfl (Exec.load_box ((hS8830).f2) A3 rfl rfl rfl ⟨rfl, rfl⟩)) (ag_cons (ag_r rfl rfl (Exec.add rfl rfl rfl ⟨rfl, rfl⟩)) ag_nil))))))))))))), ?_⟩
            refine DL_q rfl rfl (Exec.build rfl (parts_cons (c := [Value.int .i64 (IntKind.i64.wrap (a139.States * b146.States))]) (cells_of rfl rfl) (parts_cons (c := [Value.int .i64 (IntKind.i64.wrap ((IntKind.i64.wrap (a139.Init * b146.States)) + b146.Init))]) (cells_of rfl rfl) (parts_cons (c := [v8831]) (cells_of rfl (cells_one (hS8830).arr_one)) parts_nil))) (v := Value.agg #[Value.int .i64 (IntKind.i64.wrap (a139.States * b146.States)), Value.int .i64 (IntKind.i64.wrap ((IntKind.i64.wrap (a139.Init * b146.States)) + b146.Init)), v8831, Value.slice none 0 0, Value.slice none 0 0]) (fun _ => by kernel_rfl) ⟨rfl, ?_⟩)
            refine DL_e rfl rfl (Exec.alloc (cs := [Value.int .i64 (0), Value.int .i64 (0), Value.slice none 0 0, Value.slice none 0 0, Value.slice none 0 0]) hS8830 Z26 rfl rfl ?_)
            intro b8832 w8833 hS8834
            refine ⟨(ag_cons (ag_r rfl rfl (Exec.field F26_0 rfl p8768 rfl ⟨rfl, rfl⟩)) (ag_cons (ag_r rfl rfl (Exec.load_box ((hS8834).f2) A3 rfl rfl rfl ⟨rfl, rfl⟩)) (ag_cons (ag_r rfl rfl (Exec.field F26_0 rfl p8769 rfl ⟨rfl, rfl⟩)) (ag_cons (ag_r rfl rfl (Exec.load_box ((hS8834).f3) A3 rfl rfl rfl ⟨rfl, rfl⟩)) (ag_cons (ag_r rfl rfl (Exec.mul rfl rfl rfl ⟨rfl, rfl⟩)) (ag_cons (ag_r rfl rfl (Exec.field F26_1 rfl p8768 rfl ⟨rfl, rfl⟩)) (ag_cons (ag_r rfl rfl (Exec.load_box ((hS8834).f2) A3 rfl rfl rfl ⟨rfl, rfl⟩)) (ag_cons (ag_r rfl rfl (Exec.field F26_0 rfl p8769 rfl ⟨rfl, rfl⟩)) (ag_cons (ag_r rfl rfl (Exec.load_box ((hS8834).f3) A3 rfl rfl rfl ⟨rfl, rfl⟩)) (ag_cons (ag_r rfl rfl (Exec.mul rfl rfl rfl ⟨rfl, rfl⟩)) (ag_cons (ag_r rfl rfl (Exec.field F26_1 rfl p8769 rfl ⟨rfl, rfl⟩)) (ag_cons (ag_r rfl rfl (Exec.load_box ((hS8834).f3) A3 rfl rfl rfl ⟨rfl, rfl⟩)) (ag_cons (ag_r rfl rfl (Exec.add rfl rfl rfl ⟨rfl, rfl⟩)) (ag_cons (ag_r rfl rfl (Exec.build rfl (parts_cons (c := [Value.int .i64 (IntKind.i64.wrap (a139.States * b146.States))]) (cells_of rfl rfl) (parts_cons (c := [Value.int .i64 (IntKind.i64.wrap ((IntKind.i64.wrap (a139.Init * b146.States)) + b146.Init))]) (cells_of rfl rfl) (parts_cons (c := [v8831]) (cells_of rfl (cells_one ((hS8834).f1).arr_one)) parts_nil))) (v := Value.agg #[Value.int .i64 (IntKind.i64.wrap (a139.States * b146.States)), Value.int .i64 (IntKind.i64.wrap ((IntKind.i64.wrap (a139.Init * b146.States)) + b146.Init)), v8831, Value.slice none 0 0, Value.slice none 0 0]) (fun _ => by kernel_rfl) ⟨rfl, rfl⟩)) ag_nil)))))))))))))), ?_⟩
            refine DL_done ?_
            refine WL_step rfl rfl (Exec.store_box (ds := [Value.int .i64 (IntKind.i64.wrap (a139.States * b146.States)), Value.int .i64 (IntKind.i64.wrap ((IntKind.i64.wrap (a139.Init * b146.States)) + b146.Init)), v8831, Value.slice none 0 0, Value.slice none 0 0]) (es := [Value.int .i64 (IntKind.i64.wrap (a139.States * b146.States)), Value.int .i64 (IntKind.i64.wrap ((IntKind.i64.wrap (a139.Init * b146.States)) + b146.Init)), v8831, Value.slice none 0 0, Value.slice none 0 0]) hS8834 A26 rfl rfl rfl rfl (one_cons rfl (one_cons rfl (one_cons ((hS8834).f1).arr_one (one_cons rfl (one_cons rfl one_nil))))) (Nat.le_of_ble_eq_true rfl) rfl ?_)
            intro w8835 hS8836
            refine WL_nil (at_normal ?_)
            have hS8837 := (hS8836).f1
            have hS8838 := (hS8837).f1
            have hS8839 := (hS8838).f4
            have hS8840 := (hS8839).f4
            have hS8841 := (hS8840).f4
            exact ⟨s8828, b8832, v8831, l8829, hS8841, p8768, p8769, p8770, rfl⟩
          refine DL_e rfl rfl (Exec.alloc (cs := [Value.int .i64 (0), Value.int .i64 (0), Value.slice none 0 0, Value.slice none 0 0, Value.slice none 0 0]) hS8826 Z26 rfl rfl ?_)
          intro b8842 w8843 hS8844
          refine ⟨(ag_cons (ag_r rfl rfl (Exec.field F26_0 rfl p8768 rfl ⟨rfl, rfl⟩)) (ag_cons (ag_r rfl rfl (Exec.load_box ((hS8844).f1) A3 rfl rfl rfl ⟨rfl, rfl⟩)) (ag_cons (ag_r rfl rfl (Exec.field F26_0 rfl p8769 rfl ⟨rfl, rfl⟩)) (ag_cons (ag_r rfl rfl (Exec.load_box ((hS8844).f2) A3 rfl rfl rfl ⟨rfl, rfl⟩)) (ag_cons (ag_r rfl rfl (Exec.mul rfl rfl rfl ⟨rfl, rfl⟩)) (ag_cons (ag_r rfl rfl (Exec.field F26_1 rfl p8768 rfl ⟨rfl, rfl⟩)) (ag_cons (ag_r rfl rfl (Exec.load_box ((hS8844).f1) A3 rfl rfl rfl ⟨rfl, rfl⟩)) (ag_cons (ag_r rfl rfl (Exec.field F26_0 rfl p8769 rfl ⟨rfl, rfl⟩)) (ag_cons (ag_r rfl rfl (Exec.load_box ((hS8844).f2) A3 rfl rfl rfl ⟨rfl, rfl⟩)) (ag_cons (ag_r rfl rfl (Exec.mul rfl rfl rfl ⟨rfl, rfl⟩)) (ag_cons (ag_r rfl rfl (Exec.field F26_1 rfl p8769 rfl ⟨rfl, rfl⟩)) (ag_cons (ag_r rfl rfl (Exec.load_box ((hS8844).f2) A3 rfl rfl rfl ⟨rfl, rfl⟩)) (ag_cons (ag_r rfl rfl (Exec.add rfl rfl rfl ⟨rfl, rfl⟩)) (ag_cons (ag_r rfl rfl (Exec.field F26_2 rfl p8768 rfl ⟨rfl, rfl⟩)) (ag_cons (ag_r rfl rfl (Exec.load_box ((hS8844).f1) A22 rfl rfl rfl ⟨rfl, rfl⟩)) ag_nil))))))))))))))), ?_⟩
          refine DL_e rfl rfl (Exec.call rfl rfl Try.func36 rfl N36 (args_cons rfl args_nil) ((slices_Clone___int_int__sim q8798 hS8844 (a141.mono l8766)).mono ?_))
          rintro _ w8845 ⟨v8849, rfl, ⟨s8846, _, l8847, hS8848, rfl⟩⟩
          refine ⟨_, rfl, ?_⟩
          refine ⟨(ag_cons (ag_r rfl rfl (Exec.field F26_0 rfl p8768 rfl ⟨rfl, rfl⟩)) (ag_cons (ag_r rfl rfl (Exec.load_box ((hS8848).f2) A3 rfl rfl rfl ⟨rfl, rfl⟩)) (ag_cons (ag_r rfl rfl (Exec.field F26_0 rfl p8769 rfl ⟨rfl, rfl⟩)) (ag_cons (ag_r rfl rfl (Exec.load_box ((hS8848).f3) A3 rfl rfl rfl ⟨rfl, rfl⟩)) (ag_cons (ag_r rfl rfl (Exec.mul rfl rfl rfl ⟨rfl, rfl⟩)) (ag_cons (ag_r rfl rfl (Exec.field F26_1 rfl p8768 rfl ⟨rfl, rfl⟩)) (ag_cons (ag_r rfl rfl (Exec.load_box ((hS8848).f2) A3 rfl rfl rfl ⟨rfl, rfl⟩)) (ag_cons (ag_r rfl rfl (Exec.field F26_0 rfl p8769 rfl ⟨rfl, rfl⟩)) (ag_cons (ag_r rfl rfl (Exec.load_box ((hS8848).f3) A3 rfl rfl rfl ⟨rfl, rfl⟩)) (ag_cons (ag_r rfl rfl (Exec.mul rfl rfl rfl ⟨rfl, rfl⟩)) (ag_cons (ag_r rfl rfl (Exec.field F26_1 rfl p8769 rfl ⟨rfl, rfl⟩)) (ag_cons (ag_r rfl rfl (Exec.load_box ((hS8848).f3) A3 rfl rfl rfl ⟨rfl, rfl⟩)) (ag_cons (ag_r rfl rfl (Exec.add rfl rfl rfl ⟨rfl, rfl⟩)) ag_nil))))))))))))), ?_⟩
          refine DL_q rfl rfl (Exec.build rfl (parts_cons (c := [Value.int .i64 (IntKind.i64.wrap (a139.States * b146.States))]) (cells_of rfl rfl) (parts_cons (c := [Value.int .i64 (IntKind.i64.wrap ((IntKind.i64.wrap (a139.Init * b146.States)) + b146.Init))]) (cells_of rfl rfl) (parts_cons (c := [v8849]) (cells_of rfl (cells_one (hS8848).arr_one)) parts_nil))) (v := Value.agg #[Value.int .i64 (IntKind.i64.wrap (a139.States * b146.States)), Value.int .i64 (IntKind.i64.wrap ((IntKind.i64.wrap (a139.Init * b146.States)) + b146.Init)), v8849, Value.slice none 0 0, Value.slice none 0 0]) (fun _ => by kernel_rfl) ⟨rfl, ?_⟩)
          refine DL_done ?_
          have hS8850 := (hS8848).f1
          refine WL_step rfl rfl (Exec.store_box (ds := [Value.int .i64 (IntKind.i64.wrap (a139.States * b146.States)), Value.int .i64 (IntKind.i64.wrap ((IntKind.i64.wrap (a139.Init * b146.States)) + b146.Init)), v8849, Value.slice none 0 0, Value.slice none 0 0]) (es := [Value.int .i64 (IntKind.i64.wrap (a139.States * b146.States)), Value.int .i64 (IntKind.i64.wrap ((IntKind.i64.wrap (a139.Init * b146.States)) + b146.Init)), v8849, Value.slice none 0 0, Value.slice none 0 0]) hS8850 A26 rfl rfl rfl rfl (one_cons rfl (one_cons rfl (one_cons ((hS8850).f1).arr_one (one_cons rfl (one_cons rfl one_nil))))) (Nat.le_of_ble_eq_true rfl) rfl ?_)
          intro w8851 hS8852
          refine WL_nil (at_normal ?_)
          have hS8853 := (hS8852).f1
          have hS8854 := (hS8853).f1
          have hS8855 := (hS8854).f4
          have hS8856 := (hS8855).f4
          have hS8857 := (hS8856).f4
          exact ⟨s8846, b8842, v8849, l8847, hS8857, p8768, p8769, p8770, rfl⟩
        · intro f8858 w8859 hM8860
          obtain ⟨s8861, b8822, v8824, l8862, hS8863, p8864, p8865, p8866, p8867⟩ := hM8860
          refine (at_normal ?_)
          refine W_seq ?_
          refine W_seq ?_
          refine W_region ?_
          refine WL_step rfl rfl (Exec.field F26_0 rfl p8864 rfl ?_)
          refine WL_step rfl rfl (Exec.load_box (hS8863) A3 rfl rfl rfl ?_)
          refine WL_step rfl rfl (Exec.move (v := Value.int .i64 (0)) rfl rfl ?_)
          refine WL_nil (at_normal ?_)
          obtain ⟨u8868, q8869, hm⟩ := bind_some hm
          obtain ⟨z9549, hB10215, hm⟩ := bind_some hm
          refine W_block (W_forS (fun k' s' f' w' => (fun (z9549 : (List Bool)) => ∃ (s10216 : PHeap) (v9550 : Value), PHeap.le s8861 s10216 ∧ St w0 s10216 (Res.box b8695 26 [Value.int .i64 (a139.States), Value.int .i64 (a139.Init), v140, v142, v144] :: Res.box b8698 26 [Value.int .i64 (b146.States), Value.int .i64 (b146.Init), v147, v149, v151] :: Res.box b8701 26 [Value.int .i64 (0), Value.int .i64 (0), Value.slice none 0 0, Value.slice none 0 0, Value.slice none 0 0] :: Res.box b8822 26 [Value.int .i64 (IntKind.i64.wrap (a139.States * b146.States)), Value.int .i64 (IntKind.i64.wrap ((IntKind.i64.wrap (a139.Init * b146.States)) + b146.Init)), v8824, Value.slice none 0 0, v9550] :: Res.arr (encInt .i64) 3 v8824 y8799 :: Res.arr encBool 4 v9550 z9549 :: H) w' ∧ f' 2 = Value.pointer (some ⟨b8695, 0, none⟩) ∧ f' 3 = Value.pointer (some ⟨b8698, 0, none⟩) ∧ f' 4 = Value.pointer (some ⟨b8701, 0, none⟩) ∧ f' 6 = Value.pointer (some ⟨b8822, 0, none⟩) ∧ f' 62 = Value.int .i64 (a139.States) ∧ f' 63 = Value.int .i64 (k' : Int)) s') hB10215 ?_ ?_ ?_)
          · have hS10217 := hS8863.nilArr encBool 4
            have hS10218 := (hS10217).f5
            have hS10219 := (hS10218).f5
            have hS10220 := (hS10219).f5
            have hS10221 := (hS10220).f5
            have hS10222 := (hS10221).f5
            exact ⟨s8861, (Value.slice none 0 0), (PHeap.le_refl _), hS10222, p8864, p8865, p8866, p8867, rfl, rfl⟩
          · intro i8870 z9549 s10224 f10225 w10226 hi10227 hI10228 hm10229
            obtain ⟨s10230, v9550, l10231, hS10232, p10233, p10234, p10235, p10236, p10237, x10238⟩ := hI10228
            refine W_seq ?_
            refine W_region ?_
            refine WL_step rfl rfl (Exec.lss rfl x10238 p10237 ?_)
            refine WL_nil (at_normal ?_)
            refine W_seq ?_
            refine W_true (congrArg Value.bool (decide_eq_true (by omega))) ?_
            refine W_skip (at_normal ?_)
            refine W_seq ?_
            refine W_block ?_
            refine W_seq ?_
            refine W_region ?_
            refine WL_step rfl rfl (Exec.move (v := Value.int .i64 ((i8870 : Int))) rfl x10238 ?_)
            refine WL_step rfl rfl (Exec.assign (v := Value.int .i64 ((i8870 : Int))) rfl rfl ?_)
            refine WL_nil (at_normal ?_)
            refine W_seq ?_
            refine W_region ?_
            refine WL_step rfl rfl (Exec.field F26_0 rfl p10234 rfl ?_)
            refine WL_step rfl rfl (Exec.load_box ((hS10232).f1) A3 rfl rfl rfl ?_)
            refine WL_step rfl rfl (Exec.move (v := Value.int .i64 (0)) rfl rfl ?_)
            refine WL_nil (at_normal ?_)
            obtain ⟨u10239, q10240, hm10229⟩ := bind_some hm10229
            obtain ⟨l10444, hB10650, hm10229⟩ := bind_some hm10229
            refine W_block (W_forS (fun k' s' f' w' => (fun (l10444 : (List Bool)) => ∃ (s10651 : PHeap) (v10445 : Value), PHeap.le s10230 s10651 ∧ St w0 s10651 (Res.box b8695 26 [Value.int .i64 (a139.States), Value.int .i64 (a139.Init), v140, v142, v144] :: Res.box b8698 26 [Value.int .i64 (b146.States), Value.int .i64 (b146.Init), v147, v149, v151] :: Res.box b8701 26 [Value.int .i64 (0), Value.int .i64 (0), Value.slice none 0 0, Value.slice none 0 0, Value.slice none 0 0] :: Res.box b8822 26 [Value.int .i64 (IntKind.i64.wrap (a139.States * b146.States)), Value.int .i64 (IntKind.i64.wrap ((IntKind.i64.wrap (a139.Init * b146.States)) + b146.Init)), v8824, Value.slice none 0 0, v10445] :: Res.arr (encInt .i64) 3 v8824 y8799 :: Res.arr encBool 4 v10445 l10444 :: H) w' ∧ f' 2 = Value.pointer (some ⟨b8695, 0, none⟩) ∧ f' 3 = Value.pointer (some ⟨b8698, 0, none⟩) ∧ f' 4 = Value.pointer (some ⟨b8701, 0, none⟩) ∧ f' 6 = Value.pointer (some ⟨b8822, 0, none⟩) ∧ f' 7 = Value.int .i64 ((i8870 : Int)) ∧ f' 62 = Value.int .i64 (a139.States) ∧ f' 63 = Value.int .i64 ((i8870 : Int)) ∧ f' 67 = Value.int .i64 (b146.States) ∧ f' 68 = Value.int .i64 (k' : Int)) s') hB10650 ?_ ?_ ?_)
            · have hS10652 := (hS10232).f5
              have hS10653 := (hS10652).f5
              have hS10654 := (hS10653).f5
              have hS10655 := (hS10654).f5
              have hS10656 := (hS10655).f5
              have hS10657 := (hS10656).f5
              exact ⟨s10230, v9550, (PHeap.le_refl _), hS10657, p10233, p10234, p10235, p10236, rfl, p10237, x10238, rfl, rfl⟩
            · intro i10241 l10444 s10659 f10660 w10661 hi10662 hI10663 hm10664
              obtain ⟨s10665, v10445, l10666, hS10667, p10668, p10669, p10670, p10671, p10672, p10673, p10674, p10675, x10676⟩ := hI10663
              refine W_seq ?_
              refine W_region ?_
              refine WL_step rfl rfl (Exec.lss rfl x10676 p10675 ?_)
              refine WL_nil (at_normal ?_)
              refine W_seq ?_
              refine W_true (congrArg Value.bool (decide_eq_true (by omega))) ?_
              refine W_skip (at_normal ?_)
              refine W_seq ?_
              refine W_block ?_
              refine W_seq ?_
              refine W_region ?_
              refine WL_step rfl rfl (Exec.move (v := Value.int .i64 ((i10241 : Int))) rfl x10676 ?_)
              refine WL_step rfl rfl (Exec.assign (v := Value.int .i64 ((i10241 : Int))) rfl rfl ?_)
              refine WL_nil (at_normal ?_)
              obtain ⟨l10761, ht10763, hm10664⟩ := bind_some hm10664
              refine W_mid (M := fun f' w' => (fun (l10761 : (List Bool)) => ∃ (s10764 : PHeap) (v10762 : Value), PHeap.le s10665 s10764 ∧ St w0 s10764 (Res.box b8695 26 [Value.int .i64 (a139.States), Value.int .i64 (a139.Init), v140, v142, v144] :: Res.box b8698 26 [Value.int .i64 (b146.States), Value.int .i64 (b146.Init), v147, v149, v151] :: Res.box b8701 26 [Value.int .i64 (0), Value.int .i64 (0), Value.slice none 0 0, Value.slice none 0 0, Value.slice none 0 0] :: Res.box b8822 26 [Value.int .i64 (IntKind.i64.wrap (a139.States * b146.States)), Value.int .i64 (IntKind.i64.wrap ((IntKind.i64.wrap (a139.Init * b146.States)) + b146.Init)), v8824, Value.slice none 0 0, v10762] :: Res.arr (encInt .i64) 3 v8824 y8799 :: Res.arr encBool 4 v10762 l10761 :: H) w' ∧ f' 2 = Value.pointer (some ⟨b8695, 0, none⟩) ∧ f' 3 = Value.pointer (some ⟨b8698, 0, none⟩) ∧ f' 4 = Value.pointer (some ⟨b8701, 0, none⟩) ∧ f' 6 = Value.pointer (some ⟨b8822, 0, none⟩) ∧ f' 7 = Value.int .i64 ((i8870 : Int)) ∧ f' 62 = Value.int .i64 (a139.States) ∧ f' 63 = Value.int .i64 ((i8870 : Int)) ∧ f' 67 = Value.int .i64 (b146.States) ∧ f' 68 = Value.int .i64 ((i10241 : Int))) l10761) ?_ ?_
              · refine W_dl (n0 := 16) (.q 0 (.q 1 (.q 2 (.q 3 (.q 4 (.q 5 (.q 6 (.q 7 (.q 8 (.q 9 (.q 10 (.q 11 (.q 12 (.q 13 (.e 14 [0, 1] (.e 15 [] .done)))))))))))))))) hmix (by kernel_rfl) (by kernel_rfl) ?_
                have hS10807 := hS10667.drew
                refine DL_q rfl rfl (Exec.field F26_4 rfl p10671 rfl ⟨rfl, ?_⟩)
                refine DL_q rfl rfl (Exec.load_box ((hS10807).f3) A24 rfl rfl rfl ⟨rfl, ?_⟩)
                refine DL_q rfl rfl (Exec.field F26_4 rfl p10668 rfl ⟨rfl, ?_⟩)
                refine DL_q rfl rfl (Exec.load_box (hS10807) A24 rfl rfl rfl ⟨rfl, ?_⟩)
                refine DL_q rfl rfl (Exec.move (v := Value.int .i64 ((i8870 : Int))) rfl p10672 ⟨rfl, ?_⟩)
                obtain ⟨x10808, q10809, ht10763⟩ := bind_some ht10763
                refine DL_q rfl rfl (Exec.index_repE S24 rfl rfl rfl (a145.mono (PHeap.le.trans (PHeap.le.trans (PHeap.le.trans l8766 l8862) l10231) l10666)) q10809 ?_)
                intro b10810 o10811 a10812 e10813
                refine ⟨rfl, ?_⟩
                refine DL_q rfl rfl (Exec.load_at (E := encBool) hS10807 A4 rfl rfl rfl a10812 ?_)
                intro v10814 q10815
                obtain rfl := encBool_val.1 q10815
                refine ⟨rfl, ?_⟩
                refine DL_q rfl rfl (Exec.move (v := Value.bool (x10808)) rfl rfl ⟨rfl, ?_⟩)
                rcases ite_some ht10763 with ⟨hc10816, ht10763⟩ | ⟨hc10816, ht10763⟩
                · refine DL_qg rfl rfl (yield_of rfl (congrArg Value.bool hc10816)) (Exec.field F26_4 rfl p10669 rfl ⟨rfl, ?_⟩)
                  refine DL_qg rfl rfl (yield_of rfl (congrArg Value.bool hc10816)) (Exec.load_box ((hS10807).f1) A24 rfl rfl rfl ⟨rfl, ?_⟩)
                  refine DL_qg rfl rfl (yield_of rfl (congrArg Value.bool hc10816)) (Exec.move (v := Value.int .i64 ((i10241 : Int))) rfl rfl ⟨rfl, ?_⟩)
                  obtain ⟨x10817, q10818, ht10763⟩ := bind_some ht10763
                  refine DL_qg rfl rfl (yield_of rfl (congrArg Value.bool hc10816)) (Exec.index_repE S24 rfl rfl rfl (a152.mono (PHeap.le.trans (PHeap.le.trans (PHeap.le.trans l8766 l8862) l10231) l10666)) q10818 ?_)
                  intro b10819 o10820 a10821 e10822
                  refine ⟨rfl, ?_⟩
                  refine DL_qg rfl rfl (yield_of rfl (congrArg Value.bool hc10816)) (Exec.load_at (E := encBool) hS10807 A4 rfl rfl rfl a10821 ?_)
                  intro v10823 q10824
                  obtain rfl := encBool_val.1 q10824
                  refine ⟨rfl, ?_⟩
                  refine DL_q rfl rfl (Exec.pick_t (v := Value.bool (x10817)) rfl (congrArg Value.bool hc10816) rfl ⟨rfl, ?_⟩)
                  refine DL_e rfl rfl (Exec.buildSlice (Te := 4) (cs := [Value.bool (x10817)]) hS10807 rfl (parts_cons (c := [Value.bool (x10817)]) (cells_of rfl rfl) parts_nil) (fun _ => by kernel_rfl) ?_)
                  intro b10825 w10826 hS10827
                  refine ⟨(ag_cons (ag_r rfl rfl (Exec.field F26_4 rfl p10671 rfl ⟨rfl, rfl⟩)) (ag_cons (ag_r rfl rfl (Exec.load_box ((hS10827).f4) A24 rfl rfl rfl ⟨rfl, rfl⟩)) ag_nil)), ?_⟩
                  obtain ⟨l10828, q10829, ht10763⟩ := bind_some ht10763
                  have hS10830 := (hS10827).f6
                  refine DL_e rfl rfl (Exec.append_box (E := encBool) (ys := [x10817]) hS10830 S24 Z4 rfl (by decide) rfl rfl rfl rfl ⟨[Value.bool (x10817)], [], rfl, rfl, rfl⟩ rfl q10829 ?_)
                  intro v10831 w10832 hS10833
                  refine ⟨ag_nil, ?_⟩
                  refine DL_done ?_
                  refine WL_step rfl rfl (Exec.field F26_4 rfl p10671 rfl ?_)
                  have hS10834 := (hS10833).f4
                  refine WL_step rfl rfl (Exec.store_box (ds := [v10831]) (es := [Value.int .i64 (IntKind.i64.wrap (a139.States * b146.States)), Value.int .i64 (IntKind.i64.wrap ((IntKind.i64.wrap (a139.Init * b146.States)) + b146.Init)), v8824, Value.slice none 0 0, v10831]) hS10834 A24 rfl rfl rfl (cells_one ((hS10834).f1).arr_one) (one_cons ((hS10834).f1).arr_one one_nil) (Nat.le_of_ble_eq_true rfl) rfl ?_)
                  intro w10835 hS10836
                  refine WL_nil (at_normal ?_)
                  have e10837 := Option.some.inj ht10763
                  subst l10761
                  have hS10838 := (hS10836).f1
                  have hS10839 := (hS10838).f5
                  have hS10840 := (hS10839).f2
                  have hS10841 := (hS10840).f5
                  have hS10842 := (hS10841).f5
                  have hS10843 := (hS10842).f5
                  exact ⟨s10665, v10831, (PHeap.le_refl _), hS10843, p10668, p10669, p10670, p10671, p10672, p10673, p10674, p10675, x10676⟩
                · replace hc10816 := not_true hc10816
                  refine DL_qp rfl rfl (yield_of rfl (congrArg Value.bool hc10816)) rfl ?_
                  refine DL_qp rfl rfl (yield_of rfl (congrArg Value.bool hc10816)) rfl ?_
                  refine DL_qp rfl rfl (yield_of rfl (congrArg Value.bool hc10816)) rfl ?_
                  refine DL_qp rfl rfl (yield_of rfl (congrArg Value.bool hc10816)) rfl ?_
                  refine DL_qp rfl rfl (yield_of rfl (congrArg Value.bool hc10816)) rfl ?_
                  refine DL_q rfl rfl (Exec.pick_f (v := Value.bool (false)) rfl (congrArg Value.bool hc10816) rfl ⟨rfl, ?_⟩)
                  refine DL_e rfl rfl (Exec.buildSlice (Te := 4) (cs := [Value.bool (false)]) hS10807 rfl (parts_cons (c := [Value.bool (false)]) (cells_of rfl rfl) parts_nil) (fun _ => by kernel_rfl) ?_)
                  intro b10844 w10845 hS10846
                  refine ⟨(ag_cons (ag_r rfl rfl (Exec.field F26_4 rfl p10671 rfl ⟨rfl, rfl⟩)) (ag_cons (ag_r rfl rfl (Exec.load_box ((hS10846).f4) A24 rfl rfl rfl ⟨rfl, rfl⟩)) ag_nil)), ?_⟩
                  obtain ⟨l10847, q10848, ht10763⟩ := bind_some ht10763
                  have hS10849 := (hS10846).f6
                  refine DL_e rfl rfl (Exec.append_box (E := encBool) (ys := [false]) hS10849 S24 Z4 rfl (by decide) rfl rfl rfl rfl ⟨[Value.bool (false)], [], rfl, rfl, rfl⟩ rfl q10848 ?_)
                  intro v10850 w10851 hS10852
                  refine ⟨ag_nil, ?_⟩
                  refine DL_done ?_
                  refine WL_step rfl rfl (Exec.field F26_4 rfl p10671 rfl ?_)
                  have hS10853 := (hS10852).f4
                  refine WL_step rfl rfl (Exec.store_box (ds := [v10850]) (es := [Value.int .i64 (IntKind.i64.wrap (a139.States * b146.States)), Value.int .i64 (IntKind.i64.wrap ((IntKind.i64.wrap (a139.Init * b146.States)) + b146.Init)), v8824, Value.slice none 0 0, v10850]) hS10853 A24 rfl rfl rfl (cells_one ((hS10853).f1).arr_one) (one_cons ((hS10853).f1).arr_one one_nil) (Nat.le_of_ble_eq_true rfl) rfl ?_)
                  intro w10854 hS10855
                  refine WL_nil (at_normal ?_)
                  have e10856 := Option.some.inj ht10763
                  subst l10761
                  have hS10857 := (hS10855).f1
                  have hS10858 := (hS10857).f5
                  have hS10859 := (hS10858).f2
                  have hS10860 := (hS10859).f5
                  have hS10861 := (hS10860).f5
                  have hS10862 := (hS10861).f5
                  exact ⟨s10665, v10850, (PHeap.le_refl _), hS10862, p10668, p10669, p10670, p10671, p10672, p10673, p10674, p10675, x10676⟩
              · intro f10863 w10864 hM10865
                obtain ⟨s10866, v10762, l10867, hS10868, p10869, p10870, p10871, p10872, p10873, p10874, p10875, p10876, p10877⟩ := hM10865
                refine (ib_normal (at_normal ?_))
                refine W_region ?_
                refine WL_step rfl rfl (Exec.add rfl p10877 rfl ?_)
                refine WL_step rfl rfl (Exec.move (v := Value.int .i64 (IntKind.i64.wrap ((i10241 : Int) + 1))) rfl rfl ?_)
                refine WL_nil (at_normal ?_)
                have e10878 := Option.some.inj hm10664
                subst s10659
                have hS10879 := (hS10868).f5
                have hS10880 := (hS10879).f5
                have hS10881 := (hS10880).f5
                have hS10882 := (hS10881).f5
                have hS10883 := (hS10882).f5
                have hS10884 := (hS10883).f5
                exact ⟨s10866, v10762, (PHeap.le.trans l10666 l10867), hS10884, p10869, p10870, p10871, p10872, p10873, p10874, p10875, p10876, (Eq.trans rfl (wrap_up hi10662 (by have h := must_some q10240; simp at h; simp only [maxLen]; omega)))⟩
            · intro f10885 w10886 hI10887
              obtain ⟨s10888, v10445, l10889, hS10890, p10891, p10892, p10893, p10894, p10895, p10896, p10897, p10898, x10899⟩ := hI10887
              refine W_seq ?_
              refine W_region ?_
              refine WL_step rfl rfl (Exec.lss rfl x10899 p10898 ?_)
              refine WL_nil (at_normal ?_)
              refine W_seq ?_
              refine W_false (congrArg Value.bool (decide_eq_false (by omega))) ?_
              refine W_exit (at_exit (at_exit (ib_here (ib_normal (at_normal ?_)))))
              refine W_region ?_
              refine WL_step rfl rfl (Exec.add rfl p10897 rfl ?_)
              refine WL_step rfl rfl (Exec.move (v := Value.int .i64 (IntKind.i64.wrap ((i8870 : Int) + 1))) rfl rfl ?_)
              refine WL_nil (at_normal ?_)
              have e10900 := Option.some.inj hm10229
              subst s10224
              have hS10901 := (hS10890).f5
              have hS10902 := (hS10901).f5
              have hS10903 := (hS10902).f5
              have hS10904 := (hS10903).f5
              have hS10905 := (hS10904).f5
              have hS10906 := (hS10905).f5
              exact ⟨s10888, v10445, (PHeap.le.trans l10231 l10889), hS10906, p10891, p10892, p10893, p10894, p10896, (Eq.trans rfl (wrap_up hi10227 (by have h := must_some q8869; simp at h; simp only [maxLen]; omega)))⟩
          · intro f10907 w10908 hI10909
            obtain ⟨s10910, v9550, l10911, hS10912, p10913, p10914, p10915, p10916, p10917, x10918⟩ := hI10909
            refine W_seq ?_
            refine W_region ?_
            refine WL_step rfl rfl (Exec.lss rfl x10918 p10917 ?_)
            refine WL_nil (at_normal ?_)
            refine W_seq ?_
            refine W_false (congrArg Value.bool (decide_eq_false (by omega))) ?_
            refine W_exit (at_exit (at_exit (ib_here (at_normal ?_))))
            refine W_seq ?_
            refine W_dl (n0 := 5) (.q 0 (.q 2 (.e 1 [2] (.e 3 [] (.q 4 .done))))) hmix (by kernel_rfl) (by kernel_rfl) ?_
            have hS10976 := hS10912.drew
            refine DL_q rfl rfl (Exec.load_box_agg (ds := [Value.int .i64 (a139.States), Value.int .i64 (a139.Init), v140, v142, v144]) (hS10976) A26 rfl p10913 rfl ⟨rfl, ?_⟩)
            refine DL_q rfl rfl (Exec.load_box_agg (ds := [Value.int .i64 (b146.States), Value.int .i64 (b146.Init), v147, v149, v151]) ((hS10976).f1) A26 rfl p10914 rfl ⟨rfl, ?_⟩)
            obtain ⟨y10979, q10978, hm⟩ := bind_some hm
            refine DL_e rfl rfl (Exec.call rfl rfl Try.func37 rfl N37 (args_cons rfl args_nil) ((transys_labelled_sim q10978 hS10976 (a141.mono (PHeap.le.trans (PHeap.le.trans l8766 l8862) l10911)) (a143.mono (PHeap.le.trans (PHeap.le.trans l8766 l8862) l10911)) (a145.mono (PHeap.le.trans (PHeap.le.trans l8766 l8862) l10911))).mono ?_))
            rintro _ w10980 ⟨v10984, rfl, ⟨s10981, _, l10982, hS10983, rfl, r10985⟩⟩
            refine ⟨_, rfl, ?_⟩
            refine ⟨(ag_cons (ag_r rfl rfl (Exec.load_box_agg (ds := [Value.int .i64 (b146.States), Value.int .i64 (b146.Init), v147, v149, v151]) ((hS10983).f1) A26 rfl p10914 rfl ⟨rfl, rfl⟩)) ag_nil), ?_⟩
            obtain ⟨y10988, q10987, hm⟩ := bind_some hm
            refine DL_e rfl rfl (Exec.call rfl rfl Try.func37 rfl N37 (args_cons rfl args_nil) ((transys_labelled_sim q10987 hS10983 (a148.mono (PHeap.le.trans (PHeap.le.trans (PHeap.le.trans l8766 l8862) l10911) l10982)) (a150.mono (PHeap.le.trans (PHeap.le.trans (PHeap.le.trans l8766 l8862) l10911) l10982)) (a152.mono (PHeap.le.trans (PHeap.le.trans (PHeap.le.trans l8766 l8862) l10911) l10982))).mono ?_))
            rintro _ w10989 ⟨v10993, rfl, ⟨s10990, _, l10991, hS10992, rfl, r10994⟩⟩
            refine ⟨_, rfl, ?_⟩
            refine ⟨ag_nil, ?_⟩
            refine DL_q rfl rfl (Exec.assign (v := v10984) rfl rfl ⟨rfl, ?_⟩)
            refine DL_done ?_
            refine WL_step rfl rfl (Exec.assign (v := v10993) rfl rfl ?_)
            refine WL_nil (at_normal ?_)
            refine W_seq ?_
            refine W_region ?_
            refine WL_step rfl rfl (Exec.assign (v := Value.int .i64 (0)) rfl rfl ?_)
            refine WL_nil (at_normal ?_)
            refine W_seq ?_
            refine W_seq ?_
            refine W_region ?_
            refine WL_step rfl rfl (Exec.move (v := v10984) rfl rfl ?_)
            refine WL_step rfl rfl (Exec.len_rep S63 rfl rfl (r10985.mono l10991) ?_)
            refine WL_step rfl rfl (Exec.move (v := Value.int .i64 (0)) rfl rfl ?_)
            refine WL_nil (at_normal ?_)
            obtain ⟨many11073, hB11152, hm⟩ := bind_some hm
            refine W_block (W_forS (fun k' s' f' w' => (fun (many11073 : Int) => ∃ (s11153 : PHeap) , PHeap.le s10990 s11153 ∧ St w0 s11153 (Res.box b8698 26 [Value.int .i64 (b146.States), Value.int .i64 (b146.Init), v147, v149, v151] :: Res.box b8701 26 [Value.int .i64 (0), Value.int .i64 (0), Value.slice none 0 0, Value.slice none 0 0, Value.slice none 0 0] :: Res.box b8822 26 [Value.int .i64 (IntKind.i64.wrap (a139.States * b146.States)), Value.int .i64 (IntKind.i64.wrap ((IntKind.i64.wrap (a139.Init * b146.States)) + b146.Init)), v8824, Value.slice none 0 0, v9550] :: Res.arr (encInt .i64) 3 v8824 y8799 :: Res.arr encBool 4 v9550 z9549 :: H) w' ∧ f' 3 = Value.pointer (some ⟨b8698, 0, none⟩) ∧ f' 4 = Value.pointer (some ⟨b8701, 0, none⟩) ∧ f' 6 = Value.pointer (some ⟨b8822, 0, none⟩) ∧ f' 9 = v10984 ∧ f' 10 = v10993 ∧ f' 11 = Value.int .i64 (many11073) ∧ f' 95 = Value.int .i64 ((y10979.length : Int)) ∧ f' 96 = Value.int .i64 (k' : Int)) s') hB11152 ?_ ?_ ?_)
            · have hS11154 := (hS10992).drop
              have hS11155 := (hS11154).f4
              have hS11156 := (hS11155).f4
              have hS11157 := (hS11156).f4
              have hS11158 := (hS11157).f4
              have hS11159 := (hS11158).f4
              exact ⟨s10990, (PHeap.le_refl _), hS11159, p10914, p10915, p10916, rfl, rfl, rfl, rfl, rfl⟩
            · intro i10995 many11073 s11161 f11162 w11163 hi11164 hI11165 hm11166
              obtain ⟨s11167, l11168, hS11169, p11170, p11171, p11172, p11173, p11174, p11175, p11176, x11177⟩ := hI11165
              refine W_seq ?_
              refine W_region ?_
              refine WL_step rfl rfl (Exec.lss rfl x11177 p11176 ?_)
              refine WL_nil (at_normal ?_)
              refine W_seq ?_
              refine W_true (congrArg Value.bool (decide_eq_true (by omega))) ?_
              refine W_skip (at_normal ?_)
              refine W_seq ?_
              refine W_block ?_
              refine W_seq ?_
              refine W_region ?_
              refine WL_step rfl rfl (Exec.move (v := Value.int .i64 ((i10995 : Int))) rfl x11177 ?_)
              refine WL_step rfl rfl (Exec.assign (v := Value.int .i64 ((i10995 : Int))) rfl rfl ?_)
              refine WL_nil (at_normal ?_)
              refine W_dl (n0 := 13) (.q 0 (.q 1 (.q 2 (.q 3 (.q 4 (.q 5 (.q 6 (.q 7 (.q 8 (.q 9 (.q 10 (.q 11 (.q 12 .done))))))))))))) hmix (by kernel_rfl) (by kernel_rfl) ?_
              have hS11235 := hS11169.drew
              refine DL_q rfl rfl (Exec.move (v := Value.int .i64 (many11073)) rfl p11175 ⟨rfl, ?_⟩)
              refine DL_q rfl rfl (Exec.move (v := v10984) rfl p11173 ⟨rfl, ?_⟩)
              refine DL_q rfl rfl (Exec.move (v := Value.int .i64 ((i10995 : Int))) rfl rfl ⟨rfl, ?_⟩)
              obtain ⟨x11236, q11237, hm11166⟩ := bind_some hm11166
              refine DL_q rfl rfl (Exec.index_repE S63 rfl rfl rfl (r10985.mono (PHeap.le.trans l10991 l11168)) q11237 ?_)
              intro b11238 o11239 a11240 e11241
              refine ⟨rfl, ?_⟩
              refine DL_q rfl rfl (Exec.load_at (E := (encSlice encEdge)) hS11235 A23 rfl rfl rfl a11240 ?_)
              intro v11242 q11243
              have r11244 := encSlice_val.1 q11243
              refine ⟨rfl, ?_⟩
              refine DL_q rfl rfl (Exec.len_rep S23 rfl rfl r11244 ⟨rfl, ?_⟩)
              refine DL_q rfl rfl (Exec.move (v := v10993) rfl p11174 ⟨rfl, ?_⟩)
              refine DL_q rfl rfl (Exec.move (v := Value.int .i64 ((i10995 : Int))) rfl rfl ⟨rfl, ?_⟩)
              obtain ⟨x11245, q11246, hm11166⟩ := bind_some hm11166
              refine DL_q rfl rfl (Exec.index_repE S63 rfl rfl rfl (r10994.mono l11168) q11246 ?_)
              intro b11247 o11248 a11249 e11250
              refine ⟨rfl, ?_⟩
              refine DL_q rfl rfl (Exec.load_at (E := (encSlice encEdge)) hS11235 A23 rfl rfl rfl a11249 ?_)
              intro v11251 q11252
              have r11253 := encSlice_val.1 q11252
              refine ⟨rfl, ?_⟩
              refine DL_q rfl rfl (Exec.len_rep S23 rfl rfl r11253 ⟨rfl, ?_⟩)
              refine DL_q rfl rfl (Exec.mul rfl rfl rfl ⟨rfl, ?_⟩)
              refine DL_q rfl rfl (Exec.add rfl rfl rfl ⟨rfl, ?_⟩)
              refine DL_done ?_
              refine WL_step rfl rfl (Exec.assign (v := Value.int .i64 (IntKind.i64.wrap (many11073 + (IntKind.i64.wrap ((x11236.length : Int) * (x11245.length : Int)))))) rfl rfl ?_)
              refine WL_nil (ib_normal (at_normal ?_))
              refine W_region ?_
              refine WL_step rfl rfl (Exec.add rfl x11177 rfl ?_)
              refine WL_step rfl rfl (Exec.move (v := Value.int .i64 (IntKind.i64.wrap ((i10995 : Int) + 1))) rfl rfl ?_)
              refine WL_nil (at_normal ?_)
              have e11254 := Option.some.inj hm11166
              subst s11161
              have hS11255 := (hS11235).f4
              have hS11256 := (hS11255).f4
              have hS11257 := (hS11256).f4
              have hS11258 := (hS11257).f4
              have hS11259 := (hS11258).f4
              exact ⟨s11167, l11168, hS11259, p11170, p11171, p11172, p11173, p11174, rfl, p11176, (Eq.trans rfl (wrap_up hi11164 (SliceRep.le (r10985.mono l10991))))⟩
            · intro f11260 w11261 hI11262
              obtain ⟨s11263, l11264, hS11265, p11266, p11267, p11268, p11269, p11270, p11271, p11272, x11273⟩ := hI11262
              refine W_seq ?_
              refine W_region ?_
              refine WL_step rfl rfl (Exec.lss rfl x11273 p11272 ?_)
              refine WL_nil (at_normal ?_)
              refine W_seq ?_
              refine W_false (congrArg Value.bool (decide_eq_false (by omega))) ?_
              refine W_exit (at_exit (at_exit (ib_here (at_normal ?_))))
              refine W_seq ?_
              refine W_seq ?_
              refine W_region ?_
              refine WL_step rfl rfl (Exec.move (v := Value.int .i64 (many11073)) rfl p11271 ?_)
              refine WL_step rfl rfl (Exec.gtr rfl rfl rfl ?_)
              refine WL_nil (at_normal ?_)
              rcases ite_some hm with ⟨hc11274, hm⟩ | ⟨hc11274, hm⟩
              · refine W_cond_t rfl hc11274 ?_
                refine W_seq ?_
                refine W_region ?_
                refine WL_step rfl rfl (Exec.build rfl parts_nil (v := Value.agg #[Value.int .i64 (0), Value.int .i64 (0), Value.slice none 0 0, Value.slice none 0 0, Value.slice none 0 0]) (fun _ => by kernel_rfl) ?_)
                refine WL_step rfl rfl (Exec.makeInterface C39 rfl rfl ?_)
                have hS11278 := (hS11265).f1
                refine WL_step rfl rfl (Exec.store_box (ds := [Value.int .i64 (0), Value.int .i64 (0), Value.slice none 0 0, Value.slice none 0 0, Value.slice none 0 0]) (es := [Value.int .i64 (0), Value.int .i64 (0), Value.slice none 0 0, Value.slice none 0 0, Value.slice none 0 0]) hS11278 A26 rfl p11267 rfl rfl (one_cons rfl (one_cons rfl (one_cons rfl (one_cons rfl (one_cons rfl one_nil))))) (Nat.le_of_ble_eq_true rfl) rfl ?_)
                intro w11279 hS11280
                refine WL_step rfl rfl (Exec.assign (v := errV 39 (some 5)) rfl rfl ?_)
                refine WL_nil (at_normal ?_)
                refine W_ret (at_ret ?_)
                have e11282 := Option.some.inj hm
                subst r
                refine ⟨_, retG2 rfl ⟨_, _, p11267, cellRes (hS11280) A26⟩ rfl, ?_⟩
                have hS11283 := (hS11280).drop
                have hS11284 := (hS11283).drop
                have hS11285 := (hS11284).drop
                have hS11286 := (hS11285).drop
                have hS11287 := (hS11286).drop
                exact ⟨s11263, (Value.slice none 0 0), (Value.slice none 0 0), (Value.slice none 0 0), (PHeap.le.trans (PHeap.le.trans (PHeap.le.trans (PHeap.le.trans (PHeap.le.trans l8766 l8862) l10911) l10982) l10991) l11264), hS11287, (tup2 rfl rfl), (SliceRep.nil _ _), (SliceRep.nil _ _), (SliceRep.nil _ _)⟩
              · refine W_cond_f rfl hc11274 ?_
                replace hc11274 := not_true hc11274
                refine W_skip (at_normal ?_)
                refine W_seq ?_
                refine W_seq ?_
                refine W_region ?_
                refine WL_step rfl rfl (Exec.move (v := v10984) rfl p11269 ?_)
                refine WL_step rfl rfl (Exec.len_rep S63 rfl rfl (r10985.mono (PHeap.le.trans l10991 l11264)) ?_)
                refine WL_step rfl rfl (Exec.move (v := Value.int .i64 (0)) rfl rfl ?_)
                refine WL_nil (at_normal ?_)
                obtain ⟨z12138, hB12985, hm⟩ := bind_some hm
                refine W_block (W_forS (fun k' s' f' w' => (fun (z12138 : (List Edge)) => ∃ (s12986 : PHeap) (v12139 : Value), PHeap.le s11263 s12986 ∧ St w0 s12986 (Res.box b8698 26 [Value.int .i64 (b146.States), Value.int .i64 (b146.Init), v147, v149, v151] :: Res.box b8701 26 [Value.int .i64 (0), Value.int .i64 (0), Value.slice none 0 0, Value.slice none 0 0, Value.slice none 0 0] :: Res.box b8822 26 [Value.int .i64 (IntKind.i64.wrap (a139.States * b146.States)), Value.int .i64 (IntKind.i64.wrap ((IntKind.i64.wrap (a139.Init * b146.States)) + b146.Init)), v8824, v12139, v9550] :: Res.arr (encInt .i64) 3 v8824 y8799 :: Res.arr encEdge 66 v12139 z12138 :: Res.arr encBool 4 v9550 z9549 :: H) w' ∧ f' 3 = Value.pointer (some ⟨b8698, 0, none⟩) ∧ f' 4 = Value.pointer (some ⟨b8701, 0, none⟩) ∧ f' 6 = Value.pointer (some ⟨b8822, 0, none⟩) ∧ f' 9 = v10984 ∧ f' 10 = v10993 ∧ f' 118 = Value.int .i64 ((y10979.length : Int)) ∧ f' 119 = Value.int .i64 (k' : Int)) s') hB12985 ?_ ?_ ?_)
                · have hS12987 := hS11265.nilArr encEdge 66
                  have hS12988 := (hS12987).f5
                  have hS12989 := (hS12988).f1
                  have hS12990 := (hS12989).f5
                  have hS12991 := (hS12990).f5
                  have hS12992 := (hS12991).f5
                  have hS12993 := (hS12992).f5
                  exact ⟨s11263, (Value.slice none 0 0), (PHeap.le_refl _), hS12993, p11266, p11267, p11268, p11269, p11270, rfl, rfl⟩
                · intro i11288 z12138 s12995 f12996 w12997 hi12998 hI12999 hm13000
                  obtain ⟨s13001, v12139, l13002, hS13003, p13004, p13005, p13006, p13007, p13008, p13009, x13010⟩ := hI12999
                  refine W_seq ?_
                  refine W_region ?_
                  refine WL_step rfl rfl (Exec.lss rfl x13010 p13009 ?_)
                  refine WL_nil (at_normal ?_)
                  refine W_seq ?_
                  refine W_true (congrArg Value.bool (decide_eq_true (by omega))) ?_
                  refine W_skip (at_normal ?_)
                  refine W_seq ?_
                  refine W_block ?_
                  refine W_seq ?_
                  refine W_region ?_
                  refine WL_step rfl rfl (Exec.move (v := Value.int .i64 ((i11288 : Int))) rfl x13010 ?_)
                  refine WL_step rfl rfl (Exec.assign (v := Value.int .i64 ((i11288 : Int))) rfl rfl ?_)
                  refine WL_nil (at_normal ?_)
                  refine W_seq ?_
                  refine W_region ?_
                  refine WL_step rfl rfl (Exec.move (v := v10984) rfl p13007 ?_)
                  refine WL_step rfl rfl (Exec.move (v := Value.int .i64 ((i11288 : Int))) rfl rfl ?_)
                  obtain ⟨x13019, q13020, hm13000⟩ := bind_some hm13000
                  refine WL_step rfl rfl (Exec.index_rep S63 rfl rfl rfl (r10985.mono (PHeap.le.trans (PHeap.le.trans l10991 l11264) l13002)) q13020 ?_)
                  intro b13021 o13022 a13023
                  refine WL_step rfl rfl (Exec.load_at (E := (encSlice encEdge)) hS13003 A23 rfl rfl rfl a13023 ?_)
                  intro v13024 q13025
                  have r13026 := encSlice_val.1 q13025
                  refine WL_step rfl rfl (Exec.len_rep S23 rfl rfl r13026 ?_)
                  refine WL_step rfl rfl (Exec.move (v := Value.int .i64 (0)) rfl rfl ?_)
                  refine WL_nil (at_normal ?_)
                  obtain ⟨l13284, hB13544, hm13000⟩ := bind_some hm13000
                  refine W_block (W_forS (fun k' s' f' w' => (fun (l13284 : (List Edge)) => ∃ (s13545 : PHeap) (v13285 : Value), PHeap.le s13001 s13545 ∧ St w0 s13545 (Res.box b8698 26 [Value.int .i64 (b146.States), Value.int .i64 (b146.Init), v147, v149, v151] :: Res.box b8701 26 [Value.int .i64 (0), Value.int .i64 (0), Value.slice none 0 0, Value.slice none 0 0, Value.slice none 0 0] :: Res.box b8822 26 [Value.int .i64 (IntKind.i64.wrap (a139.States * b146.States)), Value.int .i64 (IntKind.i64.wrap ((IntKind.i64.wrap (a139.Init * b146.States)) + b146.Init)), v8824, v13285, v9550] :: Res.arr (encInt .i64) 3 v8824 y8799 :: Res.arr encEdge 66 v13285 l13284 :: Res.arr encBool 4 v9550 z9549 :: H) w' ∧ f' 3 = Value.pointer (some ⟨b8698, 0, none⟩) ∧ f' 4 = Value.pointer (some ⟨b8701, 0, none⟩) ∧ f' 6 = Value.pointer (some ⟨b8822, 0, none⟩) ∧ f' 9 = v10984 ∧ f' 10 = v10993 ∧ f' 13 = Value.int .i64 ((i11288 : Int)) ∧ f' 118 = Value.int .i64 ((y10979.length : Int)) ∧ f' 119 = Value.int .i64 ((i11288 : Int)) ∧ f' 125 = v13024 ∧ f' 126 = Value.int .i64 ((x13019.length : Int)) ∧ f' 127 = Value.int .i64 (k' : Int)) s') hB13544 ?_ ?_ ?_)
                  · have hS13546 := (hS13003).f5
                    have hS13547 := (hS13546).f5
                    have hS13548 := (hS13547).f5
                    have hS13549 := (hS13548).f5
                    have hS13550 := (hS13549).f5
                    have hS13551 := (hS13550).f5
                    exact ⟨s13001, v12139, (PHeap.le_refl _), hS13551, p13004, p13005, p13006, p13007, p13008, rfl, p13009, x13010, rfl, rfl, rfl⟩
                  · intro i13027 l13284 s13553 f13554 w13555 hi13556 hI13557 hm13558
                    obtain ⟨s13559, v13285, l13560, hS13561, p13562, p13563, p13564, p13565, p13566, p13567, p13568, p13569, p13570, p13571, x13572⟩ := hI13557
                    refine W_seq ?_
                    refine W_region ?_
                    refine WL_step rfl rfl (Exec.lss rfl x13572 p13571 ?_)
                    refine WL_nil (at_normal ?_)
                    refine W_seq ?_
                    refine W_true (congrArg Value.bool (decide_eq_true (by omega))) ?_
                    refine W_skip (at_normal ?_)
                    refine W_seq ?_
                    refine W_block ?_
                    refine W_seq ?_
                    refine W_region ?_
                    obtain ⟨x13585, q13586, hm13558⟩ := bind_some hm13558
                    refine WL_step rfl rfl (Exec.index_rep S23 rfl p13570 x13572 (r13026.mono l13560) q13586 ?_)
                    intro b13587 o13588 a13589
                    refine WL_step rfl rfl (Exec.load_at (E := encEdge) hS13561 A66 rfl rfl rfl a13589 ?_)
                    intro v13590 q13591
                    obtain rfl := encEdge_val.1 q13591
                    refine WL_step rfl rfl (Exec.alloc (cs := [Value.int .i64 (0), Value.int .i64 (0), Value.int .i64 (0)]) hS13561 Z66 rfl rfl ?_)
                    intro b13592 w13593 hS13594
                    refine WL_step rfl rfl (Exec.store_box (ds := [Value.int .i64 (x13585.From), Value.int .i64 (x13585.Label), Value.int .i64 (x13585.To)]) (es := [Value.int .i64 (x13585.From), Value.int .i64 (x13585.Label), Value.int .i64 (x13585.To)]) hS13594 A66 rfl rfl rfl rfl (one_cons rfl (one_cons rfl (one_cons rfl one_nil))) (Nat.le_of_ble_eq_true rfl) rfl ?_)
                    intro w13595 hS13596
                    refine WL_nil (at_normal ?_)
                    refine W_seq ?_
                    refine W_region ?_
                    refine WL_step rfl rfl (Exec.move (v := v10993) rfl p13566 ?_)
                    refine WL_step rfl rfl (Exec.move (v := Value.int .i64 ((i11288 : Int))) rfl p13567 ?_)
                    obtain ⟨x13605, q13606, hm13558⟩ := bind_some hm13558
                    refine WL_step rfl rfl (Exec.index_rep S63 rfl rfl rfl (r10994.mono (PHeap.le.trans (PHeap.le.trans l11264 l13002) l13560)) q13606 ?_)
                    intro b13607 o13608 a13609
                    refine WL_step rfl rfl (Exec.load_at (E := (encSlice encEdge)) hS13596 A23 rfl rfl rfl a13609 ?_)
                    intro v13610 q13611
                    have r13612 := encSlice_val.1 q13611
                    refine WL_step rfl rfl (Exec.len_rep S23 rfl rfl r13612 ?_)
                    refine WL_step rfl rfl (Exec.move (v := Value.int .i64 (0)) rfl rfl ?_)
                    refine WL_nil (at_normal ?_)
                    obtain ⟨l13663, hB13716, hm13558⟩ := bind_some hm13558
                    refine W_block (W_forS (fun k' s' f' w' => (fun (l13663 : (List Edge)) => ∃ (s13717 : PHeap) (v13664 : Value), PHeap.le s13559 s13717 ∧ St w0 s13717 (Res.box b8698 26 [Value.int .i64 (b146.States), Value.int .i64 (b146.Init), v147, v149, v151] :: Res.box b8701 26 [Value.int .i64 (0), Value.int .i64 (0), Value.slice none 0 0, Value.slice none 0 0, Value.slice none 0 0] :: Res.box b8822 26 [Value.int .i64 (IntKind.i64.wrap (a139.States * b146.States)), Value.int .i64 (IntKind.i64.wrap ((IntKind.i64.wrap (a139.Init * b146.States)) + b146.Init)), v8824, v13664, v9550] :: Res.box b13592 66 [Value.int .i64 (x13585.From), Value.int .i64 (x13585.Label), Value.int .i64 (x13585.To)] :: Res.arr (encInt .i64) 3 v8824 y8799 :: Res.arr encEdge 66 v13664 l13663 :: Res.arr encBool 4 v9550 z9549 :: H) w' ∧ f' 3 = Value.pointer (some ⟨b8698, 0, none⟩) ∧ f' 4 = Value.pointer (some ⟨b8701, 0, none⟩) ∧ f' 6 = Value.pointer (some ⟨b8822, 0, none⟩) ∧ f' 9 = v10984 ∧ f' 10 = v10993 ∧ f' 13 = Value.int .i64 ((i11288 : Int)) ∧ f' 15 = Value.pointer (some ⟨b13592, 0, none⟩) ∧ f' 118 = Value.int .i64 ((y10979.length : Int)) ∧ f' 119 = Value.int .i64 ((i11288 : Int)) ∧ f' 125 = v13024 ∧ f' 126 = Value.int .i64 ((x13019.length : Int)) ∧ f' 127 = Value.int .i64 ((i13027 : Int)) ∧ f' 134 = v13610 ∧ f' 135 = Value.int .i64 ((x13605.length : Int)) ∧ f' 136 = Value.int .i64 (k' : Int)) s') hB13716 ?_ ?_ ?_)
                    · have hS13718 := (hS13596).f6
                      have hS13719 := (hS13718).f6
                      have hS13720 := (hS13719).f6
                      have hS13721 := (hS13720).f3
                      have hS13722 := (hS13721).f6
                      have hS13723 := (hS13722).f6
                      have hS13724 := (hS13723).f6
                      exact ⟨s13559, v13285, (PHeap.le_refl _), hS13724, p13562, p13563, p13564, p13565, p13566, p13567, rfl, p13568, p13569, p13570, p13571, x13572, rfl, rfl, rfl⟩
                    · intro i13613 l13663 s13726 f13727 w13728 hi13729 hI13730 hm13731
                      obtain ⟨s13732, v13664, l13733, hS13734, p13735, p13736, p13737, p13738, p13739, p13740, p13741, p13742, p13743, p13744, p13745, p13746, p13747, p13748, x13749⟩ := hI13730
                      refine W_seq ?_
                      refine W_region ?_
                      refine WL_step rfl rfl (Exec.lss rfl x13749 p13748 ?_)
                      refine WL_nil (at_normal ?_)
                      refine W_seq ?_
                      refine W_true (congrArg Value.bool (decide_eq_true (by omega))) ?_
                      refine W_skip (at_normal ?_)
                      refine W_seq ?_
                      refine W_block ?_
                      refine W_seq ?_
                      refine W_region ?_
                      obtain ⟨x13762, q13763, hm13731⟩ := bind_some hm13731
                      refine WL_step rfl rfl (Exec.index_rep S23 rfl p13747 x13749 (r13612.mono l13733) q13763 ?_)
                      intro b13764 o13765 a13766
                      refine WL_step rfl rfl (Exec.load_at (E := encEdge) hS13734 A66 rfl rfl rfl a13766 ?_)
                      intro v13767 q13768
                      obtain rfl := encEdge_val.1 q13768
                      refine WL_step rfl rfl (Exec.alloc (cs := [Value.int .i64 (0), Value.int .i64 (0), Value.int .i64 (0)]) hS13734 Z66 rfl rfl ?_)
                      intro b13769 w13770 hS13771
                      refine WL_step rfl rfl (Exec.store_box (ds := [Value.int .i64 (x13762.From), Value.int .i64 (x13762.Label), Value.int .i64 (x13762.To)]) (es := [Value.int .i64 (x13762.From), Value.int .i64 (x13762.Label), Value.int .i64 (x13762.To)]) hS13771 A66 rfl rfl rfl rfl (one_cons rfl (one_cons rfl (one_cons rfl one_nil))) (Nat.le_of_ble_eq_true rfl) rfl ?_)
                      intro w13772 hS13773
                      refine WL_nil (at_normal ?_)
                      refine W_region ?_
                      refine WL_step rfl rfl (Exec.field F26_3 rfl p13737 rfl ?_)
                      refine WL_step rfl rfl (Exec.load_box ((hS13773).f3) A23 rfl rfl rfl ?_)
                      refine WL_step rfl rfl (Exec.field F66_0 rfl p13741 rfl ?_)
                      refine WL_step rfl rfl (Exec.load_box ((hS13773).f4) A3 rfl rfl rfl ?_)
                      refine WL_step rfl rfl (Exec.field F26_0 rfl p13735 rfl ?_)
                      refine WL_step rfl rfl (Exec.load_box ((hS13773).f1) A3 rfl rfl rfl ?_)
                      refine WL_step rfl rfl (Exec.mul rfl rfl rfl ?_)
                      refine WL_step rfl rfl (Exec.field F66_0 rfl rfl rfl ?_)
                      refine WL_step rfl rfl (Exec.load_box (hS13773) A3 rfl rfl rfl ?_)
                      refine WL_step rfl rfl (Exec.add rfl rfl rfl ?_)
                      refine WL_step rfl rfl (Exec.move (v := Value.int .i64 ((i11288 : Int))) rfl p13740 ?_)
                      refine WL_step rfl rfl (Exec.field F66_2 rfl p13741 rfl ?_)
                      refine WL_step rfl rfl (Exec.load_box ((hS13773).f4) A3 rfl rfl rfl ?_)
                      refine WL_step rfl rfl (Exec.field F26_0 rfl p13735 rfl ?_)
                      refine WL_step rfl rfl (Exec.load_box ((hS13773).f1) A3 rfl rfl rfl ?_)
                      refine WL_step rfl rfl (Exec.mul rfl rfl rfl ?_)
                      refine WL_step rfl rfl (Exec.field F66_2 rfl rfl rfl ?_)
                      refine WL_step rfl rfl (Exec.load_box (hS13773) A3 rfl rfl rfl ?_)
                      refine WL_step rfl rfl (Exec.add rfl rfl rfl ?_)
                      refine WL_step rfl rfl (Exec.build rfl (parts_cons (c := [Value.int .i64 (IntKind.i64.wrap ((IntKind.i64.wrap (x13585.From * b146.States)) + x13762.From))]) (cells_of rfl rfl) (parts_cons (c := [Value.int .i64 ((i11288 : Int))]) (cells_of rfl rfl) (parts_cons (c := [Value.int .i64 (IntKind.i64.wrap ((IntKind.i64.wrap (x13585.To * b146.States)) + x13762.To))]) (cells_of rfl rfl) parts_nil))) (v := Value.agg #[Value.int .i64 (IntKind.i64.wrap ((IntKind.i64.wrap (x13585.From * b146.States)) + x13762.From)), Value.int .i64 ((i11288 : Int)), Value.int .i64 (IntKind.i64.wrap ((IntKind.i64.wrap (x13585.To * b146.States)) + x13762.To))]) (fun _ => by kernel_rfl) ?_)
                      refine WL_step rfl rfl (Exec.buildSlice (Te := 66) (cs := [Value.int .i64 (IntKind.i64.wrap ((IntKind.i64.wrap (x13585.From * b146.States)) + x13762.From)), Value.int .i64 ((i11288 : Int)), Value.int .i64 (IntKind.i64.wrap ((IntKind.i64.wrap (x13585.To * b146.States)) + x13762.To))]) hS13773 rfl (parts_cons (c := [Value.int .i64 (IntKind.i64.wrap ((IntKind.i64.wrap (x13585.From * b146.States)) + x13762.From)), Value.int .i64 ((i11288 : Int)), Value.int .i64 (IntKind.i64.wrap ((IntKind.i64.wrap (x13585.To * b146.States)) + x13762.To))]) (cells_of rfl rfl) parts_nil) (fun _ => by kernel_rfl) ?_)
                      intro b13786 w13787 hS13788
                      obtain ⟨l13789, q13790, hm13731⟩ := bind_some hm13731
                      have hS13791 := (hS13788).f7
                      refine WL_step rfl rfl (Exec.append_box (E := encEdge) (ys := [(⟨IntKind.i64.wrap ((IntKind.i64.wrap (x13585.From * b146.States)) + x13762.From), (i11288 : Int), IntKind.i64.wrap ((IntKind.i64.wrap (x13585.To * b146.States)) + x13762.To)⟩ : Edge)]) hS13791 S23 Z66 rfl (by decide) rfl rfl rfl rfl ⟨[Value.int .i64 (IntKind.i64.wrap ((IntKind.i64.wrap (x13585.From * b146.States)) + x13762.From)), Value.int .i64 ((i11288 : Int)), Value.int .i64 (IntKind.i64.wrap ((IntKind.i64.wrap (x13585.To * b146.States)) + x13762.To))], [], rfl, ⟨[Value.int .i64 (IntKind.i64.wrap ((IntKind.i64.wrap (x13585.From * b146.States)) + x13762.From))], [Value.int .i64 ((i11288 : Int)), Value.int .i64 (IntKind.i64.wrap ((IntKind.i64.wrap (x13585.To * b146.States)) + x13762.To))], rfl, rfl, ⟨[Value.int .i64 ((i11288 : Int))], [Value.int .i64 (IntKind.i64.wrap ((IntKind.i64.wrap (x13585.To * b146.States)) + x13762.To))], rfl, rfl, rfl⟩⟩, rfl⟩ rfl q13790 ?_)
                      intro v13792 w13793 hS13794
                      refine WL_step rfl rfl (Exec.field F26_3 rfl p13737 rfl ?_)
                      have hS13795 := (hS13794).f4
                      refine WL_step rfl rfl (Exec.store_box (ds := [v13792]) (es := [Value.int .i64 (IntKind.i64.wrap (a139.States * b146.States)), Value.int .i64 (IntKind.i64.wrap ((IntKind.i64.wrap (a139.Init * b146.States)) + b146.Init)), v8824, v13792, v9550]) hS13795 A23 rfl rfl rfl (cells_one ((hS13795).f1).arr_one) (one_cons ((hS13795).f1).arr_one one_nil) (Nat.le_of_ble_eq_true rfl) rfl ?_)
                      intro w13796 hS13797
                      refine WL_nil (ib_normal (at_normal ?_))
                      refine W_region ?_
                      refine WL_step rfl rfl (Exec.add rfl x13749 rfl ?_)
                      refine WL_step rfl rfl (Exec.move (v := Value.int .i64 (IntKind.i64.wrap ((i13613 : Int) + 1))) rfl rfl ?_)
                      refine WL_nil (at_normal ?_)
                      have e13798 := Option.some.inj hm13731
                      subst s13726
                      have hS13799 := ((hS13797).f2).drop
                      have hS13800 := (hS13799).f6
                      have hS13801 := (hS13800).f2
                      have hS13802 := (hS13801).f6
                      have hS13803 := (hS13802).f6
                      have hS13804 := (hS13803).f4
                      have hS13805 := (hS13804).f6
                      have hS13806 := (hS13805).f6
                      exact ⟨s13732, v13792, l13733, hS13806, p13735, p13736, p13737, p13738, p13739, p13740, p13741, p13742, p13743, p13744, p13745, p13746, p13747, p13748, (Eq.trans rfl (wrap_up hi13729 (SliceRep.le r13612)))⟩
                    · intro f13807 w13808 hI13809
                      obtain ⟨s13810, v13664, l13811, hS13812, p13813, p13814, p13815, p13816, p13817, p13818, p13819, p13820, p13821, p13822, p13823, p13824, p13825, p13826, x13827⟩ := hI13809
                      refine W_seq ?_
                      refine W_region ?_
                      refine WL_step rfl rfl (Exec.lss rfl x13827 p13826 ?_)
                      refine WL_nil (at_normal ?_)
                      refine W_seq ?_
                      refine W_false (congrArg Value.bool (decide_eq_false (by omega))) ?_
                      refine W_exit (at_exit (at_exit (ib_here (ib_normal (at_normal ?_)))))
                      refine W_region ?_
                      refine WL_step rfl rfl (Exec.add rfl p13824 rfl ?_)
                      refine WL_step rfl rfl (Exec.move (v := Value.int .i64 (IntKind.i64.wrap ((i13027 : Int) + 1))) rfl rfl ?_)
                      refine WL_nil (at_normal ?_)
                      have e13828 := Option.some.inj hm13558
                      subst s13553
                      have hS13829 := ((hS13812).f3).drop
                      have hS13830 := (hS13829).f5
                      have hS13831 := (hS13830).f5
                      have hS13832 := (hS13831).f5
                      have hS13833 := (hS13832).f5
                      have hS13834 := (hS13833).f5
                      have hS13835 := (hS13834).f5
                      exact ⟨s13810, v13664, (PHeap.le.trans l13560 l13811), hS13835, p13813, p13814, p13815, p13816, p13817, p13818, p13820, p13821, p13822, p13823, (Eq.trans rfl (wrap_up hi13556 (SliceRep.le r13026)))⟩
                  · intro f13836 w13837 hI13838
                    obtain ⟨s13839, v13285, l13840, hS13841, p13842, p13843, p13844, p13845, p13846, p13847, p13848, p13849, p13850, p13851, x13852⟩ := hI13838
                    refine W_seq ?_
                    refine W_region ?_
                    refine WL_step rfl rfl (Exec.lss rfl x13852 p13851 ?_)
                    refine WL_nil (at_normal ?_)
                    refine W_seq ?_
                    refine W_false (congrArg Value.bool (decide_eq_false (by omega))) ?_
                    refine W_exit (at_exit (at_exit (ib_here (ib_normal (at_normal ?_)))))
                    refine W_region ?_
                    refine WL_step rfl rfl (Exec.add rfl p13849 rfl ?_)
                    refine WL_step rfl rfl (Exec.move (v := Value.int .i64 (IntKind.i64.wrap ((i11288 : Int) + 1))) rfl rfl ?_)
                    refine WL_nil (at_normal ?_)
                    have e13853 := Option.some.inj hm13000
                    subst s12995
                    have hS13854 := (hS13841).f5
                    have hS13855 := (hS13854).f5
                    have hS13856 := (hS13855).f5
                    have hS13857 := (hS13856).f5
                    have hS13858 := (hS13857).f5
                    have hS13859 := (hS13858).f5
                    exact ⟨s13839, v13285, (PHeap.le.trans l13002 l13840), hS13859, p13842, p13843, p13844, p13845, p13846, p13848, (Eq.trans rfl (wrap_up hi12998 (SliceRep.le (r10985.mono (PHeap.le.trans l10991 l11264)))))⟩
                · intro f13860 w13861 hI13862
                  obtain ⟨s13863, v12139, l13864, hS13865, p13866, p13867, p13868, p13869, p13870, p13871, x13872⟩ := hI13862
                  refine W_seq ?_
                  refine W_region ?_
                  refine WL_step rfl rfl (Exec.lss rfl x13872 p13871 ?_)
                  refine WL_nil (at_normal ?_)
                  refine W_seq ?_
                  refine W_false (congrArg Value.bool (decide_eq_false (by omega))) ?_
                  refine W_exit (at_exit (at_exit (ib_here (at_normal ?_))))
                  refine W_seq ?_
                  refine W_region ?_
                  refine WL_step rfl rfl (Exec.field F26_3 rfl p13868 rfl ?_)
                  refine WL_step rfl rfl (Exec.load_box ((hS13865).f2) A23 rfl rfl rfl ?_)
                  obtain ⟨l13883, q13882, hm⟩ := bind_some hm
                  have hS13884 := (hS13865).f4
                  refine WL_step rfl rfl (Exec.call rfl rfl Try.func38 rfl N38 (args_cons rfl (args_cons rfl args_nil)) ((sortEdges_sim q13882 hS13884 ).mono ?_))
                  rintro _ w13885 ⟨_, rfl, ⟨s13886, l13887, hS13888, rfl⟩⟩
                  refine ⟨_, rfl, ?_⟩
                  refine WL_nil (at_normal ?_)
                  refine W_seq ?_
                  refine W_region ?_
                  refine WL_step rfl rfl (Exec.load_box_agg (ds := [Value.int .i64 (IntKind.i64.wrap (a139.States * b146.States)), Value.int .i64 (IntKind.i64.wrap ((IntKind.i64.wrap (a139.Init * b146.States)) + b146.Init)), v8824, v12139, v9550]) ((hS13888).f3) A26 rfl p13868 rfl ?_)
                  have hS13892 := (hS13888).f2
                  refine WL_step rfl rfl (Exec.store_box (ds := [Value.int .i64 (IntKind.i64.wrap (a139.States * b146.States)), Value.int .i64 (IntKind.i64.wrap ((IntKind.i64.wrap (a139.Init * b146.States)) + b146.Init)), v8824, v12139, v9550]) (es := [Value.int .i64 (IntKind.i64.wrap (a139.States * b146.States)), Value.int .i64 (IntKind.i64.wrap ((IntKind.i64.wrap (a139.Init * b146.States)) + b146.Init)), v8824, v12139, v9550]) hS13892 A26 rfl p13867 rfl rfl (one_cons rfl (one_cons rfl (one_cons ((hS13892).f4).arr_one (one_cons ((hS13892).f1).arr_one (one_cons ((hS13892).f5).arr_one one_nil))))) (Nat.le_of_ble_eq_true rfl) rfl ?_)
                  intro w13893 hS13894
                  refine WL_step rfl rfl (Exec.assign (v := errV 39 (none)) rfl rfl ?_)
                  refine WL_nil (at_normal ?_)
                  refine W_ret ?_
                  have e13896 := Option.some.inj hm
                  subst r
                  refine ⟨_, retG2 rfl ⟨_, _, p13867, cellRes (hS13894) A26⟩ rfl, ?_⟩
                  have hS13897 := (hS13894).f4
                  obtain ⟨s13898, l13899, hS13900, r13901⟩ := hS13897.freezeArr
                  have hS13902 := (hS13900).f1
                  obtain ⟨s13903, l13904, hS13905, r13906⟩ := hS13902.freezeArr
                  have hS13907 := (hS13905).f3
                  obtain ⟨s13908, l13909, hS13910, r13911⟩ := hS13907.freezeArr
                  have hS13912 := (hS13910).drop
                  have hS13913 := (hS13912).drop
                  have hS13914 := (hS13913).drop
                  exact ⟨s13908, v8824, v12139, v9550, (PHeap.le.trans (PHeap.le.trans (PHeap.le.trans (PHeap.le.trans (PHeap.le.trans (PHeap.le.trans (PHeap.le.trans (PHeap.le.trans (PHeap.le.trans (PHeap.le.trans l8766 l8862) l10911) l10982) l10991) l11264) l13864) l13887) l13899) l13904) l13909), hS13914, (tup2 rfl rfl), (r13901.mono (PHeap.le.trans l13904 l13909)), (r13906.mono l13909), r13911⟩

theorem N43 : (Try.f43.name == "runtime.NumGoroutine") = false := by kernel_rfl

theorem transys_goals_sim {w0 w : World} {s : PHeap} {H : List Res} {x14016 : System} {v14017 : Value} {v14019 : Value} {v14021 : Value} {r : (List Int)} (hm : transys_goals_p x14016 = some r) (hS : St w0 s (H) w) (a14018 : SliceRep (encInt .i64) s v14017 x14016.Costs) (a14020 : SliceRep encEdge s v14019 x14016.Edges) (a14022 : SliceRep encBool s v14021 x14016.Goals) :
    Calls Try.prog 43 #[Value.agg #[Value.int .i64 (x14016.States), Value.int .i64 (x14016.Init), v14017, v14019, v14021]] w fun e w' => ∃ v, e = .returned v ∧ ((fun (y14276 : (List Int)) => ∃ (s14282 : PHeap) (v14281 : Value), PHeap.le s s14282 ∧ St w0 s14282 (H) w' ∧ v = v14281 ∧ SliceRep (encInt .i64) s14282 v14281 y14276) r) := by
  unfold transys_goals_p at hm
  refine calls_of_W Try.func43 rfl rfl ?_
  refine W_seq ?_
  refine W_region ?_
  refine WL_step rfl rfl (Exec.box (cs := [Value.int .i64 (x14016.States), Value.int .i64 (x14016.Init), v14017, v14019, v14021]) hS rfl rfl rfl ?_)
  intro b14286 w14287 hS14288
  refine WL_step rfl rfl (Exec.assign (v := Value.slice none 0 0) rfl rfl ?_)
  refine WL_nil (at_normal ?_)
  refine W_seq ?_
  refine W_region ?_
  refine WL_step rfl rfl (Exec.assign (v := Value.slice none 0 0) rfl rfl ?_)
  refine WL_nil (at_normal ?_)
  refine W_seq ?_
  refine W_seq ?_
  refine W_region ?_
  refine WL_step rfl rfl (Exec.field F26_4 rfl rfl rfl ?_)
  refine WL_step rfl rfl (Exec.load_box (hS14288) A24 rfl rfl rfl ?_)
  refine WL_step rfl rfl (Exec.len_rep S24 rfl rfl a14022 ?_)
  refine WL_step rfl rfl (Exec.move (v := Value.int .i64 (0)) rfl rfl ?_)
  refine WL_nil (at_normal ?_)
  obtain ⟨out14367, hB14439, hm⟩ := bind_some hm
  refine W_block (W_forS (fun k' s' f' w' => (fun (out14367 : (List Int)) => ∃ (s14440 : PHeap) (v14368 : Value), PHeap.le s s14440 ∧ St w0 s14440 (Res.arr (encInt .i64) 3 v14368 out14367 :: H) w' ∧ f' 3 = v14368 ∧ f' 7 = v14021 ∧ f' 8 = Value.int .i64 ((x14016.Goals.length : Int)) ∧ f' 9 = Value.int .i64 (k' : Int)) s') hB14439 ?_ ?_ ?_)
  · have hS14441 := hS14288.nilArr (encInt .i64) 3
    have hS14442 := ((hS14441).f1).drop
    exact ⟨s, (Value.slice none 0 0), (PHeap.le_refl _), hS14442, rfl, rfl, rfl, rfl⟩
  · intro i14289 out14367 s14444 f14445 w14446 hi14447 hI14448 hm14449
    obtain ⟨s14450, v14368, l14451, hS14452, p14453, p14454, p14455, x14456⟩ := hI14448
    refine W_seq ?_
    refine W_region ?_
    refine WL_step rfl rfl (Exec.lss rfl x14456 p14455 ?_)
    refine WL_nil (at_normal ?_)
    refine W_seq ?_
    refine W_true (congrArg Value.bool (decide_eq_true (by omega))) ?_
    refine W_skip (at_normal ?_)
    refine W_seq ?_
    refine W_block ?_
    refine W_seq ?_
    refine W_region ?_
    refine WL_step rfl rfl (Exec.move (v := Value.int .i64 ((i14289 : Int))) rfl x14456 ?_)
    obtain ⟨x14464, q14465, hm14449⟩ := bind_some hm14449
    refine WL_step rfl rfl (Exec.index_rep S24 rfl p14454 x14456 (a14022.mono l14451) q14465 ?_)
    intro b14466 o14467 a14468
    refine WL_step rfl rfl (Exec.load_at (E := encBool) hS14452 A4 rfl rfl rfl a14468 ?_)
    intro v14469 q14470
    obtain rfl := encBool_val.1 q14470
    refine WL_step rfl rfl (Exec.assign (v := Value.int .i64 ((i14289 : Int))) rfl rfl ?_)
    refine WL_step rfl rfl (Exec.assign (v := Value.bool (x14464)) rfl rfl ?_)
    refine WL_nil (at_normal ?_)
    refine W_seq ?_
    refine W_region ?_
    refine WL_step rfl rfl (Exec.move (v := Value.bool (x14464)) rfl rfl ?_)
    refine WL_nil (at_normal ?_)
    obtain ⟨l14489, ht14491, hm14449⟩ := bind_some hm14449
    refine W_mid (M := fun f' w' => (fun (l14489 : (List Int)) => ∃ (s14492 : PHeap) (v14490 : Value), PHeap.le s14450 s14492 ∧ St w0 s14492 (Res.arr (encInt .i64) 3 v14490 l14489 :: H) w' ∧ f' 3 = v14490 ∧ f' 7 = v14021 ∧ f' 8 = Value.int .i64 ((x14016.Goals.length : Int)) ∧ f' 9 = Value.int .i64 ((i14289 : Int))) l14489) ?_ ?_
    · rcases ite_some ht14491 with ⟨hc14493, ht14491⟩ | ⟨hc14493, ht14491⟩
      · refine W_cond_t rfl hc14493 ?_
        refine W_region ?_
        refine WL_step rfl rfl (Exec.move (v := v14368) rfl p14453 ?_)
        refine WL_step rfl rfl (Exec.move (v := Value.int .i64 ((i14289 : Int))) rfl rfl ?_)
        refine WL_step rfl rfl (Exec.buildSlice (Te := 3) (cs := [Value.int .i64 ((i14289 : Int))]) hS14452 rfl (parts_cons (c := [Value.int .i64 ((i14289 : Int))]) (cells_of rfl rfl) parts_nil) (fun _ => by kernel_rfl) ?_)
        intro b14503 w14504 hS14505
        obtain ⟨l14506, q14507, ht14491⟩ := bind_some ht14491
        have hS14508 := (hS14505).f1
        refine WL_step rfl rfl (Exec.append_box (E := (encInt .i64)) (ys := [(i14289 : Int)]) hS14508 S22 Z3 rfl (by decide) rfl rfl rfl rfl ⟨[Value.int .i64 ((i14289 : Int))], [], rfl, rfl, rfl⟩ rfl q14507 ?_)
        intro v14509 w14510 hS14511
        refine WL_step rfl rfl (Exec.assign (v := v14509) rfl rfl ?_)
        refine WL_nil (at_normal ?_)
        have e14512 := Option.some.inj ht14491
        subst l14489
        exact ⟨s14450, v14509, (PHeap.le_refl _), hS14511, rfl, p14454, p14455, x14456⟩
      · refine W_cond_f rfl hc14493 ?_
        replace hc14493 := not_true hc14493
        refine W_skip (at_normal ?_)
        have e14513 := Option.some.inj ht14491
        subst l14489
        exact ⟨s14450, v14368, (PHeap.le_refl _), hS14452, p14453, p14454, p14455, x14456⟩
    · intro f14514 w14515 hM14516
      obtain ⟨s14517, v14490, l14518, hS14519, p14520, p14521, p14522, p14523⟩ := hM14516
      refine (ib_normal (at_normal ?_))
      refine W_region ?_
      refine WL_step rfl rfl (Exec.add rfl p14523 rfl ?_)
      refine WL_step rfl rfl (Exec.move (v := Value.int .i64 (IntKind.i64.wrap ((i14289 : Int) + 1))) rfl rfl ?_)
      refine WL_nil (at_normal ?_)
      have e14524 := Option.some.inj hm14449
      subst s14444
      exact ⟨s14517, v14490, (PHeap.le.trans l14451 l14518), hS14519, p14520, p14521, p14522, (Eq.trans rfl (wrap_up hi14447 (SliceRep.le a14022)))⟩
  · intro f14525 w14526 hI14527
    obtain ⟨s14528, v14368, l14529, hS14530, p14531, p14532, p14533, x14534⟩ := hI14527
    refine W_seq ?_
    refine W_region ?_
    refine WL_step rfl rfl (Exec.lss rfl x14534 p14533 ?_)
    refine WL_nil (at_normal ?_)
    refine W_seq ?_
    refine W_false (congrArg Value.bool (decide_eq_false (by omega))) ?_
    refine W_exit (at_exit (at_exit (ib_here (at_normal ?_))))
    refine W_seq ?_
    refine W_region ?_
    refine WL_step rfl rfl (Exec.move (v := v14368) rfl p14531 ?_)
    refine WL_step rfl rfl (Exec.assign (v := v14368) rfl rfl ?_)
    refine WL_nil (at_normal ?_)
    refine W_ret ?_
    have e14536 := Option.some.inj hm
    subst r
    refine ⟨_, ret1 rfl, ?_⟩
    obtain ⟨s14537, l14538, hS14539, r14540⟩ := hS14530.freezeArr
    exact ⟨s14537, v14368, (PHeap.le.trans l14529 l14538), hS14539, rfl, r14540⟩

theorem S99 : tySlice Try.prog 99 = some (102, 1, 24) := by kernel_rfl

theorem Z102 : tyZero Try.prog 102 = some (Value.slice none 0 0) := by kernel_rfl

theorem Z101 : tyZero Try.prog 101 = some (Value.agg #[Value.int .i64 (0), Value.int .i64 (0), Value.int .i64 (0)]) := by kernel_rfl

theorem A101 : tyAgg Try.prog 101 = some (true, 3) := by kernel_rfl

theorem F101_1 : tyField Try.prog 101 1 = some 1 := by kernel_rfl

theorem F101_0 : tyField Try.prog 101 0 = some 0 := by kernel_rfl

theorem A102 : tyAgg Try.prog 102 = some (false, 1) := by kernel_rfl

theorem S102 : tySlice Try.prog 102 = some (101, 3, 24) := by kernel_rfl

theorem F101_2 : tyField Try.prog 101 2 = some 2 := by kernel_rfl

theorem N42 : (Try.f42.name == "runtime.NumGoroutine") = false := by kernel_rfl

theorem transys_shortest_sim {w0 w : World} {s : PHeap} {H : List Res} {x14550 : System} {from_14557 : (List Int)} {back14560 : Bool} {v14551 : Value} {v14553 : Value} {v14555 : Value} {v14558 : Value} {r : (List Int)} (hm : transys_shortest_p x14550 from_14557 back14560 = some r) (hS : St w0 s (H) w) (a14552 : SliceRep (encInt .i64) s v14551 x14550.Costs) (a14554 : SliceRep encEdge s v14553 x14550.Edges) (a14556 : SliceRep encBool s v14555 x14550.Goals) (a14559 : SliceRep (encInt .i64) s v14558 from_14557) :
    Calls Try.prog 42 #[Value.agg #[Value.int .i64 (x14550.States), Value.int .i64 (x14550.Init), v14551, v14553, v14555], v14558, Value.bool (back14560)] w fun e w' => ∃ v, e = .returned v ∧ ((fun (y19659 : (List Int)) => ∃ (s19666 : PHeap) (v19665 : Value), PHeap.le s s19666 ∧ St w0 s19666 (H) w' ∧ v = v19665 ∧ SliceRep (encInt .i64) s19666 v19665 y19659) r) := by
  unfold transys_shortest_p at hm
  refine calls_of_W Try.func42 rfl rfl ?_
  refine W_seq ?_
  refine W_region ?_
  refine WL_step rfl rfl (Exec.box (cs := [Value.int .i64 (x14550.States), Value.int .i64 (x14550.Init), v14551, v14553, v14555]) hS rfl rfl rfl ?_)
  intro b19670 w19671 hS19672
  refine WL_step rfl rfl (Exec.assign (v := Value.slice none 0 0) rfl rfl ?_)
  refine WL_nil (at_normal ?_)
  refine W_seq ?_
  refine W_region ?_
  refine WL_step rfl rfl (Exec.field F26_0 rfl rfl rfl ?_)
  refine WL_step rfl rfl (Exec.load_box (hS19672) A3 rfl rfl rfl ?_)
  obtain ⟨l19679, q19680, hm⟩ := bind_some hm
  refine WL_step rfl rfl (Exec.make_grid (F := encArc) (T2 := 101) hS19672 S99 Z102 rfl rfl rfl q19680 ?_)
  intro v19681 hs19682 w19683 hS19684
  refine WL_step rfl rfl (Exec.assign (v := v19681) rfl rfl ?_)
  refine WL_nil (at_normal ?_)
  refine W_seq ?_
  refine W_seq ?_
  refine W_region ?_
  refine WL_step rfl rfl (Exec.field F26_3 rfl rfl rfl ?_)
  refine WL_step rfl rfl (Exec.load_box ((hS19684).f2) A23 rfl rfl rfl ?_)
  refine WL_step rfl rfl (Exec.len_rep S23 rfl rfl a14554 ?_)
  refine WL_step rfl rfl (Exec.move (v := Value.int .i64 (0)) rfl rfl ?_)
  refine WL_nil (at_normal ?_)
  obtain ⟨l19909, hB20136, hm⟩ := bind_some hm
  refine W_block (W_forS (fun k' s' f' w' => (fun (l19909 : (List (List Arc))) => ∃ (s20137 : PHeap) (hs19910 : List Value), PHeap.le s s20137 ∧ St w0 s20137 (Res.box b19670 26 [Value.int .i64 (x14550.States), Value.int .i64 (x14550.Init), v14551, v14553, v14555] :: Res.arr encRaw 102 v19681 hs19910 :: Res.rows encArc 101 hs19910 l19909 :: H) w' ∧ f' 1 = v14558 ∧ f' 2 = Value.bool (back14560) ∧ f' 3 = Value.pointer (some ⟨b19670, 0, none⟩) ∧ f' 7 = v19681 ∧ f' 24 = v14553 ∧ f' 25 = Value.int .i64 ((x14550.Edges.length : Int)) ∧ f' 26 = Value.int .i64 (k' : Int)) s') hB20136 ?_ ?_ ?_)
  · have hS20138 := (hS19684).f2
    exact ⟨s, hs19682, (PHeap.le_refl _), hS20138, rfl, rfl, rfl, rfl, rfl, rfl, rfl⟩
  · intro i19685 l19909 s20140 f20141 w20142 hi20143 hI20144 hm20145
    obtain ⟨s20146, hs19910, l20147, hS20148, p20149, p20150, p20151, p20152, p20153, p20154, x20155⟩ := hI20144
    refine W_seq ?_
    refine W_region ?_
    refine WL_step rfl rfl (Exec.lss rfl x20155 p20154 ?_)
    refine WL_nil (at_normal ?_)
    refine W_seq ?_
    refine W_true (congrArg Value.bool (decide_eq_true (by omega))) ?_
    refine W_skip (at_normal ?_)
    refine W_seq ?_
    refine W_block ?_
    refine W_seq ?_
    refine W_region ?_
    obtain ⟨x20168, q20169, hm20145⟩ := bind_some hm20145
    refine WL_step rfl rfl (Exec.index_rep S23 rfl p20153 x20155 (a14554.mono l20147) q20169 ?_)
    intro b20170 o20171 a20172
    refine WL_step rfl rfl (Exec.load_at (E := encEdge) hS20148 A66 rfl rfl rfl a20172 ?_)
    intro v20173 q20174
    obtain rfl := encEdge_val.1 q20174
    refine WL_step rfl rfl (Exec.alloc (cs := [Value.int .i64 (0), Value.int .i64 (0), Value.int .i64 (0)]) hS20148 Z66 rfl rfl ?_)
    intro b20175 w20176 hS20177
    refine WL_step rfl rfl (Exec.store_box (ds := [Value.int .i64 (x20168.From), Value.int .i64 (x20168.Label), Value.int .i64 (x20168.To)]) (es := [Value.int .i64 (x20168.From), Value.int .i64 (x20168.Label), Value.int .i64 (x20168.To)]) hS20177 A66 rfl rfl rfl rfl (one_cons rfl (one_cons rfl (one_cons rfl one_nil))) (Nat.le_of_ble_eq_true rfl) rfl ?_)
    intro w20178 hS20179
    refine WL_nil (at_normal ?_)
    refine W_seq ?_
    refine W_dl (n0 := 12) (.q 0 (.q 1 (.q 2 (.q 3 (.q 4 (.q 5 (.q 6 (.q 7 (.q 8 (.q 9 (.q 10 (.e 11 [0, 1, 2, 3, 4, 5, 6, 7, 8, 9, 10] .done)))))))))))) hmix (by kernel_rfl) (by kernel_rfl) ?_
    have hS20218 := hS20179.drew
    refine DL_q rfl rfl (Exec.field F66_0 rfl rfl rfl ⟨rfl, ?_⟩)
    refine DL_q rfl rfl (Exec.load_box (hS20218) A3 rfl rfl rfl ⟨rfl, ?_⟩)
    refine DL_q rfl rfl (Exec.field F66_2 rfl rfl rfl ⟨rfl, ?_⟩)
    refine DL_q rfl rfl (Exec.load_box (hS20218) A3 rfl rfl rfl ⟨rfl, ?_⟩)
    refine DL_q rfl rfl (Exec.field F26_2 rfl p20151 rfl ⟨rfl, ?_⟩)
    refine DL_q rfl rfl (Exec.load_box ((hS20218).f1) A22 rfl rfl rfl ⟨rfl, ?_⟩)
    refine DL_q rfl rfl (Exec.field F66_1 rfl rfl rfl ⟨rfl, ?_⟩)
    refine DL_q rfl rfl (Exec.load_box (hS20218) A3 rfl rfl rfl ⟨rfl, ?_⟩)
    obtain ⟨x20219, q20220, hm20145⟩ := bind_some hm20145
    refine DL_q rfl rfl (Exec.index_repE S22 rfl rfl rfl (a14552.mono l20147) q20220 ?_)
    intro b20221 o20222 a20223 e20224
    refine ⟨rfl, ?_⟩
    refine DL_q rfl rfl (Exec.load_at (E := (encInt .i64)) hS20218 A3 rfl rfl rfl a20223 ?_)
    intro v20225 q20226
    obtain rfl := encInt_val.1 q20226
    refine ⟨rfl, ?_⟩
    refine DL_q rfl rfl (Exec.build rfl (parts_cons (c := [Value.int .i64 (x20168.From)]) (cells_of rfl rfl) (parts_cons (c := [Value.int .i64 (x20168.To)]) (cells_of rfl rfl) (parts_cons (c := [Value.int .i64 (x20219)]) (cells_of rfl rfl) parts_nil))) (v := Value.agg #[Value.int .i64 (x20168.From), Value.int .i64 (x20168.To), Value.int .i64 (x20219)]) (fun _ => by kernel_rfl) ⟨rfl, ?_⟩)
    refine DL_e rfl rfl (Exec.alloc (cs := [Value.int .i64 (0), Value.int .i64 (0), Value.int .i64 (0)]) hS20218 Z101 rfl rfl ?_)
    intro b20227 w20228 hS20229
    refine ⟨(ag_cons (ag_r rfl rfl (Exec.field F66_0 rfl rfl rfl ⟨rfl, rfl⟩)) (ag_cons (ag_r rfl rfl (Exec.load_box ((hS20229).f1) A3 rfl rfl rfl ⟨rfl, rfl⟩)) (ag_cons (ag_r rfl rfl (Exec.field F66_2 rfl rfl rfl ⟨rfl, rfl⟩)) (ag_cons (ag_r rfl rfl (Exec.load_box ((hS20229).f1) A3 rfl rfl rfl ⟨rfl, rfl⟩)) (ag_cons (ag_r rfl rfl (Exec.field F26_2 rfl p20151 rfl ⟨rfl, rfl⟩)) (ag_cons (ag_r rfl rfl (Exec.load_box ((hS20229).f2) A22 rfl rfl rfl ⟨rfl, rfl⟩)) (ag_cons (ag_r rfl rfl (Exec.field F66_1 rfl rfl rfl ⟨rfl, rfl⟩)) (ag_cons (ag_r rfl rfl (Exec.load_box ((hS20229).f1) A3 rfl rfl rfl ⟨rfl, rfl⟩)) (ag_cons (ag_r rfl rfl (Exec.index_run rfl rfl rfl e20224 ⟨rfl, rfl⟩)) (ag_cons (ag_r rfl rfl (Exec.load_at (E := (encInt .i64)) hS20229 A3 rfl rfl rfl a20223 (fun _ q => ⟨rfl, encInt_val.1 q⟩))) (ag_cons (ag_r rfl rfl (Exec.build rfl (parts_cons (c := [Value.int .i64 (x20168.From)]) (cells_of rfl rfl) (parts_cons (c := [Value.int .i64 (x20168.To)]) (cells_of rfl rfl) (parts_cons (c := [Value.int .i64 (x20219)]) (cells_of rfl rfl) parts_nil))) (v := Value.agg #[Value.int .i64 (x20168.From), Value.int .i64 (x20168.To), Value.int .i64 (x20219)]) (fun _ => by kernel_rfl) ⟨rfl, rfl⟩)) ag_nil))))))))))), ?_⟩
    refine DL_done ?_
    refine WL_step rfl rfl (Exec.store_box (ds := [Value.int .i64 (x20168.From), Value.int .i64 (x20168.To), Value.int .i64 (x20219)]) (es := [Value.int .i64 (x20168.From), Value.int .i64 (x20168.To), Value.int .i64 (x20219)]) hS20229 A101 rfl rfl rfl rfl (one_cons rfl (one_cons rfl (one_cons rfl one_nil))) (Nat.le_of_ble_eq_true rfl) rfl ?_)
    intro w20230 hS20231
    refine WL_nil (at_normal ?_)
    refine W_seq ?_
    refine W_seq ?_
    refine W_region ?_
    refine WL_step rfl rfl (Exec.move (v := Value.bool (back14560)) rfl p20150 ?_)
    refine WL_nil (at_normal ?_)
    obtain ⟨t20242, ht20243, hm20145⟩ := bind_some hm20145
    refine W_mid (M := fun f' w' => (un2 fun (z20240 : Int) (z20241 : Int) => ∃ (s20244 : PHeap) , PHeap.le s20146 s20244 ∧ St w0 s20244 (Res.box b19670 26 [Value.int .i64 (x14550.States), Value.int .i64 (x14550.Init), v14551, v14553, v14555] :: Res.arr encRaw 102 v19681 hs19910 :: Res.rows encArc 101 hs19910 l19909 :: Res.box b20227 101 [Value.int .i64 (z20240), Value.int .i64 (z20241), Value.int .i64 (x20219)] :: H) w' ∧ f' 1 = v14558 ∧ f' 2 = Value.bool (back14560) ∧ f' 3 = Value.pointer (some ⟨b19670, 0, none⟩) ∧ f' 7 = v19681 ∧ f' 10 = Value.pointer (some ⟨b20227, 0, none⟩) ∧ f' 24 = v14553 ∧ f' 25 = Value.int .i64 ((x14550.Edges.length : Int)) ∧ f' 26 = Value.int .i64 ((i19685 : Int))) t20242) ?_ ?_
    · rcases ite_some ht20243 with ⟨hc20245, ht20243⟩ | ⟨hc20245, ht20243⟩
      · refine W_cond_t rfl hc20245 ?_
        refine W_region ?_
        refine WL_step rfl rfl (Exec.field F101_1 rfl rfl rfl ?_)
        refine WL_step rfl rfl (Exec.load_box (hS20231) A3 rfl rfl rfl ?_)
        refine WL_step rfl rfl (Exec.field F101_0 rfl rfl rfl ?_)
        refine WL_step rfl rfl (Exec.load_box (hS20231) A3 rfl rfl rfl ?_)
        refine WL_step rfl rfl (Exec.field F101_0 rfl rfl rfl ?_)
        refine WL_step rfl rfl (Exec.store_box (ds := [Value.int .i64 (x20168.To)]) (es := [Value.int .i64 (x20168.To), Value.int .i64 (x20168.To), Value.int .i64 (x20219)]) hS20231 A3 rfl rfl rfl rfl (one_cons rfl one_nil) (Nat.le_of_ble_eq_true rfl) rfl ?_)
        intro w20250 hS20251
        refine WL_step rfl rfl (Exec.field F101_1 rfl rfl rfl ?_)
        refine WL_step rfl rfl (Exec.store_box (ds := [Value.int .i64 (x20168.From)]) (es := [Value.int .i64 (x20168.To), Value.int .i64 (x20168.From), Value.int .i64 (x20219)]) hS20251 A3 rfl rfl rfl rfl (one_cons rfl one_nil) (Nat.le_of_ble_eq_true rfl) rfl ?_)
        intro w20252 hS20253
        refine WL_nil (at_normal ?_)
        have e20254 := Option.some.inj ht20243
        subst t20242
        have hS20255 := ((hS20253).f1).drop
        have hS20256 := ((hS20255).f3).f3
        have hS20257 := (hS20256).f3
        exact ⟨s20146, (PHeap.le_refl _), hS20257, p20149, p20150, p20151, p20152, rfl, p20153, p20154, x20155⟩
      · refine W_cond_f rfl hc20245 ?_
        replace hc20245 := not_true hc20245
        refine W_skip (at_normal ?_)
        have e20258 := Option.some.inj ht20243
        subst t20242
        have hS20259 := ((hS20231).f1).drop
        have hS20260 := ((hS20259).f3).f3
        have hS20261 := (hS20260).f3
        exact ⟨s20146, (PHeap.le_refl _), hS20261, p20149, p20150, p20151, p20152, rfl, p20153, p20154, x20155⟩
    · intro f20262 w20263 hM20264
      obtain ⟨z20240, z20241⟩ := t20242
      replace hm20145 := un2_eq hm20145
      obtain ⟨s20265, l20266, hS20267, p20268, p20269, p20270, p20271, p20272, p20273, p20274, p20275⟩ := hM20264
      refine (at_normal ?_)
      refine W_dl (n0 := 11) (.q 0 (.q 1 (.q 2 (.q 3 (.q 4 (.q 5 (.q 6 (.q 7 (.q 8 (.e 9 [0, 1, 2, 3, 4, 5, 6, 7] (.e 10 [0, 1, 2] .done))))))))))) hmix (by kernel_rfl) (by kernel_rfl) ?_
      have hS20349 := hS20267.drew
      refine DL_q rfl rfl (Exec.move (v := v19681) rfl p20271 ⟨rfl, ?_⟩)
      refine DL_q rfl rfl (Exec.field F101_0 rfl p20272 rfl ⟨rfl, ?_⟩)
      refine DL_q rfl rfl (Exec.load_box ((hS20349).f3) A3 rfl rfl rfl ⟨rfl, ?_⟩)
      refine DL_q rfl rfl (Exec.move (v := v19681) rfl p20271 ⟨rfl, ?_⟩)
      refine DL_q rfl rfl (Exec.field F101_0 rfl p20272 rfl ⟨rfl, ?_⟩)
      refine DL_q rfl rfl (Exec.load_box ((hS20349).f3) A3 rfl rfl rfl ⟨rfl, ?_⟩)
      obtain ⟨row20350, q20351, hm20145⟩ := bind_some hm20145
      obtain ⟨h20352, e20353, e20354, _⟩ := ((((hS20349).f2).f2).f1).rows_at q20351
      obtain ⟨g20355, c20356, e20357⟩ := (((hS20349).f2).f2).arr_at e20353
      refine DL_q rfl rfl (Exec.index_slice S99 rfl e20357 rfl (idx_some e20353).1 (idx_some e20353).2.1 ⟨rfl, ?_⟩)
      refine DL_q rfl rfl (Exec.load_arr (F := encRaw) (((hS20349).f2).f2) e20357 A102 rfl rfl rfl e20353 (Sub.refl _) ?_)
      intro v20358 q20359
      replace q20359 := (encRaw_val.1 q20359).1
      subst v20358
      refine ⟨rfl, ?_⟩
      refine DL_q rfl rfl (Exec.load_box_agg (ds := [Value.int .i64 (z20240), Value.int .i64 (z20241), Value.int .i64 (x20219)]) ((hS20349).f3) A101 rfl p20272 rfl ⟨rfl, ?_⟩)
      refine DL_e rfl rfl (Exec.buildSlice (Te := 101) (cs := [Value.int .i64 (z20240), Value.int .i64 (z20241), Value.int .i64 (x20219)]) hS20349 rfl (parts_cons (c := [Value.int .i64 (z20240), Value.int .i64 (z20241), Value.int .i64 (x20219)]) (cells_of rfl rfl) parts_nil) (fun _ => by kernel_rfl) ?_)
      intro b20360 w20361 hS20362
      refine ⟨(ag_cons (ag_r rfl rfl (Exec.move (v := v19681) rfl p20271 ⟨rfl, rfl⟩)) (ag_cons (ag_r rfl rfl (Exec.field F101_0 rfl p20272 rfl ⟨rfl, rfl⟩)) (ag_cons (ag_r rfl rfl (Exec.load_box ((hS20362).f4) A3 rfl rfl rfl ⟨rfl, rfl⟩)) (ag_cons (ag_r rfl rfl (Exec.move (v := v19681) rfl p20271 ⟨rfl, rfl⟩)) (ag_cons (ag_r rfl rfl (Exec.field F101_0 rfl p20272 rfl ⟨rfl, rfl⟩)) (ag_cons (ag_r rfl rfl (Exec.load_box ((hS20362).f4) A3 rfl rfl rfl ⟨rfl, rfl⟩)) (ag_cons (ag_r rfl rfl (Exec.index_slice S99 rfl e20357 rfl (idx_some e20353).1 (idx_some e20353).2.1 ⟨rfl, rfl⟩)) (ag_cons (ag_r rfl rfl (Exec.load_arr (F := encRaw) (((hS20362).f3).f3) e20357 A102 rfl rfl rfl e20353 (Sub.refl _) (fun _ q => ⟨rfl, (encRaw_val.1 q).1⟩))) ag_nil)))))))), ?_⟩
      have hS20363 := ((((hS20362).f3).f3).f1).rows_split e20354 (idx_some q20351).2.2
      obtain ⟨l20364, q20365, hm20145⟩ := bind_some hm20145
      have hS20366 := (hS20363).f3
      have hS20367 := (hS20366).f1
      refine DL_e rfl rfl (Exec.append_box (E := encArc) (ys := [(⟨z20240, z20241, x20219⟩ : Arc)]) hS20367 S102 Z101 rfl (by decide) rfl rfl rfl rfl ⟨[Value.int .i64 (z20240), Value.int .i64 (z20241), Value.int .i64 (x20219)], [], rfl, ⟨[Value.int .i64 (z20240)], [Value.int .i64 (z20241), Value.int .i64 (x20219)], rfl, rfl, ⟨[Value.int .i64 (z20241)], [Value.int .i64 (x20219)], rfl, rfl, rfl⟩⟩, rfl⟩ rfl q20365 ?_)
      intro v20368 w20369 hS20370
      refine ⟨(ag_cons (ag_r rfl rfl (Exec.move (v := v19681) rfl p20271 ⟨rfl, rfl⟩)) (ag_cons (ag_r rfl rfl (Exec.field F101_0 rfl p20272 rfl ⟨rfl, rfl⟩)) (ag_cons (ag_r rfl rfl (Exec.load_box ((hS20370).f4) A3 rfl rfl rfl ⟨rfl, rfl⟩)) ag_nil))), ?_⟩
      refine DL_done ?_
      refine WL_step rfl rfl (Exec.index_slice S99 rfl e20357 rfl (idx_some e20353).1 (idx_some e20353).2.1 ?_)
      obtain ⟨l20371, q20372, hm20145⟩ := bind_some hm20145
      have hS20373 := ((hS20370).f2).f2
      have hS20374 := (hS20373).f2
      refine WL_step rfl rfl (Exec.store_row hS20374 e20354 e20357 A102 rfl rfl rfl rfl q20372 ?_)
      intro hs20375 w20376 hS20377
      refine WL_nil (ib_normal (at_normal ?_))
      refine W_region ?_
      refine WL_step rfl rfl (Exec.add rfl p20275 rfl ?_)
      refine WL_step rfl rfl (Exec.move (v := Value.int .i64 (IntKind.i64.wrap ((i19685 : Int) + 1))) rfl rfl ?_)
      refine WL_nil (at_normal ?_)
      have e20378 := Option.some.inj hm20145
      subst s20140
      have hS20379 := ((hS20377).f3).drop
      have hS20380 := (hS20379).f2
      exact ⟨s20265, hs20375, (PHeap.le.trans l20147 l20266), hS20380, p20268, p20269, p20270, p20271, p20273, p20274, (Eq.trans rfl (wrap_up hi20143 (SliceRep.le a14554)))⟩
  · intro f20381 w20382 hI20383
    obtain ⟨s20384, hs19910, l20385, hS20386, p20387, p20388, p20389, p20390, p20391, p20392, x20393⟩ := hI20383
    refine W_seq ?_
    refine W_region ?_
    refine WL_step rfl rfl (Exec.lss rfl x20393 p20392 ?_)
    refine WL_nil (at_normal ?_)
    refine W_seq ?_
    refine W_false (congrArg Value.bool (decide_eq_false (by omega))) ?_
    refine W_exit (at_exit (at_exit (ib_here (at_normal ?_))))
    refine W_seq ?_
    refine W_region ?_
    refine WL_step rfl rfl (Exec.field F26_0 rfl p20389 rfl ?_)
    refine WL_step rfl rfl (Exec.load_box (hS20386) A3 rfl rfl rfl ?_)
    obtain ⟨l20399, q20400, hm⟩ := bind_some hm
    refine WL_step rfl rfl (Exec.make (E := (encInt .i64)) hS20386 S22 Z3 rfl rfl rfl rfl q20400 ?_)
    intro v20401 w20402 hS20403
    refine WL_step rfl rfl (Exec.assign (v := v20401) rfl rfl ?_)
    refine WL_nil (at_normal ?_)
    refine W_seq ?_
    refine W_seq ?_
    refine W_region ?_
    refine WL_step rfl rfl (Exec.move (v := v20401) rfl rfl ?_)
    refine WL_step rfl rfl (Exec.len_arr (hS20403) S22 rfl rfl ?_)
    refine WL_step rfl rfl (Exec.move (v := Value.int .i64 (0)) rfl rfl ?_)
    refine WL_nil (at_normal ?_)
    obtain ⟨l20426, hB20449, hm⟩ := bind_some hm
    refine W_block (W_forS (fun k' s' f' w' => (fun (l20426 : (List Int)) => ∃ (s20450 : PHeap) , PHeap.le s20384 s20450 ∧ St w0 s20450 (Res.box b19670 26 [Value.int .i64 (x14550.States), Value.int .i64 (x14550.Init), v14551, v14553, v14555] :: Res.arr encRaw 102 v19681 hs19910 :: Res.rows encArc 101 hs19910 l19909 :: Res.arr (encInt .i64) 3 v20401 l20426 :: H) w' ∧ f' 1 = v14558 ∧ f' 3 = Value.pointer (some ⟨b19670, 0, none⟩) ∧ f' 7 = v19681 ∧ f' 11 = v20401 ∧ f' 65 = Value.int .i64 ((l20399.length : Int)) ∧ f' 66 = Value.int .i64 (k' : Int)) s') hB20449 ?_ ?_ ?_)
    · have hS20451 := ((hS20403).f3).f3
      have hS20452 := (hS20451).f3
      exact ⟨s20384, (PHeap.le_refl _), hS20452, p20387, p20389, p20390, rfl, rfl, rfl⟩
    · intro i20404 l20426 s20454 f20455 w20456 hi20457 hI20458 hm20459
      obtain ⟨s20460, l20461, hS20462, p20463, p20464, p20465, p20466, p20467, x20468⟩ := hI20458
      refine W_seq ?_
      refine W_region ?_
      refine WL_step rfl rfl (Exec.lss rfl x20468 p20467 ?_)
      refine WL_nil (at_normal ?_)
      refine W_seq ?_
      refine W_true (congrArg Value.bool (decide_eq_true (by omega))) ?_
      refine W_skip (at_normal ?_)
      refine W_seq ?_
      refine W_block ?_
      refine W_seq ?_
      refine W_region ?_
      refine WL_step rfl rfl (Exec.move (v := Value.int .i64 ((i20404 : Int))) rfl x20468 ?_)
      refine WL_step rfl rfl (Exec.assign (v := Value.int .i64 ((i20404 : Int))) rfl rfl ?_)
      refine WL_nil (at_normal ?_)
      refine W_region ?_
      refine WL_step rfl rfl (Exec.move (v := v20401) rfl p20466 ?_)
      refine WL_step rfl rfl (Exec.move (v := Value.int .i64 ((i20404 : Int))) rfl rfl ?_)
      obtain ⟨x20479, q20480, hm20459⟩ := bind_some hm20459
      obtain ⟨g20481, c20482, e20483⟩ := ((hS20462).f3).arr_at q20480
      refine WL_step rfl rfl (Exec.index_slice S22 rfl e20483 rfl (idx_some q20480).1 (idx_some q20480).2.1 ?_)
      obtain ⟨l20484, q20485, hm20459⟩ := bind_some hm20459
      have hS20486 := (hS20462).f3
      refine WL_step rfl rfl (Exec.store_arr hS20486 e20483 A3 rfl rfl rfl rfl (encInt_val.2 rfl) q20485 ?_)
      intro w20487 hS20488
      refine WL_nil (ib_normal (at_normal ?_))
      refine W_region ?_
      refine WL_step rfl rfl (Exec.add rfl x20468 rfl ?_)
      refine WL_step rfl rfl (Exec.move (v := Value.int .i64 (IntKind.i64.wrap ((i20404 : Int) + 1))) rfl rfl ?_)
      refine WL_nil (at_normal ?_)
      have e20489 := Option.some.inj hm20459
      subst s20454
      have hS20490 := ((hS20488).f3).f3
      have hS20491 := (hS20490).f3
      exact ⟨s20460, l20461, hS20491, p20463, p20464, p20465, p20466, p20467, (Eq.trans rfl (wrap_up hi20457 (hS20403).arr_le))⟩
    · intro f20492 w20493 hI20494
      obtain ⟨s20495, l20496, hS20497, p20498, p20499, p20500, p20501, p20502, x20503⟩ := hI20494
      refine W_seq ?_
      refine W_region ?_
      refine WL_step rfl rfl (Exec.lss rfl x20503 p20502 ?_)
      refine WL_nil (at_normal ?_)
      refine W_seq ?_
      refine W_false (congrArg Value.bool (decide_eq_false (by omega))) ?_
      refine W_exit (at_exit (at_exit (ib_here (at_normal ?_))))
      refine W_seq ?_
      refine W_region ?_
      refine WL_step rfl rfl (Exec.field F26_0 rfl p20499 rfl ?_)
      refine WL_step rfl rfl (Exec.load_box (hS20497) A3 rfl rfl rfl ?_)
      obtain ⟨l20509, q20510, hm⟩ := bind_some hm
      refine WL_step rfl rfl (Exec.make (E := encBool) hS20497 S24 Z4 rfl rfl rfl rfl q20510 ?_)
      intro v20511 w20512 hS20513
      refine WL_step rfl rfl (Exec.assign (v := v20511) rfl rfl ?_)
      refine WL_nil (at_normal ?_)
      refine W_seq ?_
      refine W_region ?_
      refine WL_step rfl rfl (Exec.move (v := v14558) rfl p20498 ?_)
      obtain ⟨y20525, q20524, hm⟩ := bind_some hm
      refine WL_step rfl rfl (Exec.call rfl rfl Try.func36 rfl N36 (args_cons rfl args_nil) ((slices_Clone___int_int__sim q20524 hS20513 (a14559.mono (PHeap.le.trans l20385 l20496))).mono ?_))
      rintro _ w20526 ⟨v20530, rfl, ⟨s20527, _, l20528, hS20529, rfl⟩⟩
      refine ⟨_, rfl, ?_⟩
      have hS20531 := (hS20529).arr_que
      refine WL_step rfl rfl (Exec.assign (v := v20530) rfl rfl ?_)
      refine WL_nil (at_normal ?_)
      refine W_seq ?_
      refine W_seq ?_
      refine W_region ?_
      refine WL_step rfl rfl (Exec.move (v := v14558) rfl p20498 ?_)
      refine WL_step rfl rfl (Exec.len_rep S22 rfl rfl (a14559.mono (PHeap.le.trans (PHeap.le.trans l20385 l20496) l20528)) ?_)
      refine WL_step rfl rfl (Exec.move (v := Value.int .i64 (0)) rfl rfl ?_)
      refine WL_nil (at_normal ?_)
      obtain ⟨t20647, hB20648, hm⟩ := bind_some hm
      refine W_block (W_forS (fun k' s' f' w' => (un2 fun (l20588 : (List Int)) (l20589 : (List Bool)) => ∃ (s20649 : PHeap) , PHeap.le s20527 s20649 ∧ St w0 s20649 (Res.arr encRaw 102 v19681 hs19910 :: Res.rows encArc 101 hs19910 l19909 :: Res.arr (encInt .i64) 3 v20401 l20588 :: Res.arr encBool 4 v20511 l20589 :: Res.que (encInt .i64) 3 v20530 y20525 :: H) w' ∧ f' 7 = v19681 ∧ f' 11 = v20401 ∧ f' 13 = v20511 ∧ f' 14 = v20530 ∧ f' 78 = v14558 ∧ f' 79 = Value.int .i64 ((from_14557.length : Int)) ∧ f' 80 = Value.int .i64 (k' : Int)) s') hB20648 ?_ ?_ ?_)
      · have hS20650 := ((hS20531).f2).drop
        have hS20651 := (hS20650).f1
        have hS20652 := (hS20651).f4
        have hS20653 := ((hS20652).f4).f4
        exact ⟨s20527, (PHeap.le_refl _), hS20653, p20500, p20501, rfl, rfl, rfl, rfl, rfl⟩
      · intro i20532 t20661 s20655 f20656 w20657 hi20658 hI20659 hm20660
        obtain ⟨l20588, l20589⟩ := t20661
        replace hm20660 := un2_eq hm20660
        obtain ⟨s20662, l20663, hS20664, p20665, p20666, p20667, p20668, p20669, p20670, x20671⟩ := hI20659
        refine W_seq ?_
        refine W_region ?_
        refine WL_step rfl rfl (Exec.lss rfl x20671 p20670 ?_)
        refine WL_nil (at_normal ?_)
        refine W_seq ?_
        refine W_true (congrArg Value.bool (decide_eq_true (by omega))) ?_
        refine W_skip (at_normal ?_)
        refine W_seq ?_
        refine W_block ?_
        refine W_seq ?_
        refine W_region ?_
        obtain ⟨x20679, q20680, hm20660⟩ := bind_some hm20660
        refine WL_step rfl rfl (Exec.index_rep S22 rfl p20669 x20671 (a14559.mono (PHeap.le.trans (PHeap.le.trans (PHeap.le.trans l20385 l20496) l20528) l20663)) q20680 ?_)
        intro b20681 o20682 a20683
        refine WL_step rfl rfl (Exec.load_at (E := (encInt .i64)) hS20664 A3 rfl rfl rfl a20683 ?_)
        intro v20684 q20685
        obtain rfl := encInt_val.1 q20685
        refine WL_step rfl rfl (Exec.assign (v := Value.int .i64 (x20679)) rfl rfl ?_)
        refine WL_nil (at_normal ?_)
        refine W_region ?_
        refine WL_step rfl rfl (Exec.move (v := v20401) rfl p20666 ?_)
        refine WL_step rfl rfl (Exec.move (v := Value.int .i64 (x20679)) rfl rfl ?_)
        refine WL_step rfl rfl (Exec.move (v := v20511) rfl p20667 ?_)
        refine WL_step rfl rfl (Exec.move (v := Value.int .i64 (x20679)) rfl rfl ?_)
        obtain ⟨x20706, q20707, hm20660⟩ := bind_some hm20660
        obtain ⟨g20708, c20709, e20710⟩ := ((hS20664).f2).arr_at q20707
        refine WL_step rfl rfl (Exec.index_slice S22 rfl e20710 rfl (idx_some q20707).1 (idx_some q20707).2.1 ?_)
        obtain ⟨l20711, q20712, hm20660⟩ := bind_some hm20660
        have hS20713 := (hS20664).f2
        refine WL_step rfl rfl (Exec.store_arr hS20713 e20710 A3 rfl rfl rfl rfl (encInt_val.2 rfl) q20712 ?_)
        intro w20714 hS20715
        obtain ⟨x20716, q20717, hm20660⟩ := bind_some hm20660
        obtain ⟨g20718, c20719, e20720⟩ := ((hS20715).f3).arr_at q20717
        refine WL_step rfl rfl (Exec.index_slice S24 rfl e20720 rfl (idx_some q20717).1 (idx_some q20717).2.1 ?_)
        obtain ⟨l20721, q20722, hm20660⟩ := bind_some hm20660
        have hS20723 := (hS20715).f3
        refine WL_step rfl rfl (Exec.store_arr hS20723 e20720 A4 rfl rfl rfl rfl (encBool_val.2 rfl) q20722 ?_)
        intro w20724 hS20725
        refine WL_nil (ib_normal (at_normal ?_))
        refine W_region ?_
        refine WL_step rfl rfl (Exec.add rfl x20671 rfl ?_)
        refine WL_step rfl rfl (Exec.move (v := Value.int .i64 (IntKind.i64.wrap ((i20532 : Int) + 1))) rfl rfl ?_)
        refine WL_nil (at_normal ?_)
        have e20726 := Option.some.inj hm20660
        subst s20655
        have hS20727 := (hS20725).f4
        have hS20728 := (hS20727).f1
        have hS20729 := (hS20728).f2
        have hS20730 := ((hS20729).f4).f4
        exact ⟨s20662, l20663, hS20730, p20665, p20666, p20667, p20668, p20669, p20670, (Eq.trans rfl (wrap_up hi20658 (SliceRep.le (a14559.mono (PHeap.le.trans (PHeap.le.trans l20385 l20496) l20528)))))⟩
      · intro f20731 w20732 hI20733
        obtain ⟨l20588, l20589⟩ := t20647
        replace hm := un2_eq hm
        obtain ⟨s20734, l20735, hS20736, p20737, p20738, p20739, p20740, p20741, p20742, x20743⟩ := hI20733
        refine W_seq ?_
        refine W_region ?_
        refine WL_step rfl rfl (Exec.lss rfl x20743 p20742 ?_)
        refine WL_nil (at_normal ?_)
        refine W_seq ?_
        refine W_false (congrArg Value.bool (decide_eq_false (by omega))) ?_
        refine W_exit (at_exit (at_exit (ib_here (at_normal ?_))))
        refine W_seq ?_
        obtain ⟨c23727, hB23728, hr23729, hn23730, hb23731⟩ := ctl_some hm
        refine W_mid (M := fun f' w' => ∃ s', (c23727 = .next s' ∨ c23727 = .brk s') ∧ (un3 fun (l23723 : (List Int)) (l23724 : (List Bool)) (l23725 : (List Int)) => ∃ (s23733 : PHeap) (v23726 : Value), PHeap.le s20734 s23733 ∧ St w0 s23733 (Res.arr encRaw 102 v19681 hs19910 :: Res.rows encArc 101 hs19910 l19909 :: Res.arr (encInt .i64) 3 v20401 l23723 :: Res.arr encBool 4 v20511 l23724 :: Res.que (encInt .i64) 3 v23726 l23725 :: H) w' ∧ f' 7 = v19681 ∧ f' 11 = v20401 ∧ f' 13 = v20511 ∧ f' 14 = v23726) s') ?_ ?_
        · refine W_block (W_while (fun s' f' w' => (un3 fun (l21734 : (List Int)) (l21735 : (List Bool)) (l21736 : (List Int)) => ∃ (s23732 : PHeap) (v21737 : Value), PHeap.le s20734 s23732 ∧ St w0 s23732 (Res.arr encRaw 102 v19681 hs19910 :: Res.rows encArc 101 hs19910 l19909 :: Res.arr (encInt .i64) 3 v20401 l21734 :: Res.arr encBool 4 v20511 l21735 :: Res.que (encInt .i64) 3 v21737 l21736 :: H) w' ∧ f' 7 = v19681 ∧ f' 11 = v20401 ∧ f' 13 = v20511 ∧ f' 14 = v21737) s') hB23728 ?_ ?_)
          · have hS23734 := (hS20736).f4
            have hS23735 := (hS23734).f4
            have hS23736 := (hS23735).f4
            have hS23737 := ((hS23736).f4).f4
            exact ⟨s20734, v20530, (PHeap.le_refl _), hS23737, p20737, p20738, p20739, p20740⟩
          · intro t23745 c23739 f23740 w23741 hI23742 hm23743 hres23744
            obtain ⟨l21734, l21735, l21736⟩ := t23745
            replace hm23743 := un3_eq hm23743
            obtain ⟨s23746, v21737, l23747, hS23748, p23749, p23750, p23751, p23752⟩ := hI23742
            refine W_seq ?_
            refine W_seq ?_
            refine W_region ?_
            refine WL_step rfl rfl (Exec.move (v := v21737) rfl p23752 ?_)
            refine WL_step rfl rfl (Exec.len_que ((hS23748).f4) S22 rfl rfl ?_)
            refine WL_step rfl rfl (Exec.gtr rfl rfl rfl ?_)
            refine WL_nil (at_normal ?_)
            rcases ite_some hm23743 with ⟨hc23753, hm23743⟩ | ⟨hc23753, hm23743⟩
            · refine W_cond_t rfl hc23753 ?_
              refine W_skip (at_normal ?_)
              refine W_block ?_
              refine W_seq ?_
              refine W_region ?_
              refine WL_step rfl rfl (Exec.move (v := v21737) rfl p23752 ?_)
              obtain ⟨x23761, q23762, hm23743⟩ := bind_some hm23743
              refine WL_step rfl rfl (Exec.index_que ((hS23748).f4) S22 rfl rfl rfl q23762 ?_)
              intro b23763 o23764 a23765
              refine WL_step rfl rfl (Exec.load_cur (E := (encInt .i64)) a23765 A3 rfl rfl ?_)
              intro v23766 q23767
              obtain rfl := encInt_val.1 q23767
              refine WL_step rfl rfl (Exec.assign (v := Value.int .i64 (x23761)) rfl rfl ?_)
              refine WL_nil (at_normal ?_)
              refine W_seq ?_
              refine W_region ?_
              refine WL_step rfl rfl (Exec.move (v := v20511) rfl p23751 ?_)
              refine WL_step rfl rfl (Exec.move (v := Value.int .i64 (x23761)) rfl rfl ?_)
              refine WL_step rfl rfl (Exec.move (v := v21737) rfl p23752 ?_)
              obtain ⟨c23783, q23784, hm23743⟩ := bind_some hm23743
              have hS23785 := (hS23748).f4
              refine WL_step rfl rfl (Exec.slice_que hS23785 S22 rfl rfl rfl q23784 ?_)
              intro v23786 hS23787
              refine WL_step rfl rfl (Exec.assign (v := v23786) rfl rfl ?_)
              obtain ⟨x23788, q23789, hm23743⟩ := bind_some hm23743
              obtain ⟨g23790, c23791, e23792⟩ := ((hS23787).f4).arr_at q23789
              refine WL_step rfl rfl (Exec.index_slice S24 rfl e23792 rfl (idx_some q23789).1 (idx_some q23789).2.1 ?_)
              obtain ⟨l23793, q23794, hm23743⟩ := bind_some hm23743
              have hS23795 := (hS23787).f4
              refine WL_step rfl rfl (Exec.store_arr hS23795 e23792 A4 rfl rfl rfl rfl (encBool_val.2 rfl) q23794 ?_)
              intro w23796 hS23797
              refine WL_nil (at_normal ?_)
              refine W_seq ?_
              refine W_region ?_
              refine WL_step rfl rfl (Exec.move (v := v19681) rfl p23749 ?_)
              refine WL_step rfl rfl (Exec.move (v := Value.int .i64 (x23761)) rfl rfl ?_)
              obtain ⟨row23808, q23809, hm23743⟩ := bind_some hm23743
              obtain ⟨h23810, e23811, e23812, _⟩ := ((((hS23797).f3).f3).f1).rows_at q23809
              obtain ⟨g23813, c23814, e23815⟩ := (((hS23797).f3).f3).arr_at e23811
              refine WL_step rfl rfl (Exec.index_slice S99 rfl e23815 rfl (idx_some e23811).1 (idx_some e23811).2.1 ?_)
              refine WL_step rfl rfl (Exec.load_arr (F := encRaw) (((hS23797).f3).f3) e23815 A102 rfl rfl rfl e23811 (Sub.refl _) ?_)
              intro v23816 q23817
              replace q23817 := (encRaw_val.1 q23817).1
              subst v23816
              refine WL_step rfl rfl (Exec.len_arr (((((hS23797).f3).f3).f1).rows_split e23812 (idx_some q23809).2.2) S102 rfl rfl ?_)
              refine WL_step rfl rfl (Exec.move (v := Value.int .i64 (0)) rfl rfl ?_)
              refine WL_nil (at_normal ?_)
              obtain ⟨u23818, q23819, hm23743⟩ := bind_some hm23743
              obtain ⟨t24407, hB24408, hm23743⟩ := bind_some hm23743
              refine W_block (W_forS (fun k' s' f' w' => (un3 fun (l24110 : (List Int)) (l24111 : (List Bool)) (l24112 : (List Int)) => ∃ (s24409 : PHeap) (v24113 : Value), PHeap.le s23746 s24409 ∧ St w0 s24409 (Res.arr encRaw 102 v19681 hs19910 :: Res.rows encArc 101 hs19910 l19909 :: Res.arr (encInt .i64) 3 v20401 l24110 :: Res.arr encBool 4 v20511 l24111 :: Res.que (encInt .i64) 3 v24113 l24112 :: H) w' ∧ f' 7 = v19681 ∧ f' 11 = v20401 ∧ f' 13 = v20511 ∧ f' 14 = v24113 ∧ f' 17 = Value.int .i64 (x23761) ∧ f' 105 = h23810 ∧ f' 106 = Value.int .i64 ((row23808.length : Int)) ∧ f' 107 = Value.int .i64 (k' : Int)) s') hB24408 ?_ ?_ ?_)
              · have hS24410 := (hS23797).f1
                have hS24411 := (hS24410).f1
                have hS24412 := (hS24411).f4
                have hS24413 := ((hS24412).f4).f4
                exact ⟨s23746, v23786, (PHeap.le_refl _), hS24413, p23749, p23750, p23751, rfl, rfl, rfl, rfl, rfl⟩
              · intro i23820 t24421 s24415 f24416 w24417 hi24418 hI24419 hm24420
                obtain ⟨l24110, l24111, l24112⟩ := t24421
                replace hm24420 := un3_eq hm24420
                obtain ⟨s24422, v24113, l24423, hS24424, p24425, p24426, p24427, p24428, p24429, p24430, p24431, x24432⟩ := hI24419
                refine W_seq ?_
                refine W_region ?_
                refine WL_step rfl rfl (Exec.lss rfl x24432 p24431 ?_)
                refine WL_nil (at_normal ?_)
                refine W_seq ?_
                refine W_true (congrArg Value.bool (decide_eq_true (by omega))) ?_
                refine W_skip (at_normal ?_)
                refine W_seq ?_
                refine W_block ?_
                refine W_seq ?_
                refine W_region ?_
                obtain ⟨x24445, q24446, hm24420⟩ := bind_some hm24420
                obtain ⟨g24447, c24448, e24449⟩ := (((hS24424).f1).rows_split e23812 (idx_some q23809).2.2).arr_at q24446
                refine WL_step rfl rfl (Exec.index_slice S102 rfl (Eq.trans p24430 e24449) x24432 (idx_some q24446).1 (idx_some q24446).2.1 ?_)
                refine WL_step rfl rfl (Exec.load_arr (F := encArc) (((hS24424).f1).rows_split e23812 (idx_some q23809).2.2) e24449 A101 rfl rfl rfl q24446 (Sub.refl _) ?_)
                intro v24450 q24451
                obtain rfl := encArc_val.1 q24451
                refine WL_step rfl rfl (Exec.alloc (cs := [Value.int .i64 (0), Value.int .i64 (0), Value.int .i64 (0)]) hS24424 Z101 rfl rfl ?_)
                intro b24452 w24453 hS24454
                refine WL_step rfl rfl (Exec.store_box (ds := [Value.int .i64 (x24445.From), Value.int .i64 (x24445.To), Value.int .i64 (x24445.Weight)]) (es := [Value.int .i64 (x24445.From), Value.int .i64 (x24445.To), Value.int .i64 (x24445.Weight)]) hS24454 A101 rfl rfl rfl rfl (one_cons rfl (one_cons rfl (one_cons rfl one_nil))) (Nat.le_of_ble_eq_true rfl) rfl ?_)
                intro w24455 hS24456
                refine WL_nil (at_normal ?_)
                refine W_seq ?_
                refine W_seq ?_
                refine W_dl (n0 := 13) (.q 0 (.q 1 (.q 2 (.q 3 (.q 4 (.q 5 (.q 6 (.q 7 (.q 8 (.q 9 (.q 10 (.q 11 (.q 12 .done))))))))))))) hmix (by kernel_rfl) (by kernel_rfl) ?_
                have hS24502 := hS24456.drew
                refine DL_q rfl rfl (Exec.move (v := v20401) rfl p24426 ⟨rfl, ?_⟩)
                refine DL_q rfl rfl (Exec.move (v := Value.int .i64 (x23761)) rfl p24429 ⟨rfl, ?_⟩)
                obtain ⟨x24503, q24504, hm24420⟩ := bind_some hm24420
                obtain ⟨g24505, c24506, e24507⟩ := ((hS24502).f3).arr_at q24504
                refine DL_q rfl rfl (Exec.index_slice S22 rfl e24507 rfl (idx_some q24504).1 (idx_some q24504).2.1 ⟨rfl, ?_⟩)
                refine DL_q rfl rfl (Exec.load_arr (F := (encInt .i64)) ((hS24502).f3) e24507 A3 rfl rfl rfl q24504 (Sub.refl _) ?_)
                intro v24508 q24509
                obtain rfl := encInt_val.1 q24509
                refine ⟨rfl, ?_⟩
                refine DL_q rfl rfl (Exec.field F101_2 rfl rfl rfl ⟨rfl, ?_⟩)
                refine DL_q rfl rfl (Exec.load_box (hS24502) A3 rfl rfl rfl ⟨rfl, ?_⟩)
                refine DL_q rfl rfl (Exec.add rfl rfl rfl ⟨rfl, ?_⟩)
                refine DL_q rfl rfl (Exec.move (v := v20401) rfl p24426 ⟨rfl, ?_⟩)
                refine DL_q rfl rfl (Exec.field F101_1 rfl rfl rfl ⟨rfl, ?_⟩)
                refine DL_q rfl rfl (Exec.load_box (hS24502) A3 rfl rfl rfl ⟨rfl, ?_⟩)
                obtain ⟨x24510, q24511, hm24420⟩ := bind_some hm24420
                obtain ⟨g24512, c24513, e24514⟩ := ((hS24502).f3).arr_at q24511
                refine DL_q rfl rfl (Exec.index_slice S22 rfl e24514 rfl (idx_some q24511).1 (idx_some q24511).2.1 ⟨rfl, ?_⟩)
                refine DL_q rfl rfl (Exec.load_arr (F := (encInt .i64)) ((hS24502).f3) e24514 A3 rfl rfl rfl q24511 (Sub.refl _) ?_)
                intro v24515 q24516
                obtain rfl := encInt_val.1 q24516
                refine ⟨rfl, ?_⟩
                refine DL_q rfl rfl (Exec.geq rfl rfl rfl ⟨rfl, ?_⟩)
                refine DL_done ?_
                refine WL_nil (at_normal ?_)
                rcases ite_some hm24420 with ⟨hc24517, hm24420⟩ | ⟨hc24517, hm24420⟩
                · refine W_cond_t rfl hc24517 ?_
                  refine W_exit (at_exit (ib_here (at_normal ?_)))
                  refine W_region ?_
                  refine WL_step rfl rfl (Exec.add rfl x24432 rfl ?_)
                  refine WL_step rfl rfl (Exec.move (v := Value.int .i64 (IntKind.i64.wrap ((i23820 : Int) + 1))) rfl rfl ?_)
                  refine WL_nil (at_normal ?_)
                  have e24518 := Option.some.inj hm24420
                  subst s24415
                  have hS24519 := (hS24502).drop
                  have hS24520 := (hS24519).f4
                  have hS24521 := (hS24520).f4
                  have hS24522 := (hS24521).f4
                  have hS24523 := ((hS24522).f4).f4
                  exact ⟨s24422, v24113, l24423, hS24523, p24425, p24426, p24427, p24428, p24429, p24430, p24431, (Eq.trans rfl (wrap_up hi24418 (by have h := must_some q23819; simpa [maxLen] using h)))⟩
                · refine W_cond_f rfl hc24517 ?_
                  replace hc24517 := not_true hc24517
                  refine W_skip (at_normal ?_)
                  refine W_seq ?_
                  refine W_dl (n0 := 10) (.q 0 (.q 1 (.q 2 (.q 3 (.q 4 (.q 5 (.q 6 (.q 7 (.q 8 (.q 9 .done)))))))))) hmix (by kernel_rfl) (by kernel_rfl) ?_
                  have hS24550 := hS24502.drew
                  refine DL_q rfl rfl (Exec.move (v := v20401) rfl p24426 ⟨rfl, ?_⟩)
                  refine DL_q rfl rfl (Exec.field F101_1 rfl rfl rfl ⟨rfl, ?_⟩)
                  refine DL_q rfl rfl (Exec.load_box (hS24550) A3 rfl rfl rfl ⟨rfl, ?_⟩)
                  refine DL_q rfl rfl (Exec.move (v := v20401) rfl p24426 ⟨rfl, ?_⟩)
                  refine DL_q rfl rfl (Exec.move (v := Value.int .i64 (x23761)) rfl p24429 ⟨rfl, ?_⟩)
                  obtain ⟨g24551, c24552, e24553⟩ := ((hS24550).f3).arr_at q24504
                  refine DL_q rfl rfl (Exec.index_slice S22 rfl e24553 rfl (idx_some q24504).1 (idx_some q24504).2.1 ⟨rfl, ?_⟩)
                  refine DL_q rfl rfl (Exec.load_arr (F := (encInt .i64)) ((hS24550).f3) e24553 A3 rfl rfl rfl q24504 (Sub.refl _) ?_)
                  intro v24554 q24555
                  obtain rfl := encInt_val.1 q24555
                  refine ⟨rfl, ?_⟩
                  refine DL_q rfl rfl (Exec.field F101_2 rfl rfl rfl ⟨rfl, ?_⟩)
                  refine DL_q rfl rfl (Exec.load_box (hS24550) A3 rfl rfl rfl ⟨rfl, ?_⟩)
                  refine DL_q rfl rfl (Exec.add rfl rfl rfl ⟨rfl, ?_⟩)
                  refine DL_done ?_
                  obtain ⟨g24556, c24557, e24558⟩ := ((hS24550).f3).arr_at q24511
                  refine WL_step rfl rfl (Exec.index_slice S22 rfl e24558 rfl (idx_some q24511).1 (idx_some q24511).2.1 ?_)
                  obtain ⟨l24559, q24560, hm24420⟩ := bind_some hm24420
                  have hS24561 := (hS24550).f3
                  refine WL_step rfl rfl (Exec.store_arr hS24561 e24558 A3 rfl rfl rfl rfl (encInt_val.2 rfl) q24560 ?_)
                  intro w24562 hS24563
                  refine WL_nil (at_normal ?_)
                  refine W_seq ?_
                  refine W_region ?_
                  refine WL_step rfl rfl (Exec.move (v := v20511) rfl p24427 ?_)
                  refine WL_step rfl rfl (Exec.field F101_1 rfl rfl rfl ?_)
                  refine WL_step rfl rfl (Exec.load_box ((hS24563).f1) A3 rfl rfl rfl ?_)
                  obtain ⟨x24571, q24572, hm24420⟩ := bind_some hm24420
                  obtain ⟨g24573, c24574, e24575⟩ := ((hS24563).f4).arr_at q24572
                  refine WL_step rfl rfl (Exec.index_slice S24 rfl e24575 rfl (idx_some q24572).1 (idx_some q24572).2.1 ?_)
                  refine WL_step rfl rfl (Exec.load_arr (F := encBool) ((hS24563).f4) e24575 A4 rfl rfl rfl q24572 (Sub.refl _) ?_)
                  intro v24576 q24577
                  obtain rfl := encBool_val.1 q24577
                  refine WL_step rfl rfl (Exec.not rfl rfl ?_)
                  refine WL_nil (at_normal ?_)
                  obtain ⟨t24637, ht24638, hm24420⟩ := bind_some hm24420
                  refine W_mid (M := fun f' w' => (un2 fun (l24634 : (List Bool)) (l24635 : (List Int)) => ∃ (s24639 : PHeap) (v24636 : Value), PHeap.le s24422 s24639 ∧ St w0 s24639 (Res.arr encRaw 102 v19681 hs19910 :: Res.rows encArc 101 hs19910 l19909 :: Res.arr (encInt .i64) 3 v20401 l24559 :: Res.arr encBool 4 v20511 l24634 :: Res.que (encInt .i64) 3 v24636 l24635 :: H) w' ∧ f' 7 = v19681 ∧ f' 11 = v20401 ∧ f' 13 = v20511 ∧ f' 14 = v24636 ∧ f' 17 = Value.int .i64 (x23761) ∧ f' 105 = h23810 ∧ f' 106 = Value.int .i64 ((row23808.length : Int)) ∧ f' 107 = Value.int .i64 ((i23820 : Int))) t24637) ?_ ?_
                  · rcases ite_some ht24638 with ⟨hc24640, ht24638⟩ | ⟨hc24640, ht24638⟩
                    · refine W_cond_t rfl hc24640 ?_
                      refine W_dl (n0 := 9) (.q 0 (.q 1 (.q 2 (.q 3 (.q 4 (.q 5 (.e 6 [0, 1, 2, 3] (.e 7 [0, 1, 2] (.e 8 [0, 1, 2] .done))))))))) hmix (by kernel_rfl) (by kernel_rfl) ?_
                      have hS24679 := hS24563.drew
                      refine DL_q rfl rfl (Exec.move (v := v20511) rfl p24427 ⟨rfl, ?_⟩)
                      refine DL_q rfl rfl (Exec.field F101_1 rfl rfl rfl ⟨rfl, ?_⟩)
                      refine DL_q rfl rfl (Exec.load_box ((hS24679).f1) A3 rfl rfl rfl ⟨rfl, ?_⟩)
                      refine DL_q rfl rfl (Exec.move (v := v24113) rfl p24428 ⟨rfl, ?_⟩)
                      refine DL_q rfl rfl (Exec.field F101_1 rfl rfl rfl ⟨rfl, ?_⟩)
                      refine DL_q rfl rfl (Exec.load_box ((hS24679).f1) A3 rfl rfl rfl ⟨rfl, ?_⟩)
                      refine DL_e rfl rfl (Exec.buildSlice (Te := 3) (cs := [Value.int .i64 (x24445.To)]) hS24679 rfl (parts_cons (c := [Value.int .i64 (x24445.To)]) (cells_of rfl rfl) parts_nil) (fun _ => by kernel_rfl) ?_)
                      intro b24680 w24681 hS24682
                      refine ⟨(ag_cons (ag_r rfl rfl (Exec.move (v := v20511) rfl p24427 ⟨rfl, rfl⟩)) (ag_cons (ag_r rfl rfl (Exec.field F101_1 rfl rfl rfl ⟨rfl, rfl⟩)) (ag_cons (ag_r rfl rfl (Exec.load_box ((hS24682).f2) A3 rfl rfl rfl ⟨rfl, rfl⟩)) (ag_cons (ag_r rfl rfl (Exec.move (v := v24113) rfl p24428 ⟨rfl, rfl⟩)) ag_nil)))), ?_⟩
                      obtain ⟨l24683, q24684, ht24638⟩ := bind_some ht24638
                      have hS24685 := (hS24682).f6
                      refine DL_e rfl rfl (Exec.append_que (E := (encInt .i64)) (ys := [x24445.To]) hS24685 S22 Z3 rfl (by decide) rfl rfl rfl rfl ⟨[Value.int .i64 (x24445.To)], [], rfl, rfl, rfl⟩ rfl q24684 ?_)
                      intro v24686 w24687 hS24688
                      refine ⟨(ag_cons (ag_r rfl rfl (Exec.move (v := v20511) rfl p24427 ⟨rfl, rfl⟩)) (ag_cons (ag_r rfl rfl (Exec.field F101_1 rfl rfl rfl ⟨rfl, rfl⟩)) (ag_cons (ag_r rfl rfl (Exec.load_box ((hS24688).f2) A3 rfl rfl rfl ⟨rfl, rfl⟩)) ag_nil))), ?_⟩
                      refine DL_e rfl rfl (Exec.assign (v := v24686) rfl rfl ?_)
                      refine ⟨(ag_cons (ag_r rfl rfl (Exec.move (v := v20511) rfl p24427 ⟨rfl, rfl⟩)) (ag_cons (ag_r rfl rfl (Exec.field F101_1 rfl rfl rfl ⟨rfl, rfl⟩)) (ag_cons (ag_r rfl rfl (Exec.load_box ((hS24688).f2) A3 rfl rfl rfl ⟨rfl, rfl⟩)) ag_nil))), ?_⟩
                      refine DL_done ?_
                      obtain ⟨g24689, c24690, e24691⟩ := ((hS24688).f5).arr_at q24572
                      refine WL_step rfl rfl (Exec.index_slice S24 rfl e24691 rfl (idx_some q24572).1 (idx_some q24572).2.1 ?_)
                      obtain ⟨l24692, q24693, ht24638⟩ := bind_some ht24638
                      have hS24694 := (hS24688).f5
                      refine WL_step rfl rfl (Exec.store_arr hS24694 e24691 A4 rfl rfl rfl rfl (encBool_val.2 rfl) q24693 ?_)
                      intro w24695 hS24696
                      refine WL_nil (at_normal ?_)
                      have e24697 := Option.some.inj ht24638
                      subst t24637
                      have hS24698 := ((hS24696).f3).drop
                      have hS24699 := (hS24698).f1
                      have hS24700 := (hS24699).f1
                      have hS24701 := (hS24700).f2
                      have hS24702 := ((hS24701).f4).f4
                      exact ⟨s24422, v24686, (PHeap.le_refl _), hS24702, p24425, p24426, p24427, rfl, p24429, p24430, p24431, x24432⟩
                    · refine W_cond_f rfl hc24640 ?_
                      replace hc24640 := not_true hc24640
                      refine W_skip (at_normal ?_)
                      have e24703 := Option.some.inj ht24638
                      subst t24637
                      have hS24704 := ((hS24563).f1).drop
                      have hS24705 := (hS24704).f4
                      have hS24706 := (hS24705).f4
                      have hS24707 := (hS24706).f2
                      have hS24708 := ((hS24707).f4).f4
                      exact ⟨s24422, v24113, (PHeap.le_refl _), hS24708, p24425, p24426, p24427, p24428, p24429, p24430, p24431, x24432⟩
                  · intro f24709 w24710 hM24711
                    obtain ⟨l24634, l24635⟩ := t24637
                    replace hm24420 := un2_eq hm24420
                    obtain ⟨s24712, v24636, l24713, hS24714, p24715, p24716, p24717, p24718, p24719, p24720, p24721, p24722⟩ := hM24711
                    refine (ib_normal (at_normal ?_))
                    refine W_region ?_
                    refine WL_step rfl rfl (Exec.add rfl p24722 rfl ?_)
                    refine WL_step rfl rfl (Exec.move (v := Value.int .i64 (IntKind.i64.wrap ((i23820 : Int) + 1))) rfl rfl ?_)
                    refine WL_nil (at_normal ?_)
                    have e24723 := Option.some.inj hm24420
                    subst s24415
                    have hS24724 := (hS24714).f4
                    have hS24725 := (hS24724).f4
                    have hS24726 := (hS24725).f4
                    have hS24727 := ((hS24726).f4).f4
                    exact ⟨s24712, v24636, (PHeap.le.trans l24423 l24713), hS24727, p24715, p24716, p24717, p24718, p24719, p24720, p24721, (Eq.trans rfl (wrap_up hi24418 (by have h := must_some q23819; simpa [maxLen] using h)))⟩
              · intro f24728 w24729 hI24730
                obtain ⟨l24110, l24111, l24112⟩ := t24407
                replace hm23743 := un3_eq hm23743
                obtain ⟨s24731, v24113, l24732, hS24733, p24734, p24735, p24736, p24737, p24738, p24739, p24740, x24741⟩ := hI24730
                refine W_seq ?_
                refine W_region ?_
                refine WL_step rfl rfl (Exec.lss rfl x24741 p24740 ?_)
                refine WL_nil (at_normal ?_)
                refine W_seq ?_
                refine W_false (congrArg Value.bool (decide_eq_false (by omega))) ?_
                refine W_exit (at_exit (at_exit (ib_here (ib_normal (at_normal ?_)))))
                have e24742 := Option.some.inj hm23743
                subst c23739
                have hS24743 := (hS24733).f4
                have hS24744 := (hS24743).f4
                have hS24745 := (hS24744).f4
                have hS24746 := ((hS24745).f4).f4
                refine ⟨_, rfl, ?_⟩; exact ⟨s24731, v24113, (PHeap.le.trans l23747 l24732), hS24746, p24734, p24735, p24736, p24737⟩
            · refine W_cond_f rfl hc23753 ?_
              replace hc23753 := not_true hc23753
              refine W_exit (at_exit (at_exit (ib_here (at_normal ?_))))
              have e24747 := Option.some.inj hm23743
              subst c23739
              have hS24748 := (hS23748).f4
              have hS24749 := (hS24748).f4
              have hS24750 := (hS24749).f4
              have hS24751 := ((hS24750).f4).f4
              refine ⟨_, .inr (hres23744 (by intro _ h; cases h)), ?_⟩; exact ⟨s23746, v21737, l23747, hS24751, p23749, p23750, p23751, p23752⟩
        · rintro f24752 w24753 ⟨t24754, hc24755, hM24756⟩
          have hm := hc24755.elim (hn23730 _) (hb23731 _)
          clear hc24755
          obtain ⟨l23723, l23724, l23725⟩ := t24754
          replace hm := un3_eq hm
          obtain ⟨s24757, v23726, l24758, hS24759, p24760, p24761, p24762, p24763⟩ := hM24756
          refine (at_normal ?_)
          refine W_seq ?_
          refine W_region ?_
          refine WL_step rfl rfl (Exec.move (v := v20401) rfl p24761 ?_)
          refine WL_step rfl rfl (Exec.assign (v := v20401) rfl rfl ?_)
          refine WL_nil (at_normal ?_)
          refine W_ret ?_
          have e24765 := Option.some.inj hm
          subst r
          refine ⟨_, ret1 rfl, ?_⟩
          have hS24766 := (hS24759).f2
          obtain ⟨s24767, l24768, hS24769, r24770⟩ := hS24766.freezeArr
          have hS24771 := ((hS24769).drop).drop
          have hS24772 := (hS24771).drop
          have hS24773 := (hS24772).drop
          exact ⟨s24767, v20401, (PHeap.le.trans (PHeap.le.trans (PHeap.le.trans (PHeap.le.trans (PHeap.le.trans l20385 l20496) l20528) l20735) l24758) l24768), hS24773, rfl, r24770⟩

theorem N18 : (Try.f18.name == "runtime.NumGoroutine") = false := by kernel_rfl

theorem transys_Distances_sim {w0 w : World} {s : PHeap} {H : List Res} {x13987 : System} {v13988 : Value} {v13990 : Value} {v13992 : Value} {r : (List Int) × (Option Int)} (hm : transys_Distances_p x13987 = some r) (hS : St w0 s (H) w) (a13989 : SliceRep (encInt .i64) s v13988 x13987.Costs) (a13991 : SliceRep encEdge s v13990 x13987.Edges) (a13993 : SliceRep encBool s v13992 x13987.Goals) :
    Calls Try.prog 18 #[Value.agg #[Value.int .i64 (x13987.States), Value.int .i64 (x13987.Init), v13988, v13990, v13992]] w fun e w' => ∃ v, e = .returned v ∧ ((un2 fun (y24841 : (List Int)) (y24842 : (Option Int)) => ∃ (s24844 : PHeap) (v24843 : Value), PHeap.le s s24844 ∧ St w0 s24844 (H) w' ∧ v = Value.tuple #[v24843, errV 39 (y24842)] ∧ SliceRep (encInt .i64) s24844 v24843 y24841) r) := by
  unfold transys_Distances_p at hm
  refine calls_of_W Try.func18 rfl rfl ?_
  refine W_seq ?_
  refine W_region ?_
  refine WL_step rfl rfl (Exec.box (cs := [Value.int .i64 (x13987.States), Value.int .i64 (x13987.Init), v13988, v13990, v13992]) hS rfl rfl rfl ?_)
  intro b24848 w24849 hS24850
  refine WL_step rfl rfl (Exec.assign (v := Value.slice none 0 0) rfl rfl ?_)
  refine WL_step rfl rfl (Exec.assign (v := errV 39 (none)) rfl rfl ?_)
  refine WL_nil (at_normal ?_)
  refine W_seq ?_
  refine W_seq ?_
  refine W_region ?_
  refine WL_step rfl rfl (Exec.load_box_agg (ds := [Value.int .i64 (x13987.States), Value.int .i64 (x13987.Init), v13988, v13990, v13992]) (hS24850) A26 rfl rfl rfl ?_)
  obtain ⟨y24860, q24859, hm⟩ := bind_some hm
  refine WL_step rfl rfl (Exec.call rfl rfl Try.func25 rfl N25 (args_cons rfl args_nil) ((transys_Valid_sim q24859 hS24850 a13989 a13991 a13993).mono ?_))
  rintro _ w24861 ⟨_, rfl, ⟨s24862, l24863, hS24864, rfl⟩⟩
  refine ⟨_, rfl, ?_⟩
  refine WL_step rfl rfl (Exec.not rfl rfl ?_)
  refine WL_nil (at_normal ?_)
  rcases ite_some hm with ⟨hc24865, hm⟩ | ⟨hc24865, hm⟩
  · refine W_cond_t rfl hc24865 ?_
    refine W_seq ?_
    refine W_region ?_
    refine WL_step rfl rfl (Exec.makeInterface C39 rfl rfl ?_)
    refine WL_step rfl rfl (Exec.assign (v := Value.slice none 0 0) rfl rfl ?_)
    refine WL_step rfl rfl (Exec.assign (v := errV 39 (some 2)) rfl rfl ?_)
    refine WL_nil (at_normal ?_)
    refine W_ret (at_ret ?_)
    have e24867 := Option.some.inj hm
    subst r
    refine ⟨_, ret2 rfl, ?_⟩
    have hS24868 := (hS24864).drop
    exact ⟨s24862, (Value.slice none 0 0), l24863, hS24868, (tup2 rfl rfl), (SliceRep.nil _ _)⟩
  · refine W_cond_f rfl hc24865 ?_
    replace hc24865 := not_true hc24865
    refine W_skip (at_normal ?_)
    refine W_seq ?_
    refine W_dl (n0 := 4) (.q 0 (.q 1 (.e 2 [0] (.e 3 [] .done)))) hmix (by kernel_rfl) (by kernel_rfl) ?_
    have hS24926 := hS24864.drew
    refine DL_q rfl rfl (Exec.load_box_agg (ds := [Value.int .i64 (x13987.States), Value.int .i64 (x13987.Init), v13988, v13990, v13992]) (hS24926) A26 rfl rfl rfl ⟨rfl, ?_⟩)
    refine DL_q rfl rfl (Exec.load_box_agg (ds := [Value.int .i64 (x13987.States), Value.int .i64 (x13987.Init), v13988, v13990, v13992]) (hS24926) A26 rfl rfl rfl ⟨rfl, ?_⟩)
    obtain ⟨y24929, q24928, hm⟩ := bind_some hm
    refine DL_e rfl rfl (Exec.call rfl rfl Try.func43 rfl N43 (args_cons rfl args_nil) ((transys_goals_sim q24928 hS24926 (a13989.mono l24863) (a13991.mono l24863) (a13993.mono l24863)).mono ?_))
    rintro _ w24930 ⟨v24934, rfl, ⟨s24931, _, l24932, hS24933, rfl, r24935⟩⟩
    refine ⟨_, rfl, ?_⟩
    refine ⟨(ag_cons (ag_r rfl rfl (Exec.load_box_agg (ds := [Value.int .i64 (x13987.States), Value.int .i64 (x13987.Init), v13988, v13990, v13992]) (hS24933) A26 rfl rfl rfl ⟨rfl, rfl⟩)) ag_nil), ?_⟩
    obtain ⟨y24938, q24937, hm⟩ := bind_some hm
    refine DL_e rfl rfl (Exec.call rfl rfl Try.func42 rfl N42 (args_cons rfl (args_cons rfl (args_cons rfl args_nil))) ((transys_shortest_sim q24937 hS24933 (a13989.mono (PHeap.le.trans l24863 l24932)) (a13991.mono (PHeap.le.trans l24863 l24932)) (a13993.mono (PHeap.le.trans l24863 l24932)) r24935).mono ?_))
    rintro _ w24939 ⟨v24943, rfl, ⟨s24940, _, l24941, hS24942, rfl, r24944⟩⟩
    refine ⟨_, rfl, ?_⟩
    refine ⟨ag_nil, ?_⟩
    refine DL_done ?_
    refine WL_step rfl rfl (Exec.assign (v := v24943) rfl rfl ?_)
    refine WL_step rfl rfl (Exec.assign (v := errV 39 (none)) rfl rfl ?_)
    refine WL_nil (at_normal ?_)
    refine W_ret ?_
    have e24946 := Option.some.inj hm
    subst r
    refine ⟨_, ret2 rfl, ?_⟩
    have hS24947 := (hS24942).drop
    exact ⟨s24940, v24943, (PHeap.le.trans (PHeap.le.trans l24863 l24932) l24941), hS24947, (tup2 rfl rfl), r24944⟩

theorem N20 : (Try.f20.name == "runtime.NumGoroutine") = false := by kernel_rfl

theorem base_Ints_sim {w0 w : World} {s : PHeap} {H : List Res} {a24977 : (List Int)} {b24980 : (List Int)} {v24978 : Value} {v24981 : Value} {r : Bool} (hm : base_Ints_p a24977 b24980 = some r) (hS : St w0 s (H) w) (a24979 : SliceRep (encInt .i64) s v24978 a24977) (a24982 : SliceRep (encInt .i64) s v24981 b24980) :
    Calls Try.prog 20 #[v24978, v24981] w fun e w' => ∃ v, e = .returned v ∧ ((fun (y25242 : Bool) => ∃ (s25243 : PHeap) , PHeap.le s s25243 ∧ St w0 s25243 (H) w' ∧ v = Value.bool (y25242)) r) := by
  unfold base_Ints_p at hm
  refine calls_of_W Try.func20 rfl rfl ?_
  refine W_seq ?_
  refine W_region ?_
  refine WL_step rfl rfl (Exec.assign (v := Value.bool (false)) rfl rfl ?_)
  refine WL_nil (at_normal ?_)
  refine W_seq ?_
  refine W_seq ?_
  refine W_region ?_
  refine WL_step rfl rfl (Exec.move (v := v24978) rfl rfl ?_)
  refine WL_step rfl rfl (Exec.len_rep S22 rfl rfl a24979 ?_)
  refine WL_step rfl rfl (Exec.move (v := v24981) rfl rfl ?_)
  refine WL_step rfl rfl (Exec.len_rep S22 rfl rfl a24982 ?_)
  refine WL_step rfl rfl (Exec.neq rfl rfl rfl ?_)
  refine WL_nil (at_normal ?_)
  rcases ite_some hm with ⟨hc25244, hm⟩ | ⟨hc25244, hm⟩
  · refine W_cond_t rfl hc25244 ?_
    refine W_seq ?_
    refine W_region ?_
    refine WL_step rfl rfl (Exec.assign (v := Value.bool (false)) rfl rfl ?_)
    refine WL_nil (at_normal ?_)
    refine W_ret (at_ret ?_)
    have e25246 := Option.some.inj hm
    subst r
    refine ⟨_, ret1 rfl, ?_⟩
    exact ⟨s, (PHeap.le_refl _), hS, rfl⟩
  · refine W_cond_f rfl hc25244 ?_
    replace hc25244 := not_true hc25244
    refine W_skip (at_normal ?_)
    refine W_seq ?_
    refine W_seq ?_
    refine W_region ?_
    refine WL_step rfl rfl (Exec.move (v := v24978) rfl rfl ?_)
    refine WL_step rfl rfl (Exec.len_rep S22 rfl rfl a24979 ?_)
    refine WL_step rfl rfl (Exec.move (v := Value.int .i64 (0)) rfl rfl ?_)
    refine WL_nil (at_normal ?_)
    obtain ⟨c25388, hB25389, hr25390, hn25391, hb25392⟩ := ctl_some hm
    refine W_mid (M := fun f' w' => ∃ s', (c25388 = .next s' ∨ c25388 = .brk s') ∧ (fun (_ : Unit) => ∃ (s25394 : PHeap) , PHeap.le s s25394 ∧ St w0 s25394 (H) w' ∧ f' 0 = v24978 ∧ f' 1 = v24981 ∧ f' 12 = Value.int .i64 ((a24977.length : Int))) s') ?_ ?_
    · refine W_block (W_forC (fun k' s' f' w' => (fun (_ : Unit) => ∃ (s25393 : PHeap) , PHeap.le s s25393 ∧ St w0 s25393 (H) w' ∧ f' 0 = v24978 ∧ f' 1 = v24981 ∧ f' 12 = Value.int .i64 ((a24977.length : Int)) ∧ f' 13 = Value.int .i64 (k' : Int)) s') hB25389 ?_ ?_ ?_)
      · exact ⟨s, (PHeap.le_refl _), hS, rfl, rfl, rfl, rfl⟩
      · intro i25247 t25402 c25396 f25397 w25398 hi25403 hI25399 hm25400 hres25401
        obtain ⟨s25404, l25405, hS25406, p25407, p25408, p25409, x25410⟩ := hI25399
        refine W_seq ?_
        refine W_region ?_
        refine WL_step rfl rfl (Exec.lss rfl x25410 p25409 ?_)
        refine WL_nil (at_normal ?_)
        refine W_seq ?_
        refine W_true (congrArg Value.bool (decide_eq_true (by omega))) ?_
        refine W_skip (at_normal ?_)
        refine W_seq ?_
        refine W_block ?_
        refine W_seq ?_
        refine W_region ?_
        refine WL_step rfl rfl (Exec.move (v := Value.int .i64 ((i25247 : Int))) rfl x25410 ?_)
        refine WL_step rfl rfl (Exec.assign (v := Value.int .i64 ((i25247 : Int))) rfl rfl ?_)
        refine WL_nil (at_normal ?_)
        refine W_seq ?_
        refine W_dl (n0 := 9) (.q 0 (.q 1 (.q 2 (.q 3 (.q 4 (.q 5 (.q 6 (.q 7 (.q 8 .done))))))))) hmix (by kernel_rfl) (by kernel_rfl) ?_
        have hS25462 := hS25406.drew
        refine DL_q rfl rfl (Exec.move (v := v24978) rfl p25407 ⟨rfl, ?_⟩)
        refine DL_q rfl rfl (Exec.move (v := Value.int .i64 ((i25247 : Int))) rfl rfl ⟨rfl, ?_⟩)
        obtain ⟨x25463, q25464, hm25400⟩ := bind_some hm25400
        refine DL_q rfl rfl (Exec.index_repE S22 rfl rfl rfl (a24979.mono l25405) q25464 ?_)
        intro b25465 o25466 a25467 e25468
        refine ⟨rfl, ?_⟩
        refine DL_q rfl rfl (Exec.load_at (E := (encInt .i64)) hS25462 A3 rfl rfl rfl a25467 ?_)
        intro v25469 q25470
        obtain rfl := encInt_val.1 q25470
        refine ⟨rfl, ?_⟩
        refine DL_q rfl rfl (Exec.move (v := v24981) rfl p25408 ⟨rfl, ?_⟩)
        refine DL_q rfl rfl (Exec.move (v := Value.int .i64 ((i25247 : Int))) rfl rfl ⟨rfl, ?_⟩)
        obtain ⟨x25471, q25472, hm25400⟩ := bind_some hm25400
        refine DL_q rfl rfl (Exec.index_repE S22 rfl rfl rfl (a24982.mono l25405) q25472 ?_)
        intro b25473 o25474 a25475 e25476
        refine ⟨rfl, ?_⟩
        refine DL_q rfl rfl (Exec.load_at (E := (encInt .i64)) hS25462 A3 rfl rfl rfl a25475 ?_)
        intro v25477 q25478
        obtain rfl := encInt_val.1 q25478
        refine ⟨rfl, ?_⟩
        refine DL_q rfl rfl (Exec.neq rfl rfl rfl ⟨rfl, ?_⟩)
        refine DL_done ?_
        refine WL_nil (at_normal ?_)
        rcases ite_some hm25400 with ⟨hc25479, hm25400⟩ | ⟨hc25479, hm25400⟩
        · refine W_cond_t rfl hc25479 ?_
          refine W_seq ?_
          refine W_region ?_
          refine WL_step rfl rfl (Exec.assign (v := Value.bool (false)) rfl rfl ?_)
          refine WL_nil (at_normal ?_)
          refine W_ret (ib_ret (at_ret (at_ret (ib_ret (at_ret (at_ret ?_))))))
          have e25480 := Option.some.inj hm25400
          subst c25396
          have hq25481 := hr25390 _ (hres25401 (by intro _ h; cases h))
          have e25482 := Option.some.inj hq25481
          subst r
          refine ⟨_, ret1 rfl, ?_⟩
          exact ⟨s25404, l25405, hS25462, rfl⟩
        · refine W_cond_f rfl hc25479 ?_
          replace hc25479 := not_true hc25479
          refine W_skip (ib_normal (at_normal ?_))
          refine W_region ?_
          refine WL_step rfl rfl (Exec.add rfl x25410 rfl ?_)
          refine WL_step rfl rfl (Exec.move (v := Value.int .i64 (IntKind.i64.wrap ((i25247 : Int) + 1))) rfl rfl ?_)
          refine WL_nil (at_normal ?_)
          have e25483 := Option.some.inj hm25400
          subst c25396
          refine ⟨_, rfl, ?_⟩; exact ⟨s25404, l25405, hS25462, p25407, p25408, p25409, (Eq.trans rfl (wrap_up hi25403 (SliceRep.le a24979)))⟩
      · intro t25484 f25485 w25486 hI25487 hres25488
        obtain ⟨s25489, l25490, hS25491, p25492, p25493, p25494, x25495⟩ := hI25487
        refine W_seq ?_
        refine W_region ?_
        refine WL_step rfl rfl (Exec.lss rfl x25495 p25494 ?_)
        refine WL_nil (at_normal ?_)
        refine W_seq ?_
        refine W_false (congrArg Value.bool (decide_eq_false (by omega))) ?_
        refine W_exit (at_exit (at_exit (ib_here (at_normal ?_))))
        refine ⟨_, .inl hres25488, ?_⟩; exact ⟨s25489, l25490, hS25491, p25492, p25493, p25494⟩
    · rintro f25496 w25497 ⟨t25498, hc25499, hM25500⟩
      have hm := hc25499.elim (hn25391 _) (hb25392 _)
      clear hc25499
      obtain ⟨s25501, l25502, hS25503, p25504, p25505, p25506⟩ := hM25500
      refine (at_normal ?_)
      refine W_seq ?_
      refine W_region ?_
      refine WL_step rfl rfl (Exec.assign (v := Value.bool (true)) rfl rfl ?_)
      refine WL_nil (at_normal ?_)
      refine W_ret ?_
      have e25508 := Option.some.inj hm
      subst r
      refine ⟨_, ret1 rfl, ?_⟩
      exact ⟨s25501, l25502, hS25503, rfl⟩

theorem N10 : (Try.f10.name == "runtime.NumGoroutine") = false := by kernel_rfl

theorem law44_awake_sim {w0 w : World} {s : PHeap} {H : List Res}   {r : Bool} (hm : law44_awake_p  = some r) (hS : St w0 s (H) w)  :
    Calls Try.prog 10 #[] w fun e w' => ∃ v, e = .returned v ∧ ((fun (y25547 : Bool) => ∃ (s25548 : PHeap) , PHeap.le s s25548 ∧ St w0 s25548 (H) w' ∧ v = Value.bool (y25547)) r) := by
  unfold law44_awake_p at hm
  refine calls_of_W Try.func10 rfl rfl ?_
  refine W_seq ?_
  refine W_region ?_
  refine WL_step rfl rfl (Exec.assign (v := Value.bool (false)) rfl rfl ?_)
  refine WL_nil (at_normal ?_)
  refine W_seq ?_
  refine W_region ?_
  refine WL_step rfl rfl (Exec.call rfl rfl Try.func26 rfl N26 args_nil ((law44_example_sim law44_example_tot hS ).mono ?_))
  rintro _ w25588 ⟨_, rfl, ⟨s25589, v25592, v25593, v25594, l25590, hS25591, rfl, r25595, r25596, r25597⟩⟩
  refine ⟨_, rfl, ?_⟩
  refine WL_step rfl rfl (Exec.call rfl rfl Try.func26 rfl N26 args_nil ((law44_example_sim law44_example_tot hS25591 ).mono ?_))
  rintro _ w25598 ⟨_, rfl, ⟨s25599, v25602, v25603, v25604, l25600, hS25601, rfl, r25605, r25606, r25607⟩⟩
  refine ⟨_, rfl, ?_⟩
  obtain ⟨t25608, q25609, hm⟩ := bind_some hm
  obtain ⟨y25610, y25611⟩ := t25608
  replace hm := un2_eq hm
  refine WL_step rfl rfl (Exec.call rfl rfl Try.func12 rfl N12 (args_cons rfl (args_cons rfl args_nil)) ((transys_Product_sim q25609 hS25601 (r25595.mono l25600) (r25596.mono l25600) (r25597.mono l25600) r25605 r25606 r25607).mono ?_))
  rintro _ w25612 ⟨_, rfl, ⟨s25613, v25616, v25617, v25618, l25614, hS25615, rfl, r25619, r25620, r25621⟩⟩
  refine ⟨_, rfl, ?_⟩
  refine WL_step rfl rfl (Exec.move (v := Value.tuple #[Value.agg #[Value.int .i64 (y25611.States), Value.int .i64 (y25611.Init), v25616, v25617, v25618], errV 39 (y25610)]) rfl rfl ?_)
  refine WL_step rfl rfl (Exec.extract (v := Value.agg #[Value.int .i64 (y25611.States), Value.int .i64 (y25611.Init), v25616, v25617, v25618]) rfl rfl rfl ?_)
  refine WL_step rfl rfl (Exec.extract (v := errV 39 (y25610)) rfl rfl rfl ?_)
  refine WL_step rfl rfl (Exec.alloc (cs := [Value.int .i64 (0), Value.int .i64 (0), Value.slice none 0 0, Value.slice none 0 0, Value.slice none 0 0]) hS25615 Z26 rfl rfl ?_)
  intro b25622 w25623 hS25624
  refine WL_step rfl rfl (Exec.store_box (ds := [Value.int .i64 (y25611.States), Value.int .i64 (y25611.Init), v25616, v25617, v25618]) (es := [Value.int .i64 (y25611.States), Value.int .i64 (y25611.Init), v25616, v25617, v25618]) hS25624 A26 rfl rfl rfl rfl (one_cons rfl (one_cons rfl (one_cons (r25619).one (one_cons (r25620).one (one_cons (r25621).one one_nil))))) (Nat.le_of_ble_eq_true rfl) rfl ?_)
  intro w25625 hS25626
  refine WL_step rfl rfl (Exec.assign (v := errV 39 (y25610)) rfl rfl ?_)
  refine WL_nil (at_normal ?_)
  refine W_seq ?_
  refine W_seq ?_
  refine W_mid (M := fun f' w' => ∃ (s25629 : PHeap) , PHeap.le s25613 s25629 ∧ St w0 s25629 (Res.box b25622 26 [Value.int .i64 (y25611.States), Value.int .i64 (y25611.Init), v25616, v25617, v25618] :: H) w' ∧ f' 1 = Value.pointer (some ⟨b25622, 0, none⟩) ∧ f' 22 = Value.bool ((y25610.isSome || ((!decide (y25611.States = 4)) || !decide ((y25611.Edges.length : Int) = 2))))) ?_ ?_
  · refine W_region ?_
    refine WL_step rfl rfl (Exec.move (v := errV 39 (y25610)) rfl rfl ?_)
    refine WL_step rfl rfl (Exec.err_neq_nil (T := 39) Try.underlying30 rfl rfl rfl ?_)
    refine WL_step rfl rfl (Exec.move (v := Value.bool (y25610.isSome)) rfl rfl ?_)
    by_cases hc25630 : y25610.isSome = true
    · refine WL_pass rfl (yield_of rfl (congrArg Value.bool hc25630)) rfl rfl ?_
      refine WL_pass rfl (yield_of rfl (congrArg Value.bool hc25630)) rfl rfl ?_
      refine WL_pass rfl (yield_of rfl (congrArg Value.bool hc25630)) rfl rfl ?_
      refine WL_step rfl rfl (Exec.pick_t (v := Value.bool (true)) rfl (congrArg Value.bool hc25630) rfl ?_)
      refine WL_step rfl rfl (Exec.move (v := Value.bool (true)) rfl rfl ?_)
      refine WL_pass rfl (yield_of rfl rfl) rfl rfl ?_
      refine WL_pass rfl (yield_of rfl rfl) rfl rfl ?_
      refine WL_pass rfl (yield_of rfl rfl) rfl rfl ?_
      refine WL_pass rfl (yield_of rfl rfl) rfl rfl ?_
      refine WL_step rfl rfl (Exec.pick_t (v := Value.bool (true)) rfl rfl rfl ?_)
      refine WL_nil (at_normal ?_)
      exact ⟨s25613, (PHeap.le_refl _), hS25626, rfl, (congrArg Value.bool (or_t hc25630)).symm⟩
    · replace hc25630 := not_true hc25630
      refine WL_run rfl (yield_of rfl (congrArg Value.bool hc25630)) rfl (Exec.field F26_0 rfl rfl rfl ?_)
      refine WL_run rfl (yield_of rfl (congrArg Value.bool hc25630)) rfl (Exec.load_box (hS25626) A3 rfl rfl rfl ?_)
      refine WL_run rfl (yield_of rfl (congrArg Value.bool hc25630)) rfl (Exec.neq rfl rfl rfl ?_)
      refine WL_step rfl rfl (Exec.pick_f (v := Value.bool (!decide (y25611.States = 4))) rfl (congrArg Value.bool hc25630) rfl ?_)
      refine WL_step rfl rfl (Exec.move (v := Value.bool (!decide (y25611.States = 4))) rfl rfl ?_)
      by_cases hc25631 : (!decide (y25611.States = 4)) = true
      · refine WL_pass rfl (yield_of rfl (congrArg Value.bool hc25631)) rfl rfl ?_
        refine WL_pass rfl (yield_of rfl (congrArg Value.bool hc25631)) rfl rfl ?_
        refine WL_pass rfl (yield_of rfl (congrArg Value.bool hc25631)) rfl rfl ?_
        refine WL_pass rfl (yield_of rfl (congrArg Value.bool hc25631)) rfl rfl ?_
        refine WL_step rfl rfl (Exec.pick_t (v := Value.bool (true)) rfl (congrArg Value.bool hc25631) rfl ?_)
        refine WL_nil (at_normal ?_)
        exact ⟨s25613, (PHeap.le_refl _), hS25626, rfl, (congrArg Value.bool (Eq.trans (or_f hc25630) (or_t hc25631))).symm⟩
      · replace hc25631 := not_true hc25631
        refine WL_run rfl (yield_of rfl (congrArg Value.bool hc25631)) rfl (Exec.field F26_3 rfl rfl rfl ?_)
        refine WL_run rfl (yield_of rfl (congrArg Value.bool hc25631)) rfl (Exec.load_box (hS25626) A23 rfl rfl rfl ?_)
        refine WL_run rfl (yield_of rfl (congrArg Value.bool hc25631)) rfl (Exec.len_rep S23 rfl rfl r25620 ?_)
        refine WL_run rfl (yield_of rfl (congrArg Value.bool hc25631)) rfl (Exec.neq rfl rfl rfl ?_)
        refine WL_step rfl rfl (Exec.pick_f (v := Value.bool (!decide ((y25611.Edges.length : Int) = 2))) rfl (congrArg Value.bool hc25631) rfl ?_)
        refine WL_nil (at_normal ?_)
        exact ⟨s25613, (PHeap.le_refl _), hS25626, rfl, (congrArg Value.bool (Eq.trans (or_f hc25630) (or_f hc25631))).symm⟩
  · intro f25632 w25633 hM25634
    obtain ⟨s25635, l25636, hS25637, p25638, p25639⟩ := hM25634
    refine (at_normal ?_)
    rcases ite_some hm with ⟨hc25640, hm⟩ | ⟨hc25640, hm⟩
    · refine W_cond_t p25639 hc25640 ?_
      refine W_seq ?_
      refine W_region ?_
      refine WL_step rfl rfl (Exec.assign (v := Value.bool (false)) rfl rfl ?_)
      refine WL_nil (at_normal ?_)
      refine W_ret (at_ret ?_)
      have e25642 := Option.some.inj hm
      subst r
      refine ⟨_, ret1 rfl, ?_⟩
      have hS25643 := (hS25637).drop
      exact ⟨s25635, (PHeap.le.trans (PHeap.le.trans (PHeap.le.trans l25590 l25600) l25614) l25636), hS25643, rfl⟩
    · refine W_cond_f p25639 hc25640 ?_
      replace hc25640 := not_true hc25640
      refine W_skip (at_normal ?_)
      refine W_seq ?_
      refine W_region ?_
      refine WL_step rfl rfl (Exec.load_box_agg (ds := [Value.int .i64 (y25611.States), Value.int .i64 (y25611.Init), v25616, v25617, v25618]) (hS25637) A26 rfl p25638 rfl ?_)
      obtain ⟨t25654, q25655, hm⟩ := bind_some hm
      obtain ⟨y25656, y25657⟩ := t25654
      replace hm := un2_eq hm
      refine WL_step rfl rfl (Exec.call rfl rfl Try.func18 rfl N18 (args_cons rfl args_nil) ((transys_Distances_sim q25655 hS25637 (r25619.mono l25636) (r25620.mono l25636) (r25621.mono l25636)).mono ?_))
      rintro _ w25658 ⟨_, rfl, ⟨s25659, v25662, l25660, hS25661, rfl, r25663⟩⟩
      refine ⟨_, rfl, ?_⟩
      refine WL_step rfl rfl (Exec.move (v := Value.tuple #[v25662, errV 39 (y25657)]) rfl rfl ?_)
      refine WL_step rfl rfl (Exec.extract (v := v25662) rfl rfl rfl ?_)
      refine WL_step rfl rfl (Exec.extract (v := errV 39 (y25657)) rfl rfl rfl ?_)
      refine WL_step rfl rfl (Exec.assign (v := v25662) rfl rfl ?_)
      refine WL_step rfl rfl (Exec.assign (v := errV 39 (y25657)) rfl rfl ?_)
      refine WL_nil (at_normal ?_)
      refine W_seq ?_
      obtain ⟨z25680, ht25681, hm⟩ := bind_some hm
      refine W_mid (M := fun f' w' => (fun (z25680 : Bool) => ∃ (s25682 : PHeap) , PHeap.le s25659 s25682 ∧ St w0 s25682 (H) w' ∧ f' 0 = Value.bool (z25680)) z25680) ?_ ?_
      · refine W_region ?_
        refine WL_step rfl rfl (Exec.move (v := errV 39 (y25657)) rfl rfl ?_)
        refine WL_step rfl rfl (Exec.err_eql_nil (T := 39) Try.underlying30 rfl rfl rfl ?_)
        refine WL_step rfl rfl (Exec.move (v := Value.bool (y25657.isNone)) rfl rfl ?_)
        rcases ite_some ht25681 with ⟨hc25683, ht25681⟩ | ⟨hc25683, ht25681⟩
        · refine WL_run rfl (yield_of rfl (congrArg Value.bool hc25683)) rfl (Exec.move (v := v25662) rfl rfl ?_)
          refine WL_run rfl (yield_of rfl (congrArg Value.bool hc25683)) rfl (Exec.buildSlice (Te := 3) (cs := [Value.int .i64 (2), Value.int .i64 (1125899906842624), Value.int .i64 (1125899906842624), Value.int .i64 (0)]) hS25661 rfl (parts_cons (c := [Value.int .i64 (2)]) (cells_of rfl rfl) (parts_cons (c := [Value.int .i64 (1125899906842624)]) (cells_of rfl rfl) (parts_cons (c := [Value.int .i64 (1125899906842624)]) (cells_of rfl rfl) (parts_cons (c := [Value.int .i64 (0)]) (cells_of rfl rfl) parts_nil)))) (fun _ => by kernel_rfl) ?_)
          intro b25684 w25685 hS25686
          have hS25687 := St.boxArr (E := (encInt .i64)) (xs := [2, 1125899906842624, 1125899906842624, 0]) hS25686 ⟨[Value.int .i64 (2)], [Value.int .i64 (1125899906842624), Value.int .i64 (1125899906842624), Value.int .i64 (0)], rfl, rfl, ⟨[Value.int .i64 (1125899906842624)], [Value.int .i64 (1125899906842624), Value.int .i64 (0)], rfl, rfl, ⟨[Value.int .i64 (1125899906842624)], [Value.int .i64 (0)], rfl, rfl, ⟨[Value.int .i64 (0)], [], rfl, rfl, rfl⟩⟩⟩⟩ (by simp [maxLen])
          obtain ⟨s25688, l25689, hS25690, r25691⟩ := hS25687.freezeArr
          obtain ⟨y25694, q25693, ht25681⟩ := bind_some ht25681
          refine WL_run rfl (yield_of rfl (congrArg Value.bool hc25683)) rfl (Exec.call rfl rfl Try.func20 rfl N20 (args_cons rfl (args_cons rfl args_nil)) ((base_Ints_sim q25693 hS25690 (r25663.mono l25689) r25691).mono ?_))
          rintro _ w25695 ⟨_, rfl, ⟨s25696, l25697, hS25698, rfl⟩⟩
          refine ⟨_, rfl, ?_⟩
          refine WL_step rfl rfl (Exec.pick_t (v := Value.bool (y25694)) rfl (congrArg Value.bool hc25683) rfl ?_)
          refine WL_step rfl rfl (Exec.assign (v := Value.bool (y25694)) rfl rfl ?_)
          refine WL_nil (at_normal ?_)
          have e25699 := Option.some.inj ht25681
          subst z25680
          have hS25700 := (hS25698).drop
          exact ⟨s25696, (PHeap.le.trans l25689 l25697), hS25700, rfl⟩
        · replace hc25683 := not_true hc25683
          refine WL_pass rfl (yield_of rfl (congrArg Value.bool hc25683)) rfl rfl ?_
          refine WL_pass rfl (yield_of rfl (congrArg Value.bool hc25683)) rfl rfl ?_
          refine WL_pass rfl (yield_of rfl (congrArg Value.bool hc25683)) rfl rfl ?_
          refine WL_step rfl rfl (Exec.pick_f (v := Value.bool (false)) rfl (congrArg Value.bool hc25683) rfl ?_)
          refine WL_step rfl rfl (Exec.assign (v := Value.bool (false)) rfl rfl ?_)
          refine WL_nil (at_normal ?_)
          have e25701 := Option.some.inj ht25681
          subst z25680
          have hS25702 := (hS25661).drop
          exact ⟨s25659, (PHeap.le_refl _), hS25702, rfl⟩
      · intro f25703 w25704 hM25705
        obtain ⟨s25706, l25707, hS25708, p25709⟩ := hM25705
        refine (at_normal ?_)
        refine W_ret ?_
        have e25711 := Option.some.inj hm
        subst r
        refine ⟨_, ret1 rfl, ?_⟩
        exact ⟨s25706, (PHeap.le.trans (PHeap.le.trans (PHeap.le.trans (PHeap.le.trans (PHeap.le.trans l25590 l25600) l25614) l25636) l25660) l25707), hS25708, p25709⟩

theorem N41 : (Try.f41.name == "runtime.NumGoroutine") = false := by kernel_rfl

theorem ref44_Before_sim {w0 w : World} {s : PHeap} {H : List Res} {a25948 : Edge} {b25949 : Edge}  {r : Bool} (hm : ref44_Before_p a25948 b25949 = some r) (hS : St w0 s (H) w)  :
    Calls Try.prog 41 #[Value.agg #[Value.int .i64 (a25948.From), Value.int .i64 (a25948.Label), Value.int .i64 (a25948.To)], Value.agg #[Value.int .i64 (b25949.From), Value.int .i64 (b25949.Label), Value.int .i64 (b25949.To)]] w fun e w' => ∃ v, e = .returned v ∧ ((fun (y25965 : Bool) => ∃ (s25966 : PHeap) , PHeap.le s s25966 ∧ St w0 s25966 (H) w' ∧ v = Value.bool (y25965)) r) := by
  unfold ref44_Before_p at hm
  refine calls_of_W Try.func41 rfl rfl ?_
  refine W_seq ?_
  refine W_region ?_
  refine WL_step rfl rfl (Exec.box (cs := [Value.int .i64 (a25948.From), Value.int .i64 (a25948.Label), Value.int .i64 (a25948.To)]) hS rfl rfl rfl ?_)
  intro b25973 w25974 hS25975
  refine WL_step rfl rfl (Exec.box (cs := [Value.int .i64 (b25949.From), Value.int .i64 (b25949.Label), Value.int .i64 (b25949.To)]) hS25975 rfl rfl rfl ?_)
  intro b25976 w25977 hS25978
  refine WL_step rfl rfl (Exec.assign (v := Value.bool (false)) rfl rfl ?_)
  refine WL_nil (at_normal ?_)
  refine W_seq ?_
  refine W_seq ?_
  refine W_region ?_
  refine WL_step rfl rfl (Exec.field F66_0 rfl rfl rfl ?_)
  refine WL_step rfl rfl (Exec.load_box ((hS25978).f1) A3 rfl rfl rfl ?_)
  refine WL_step rfl rfl (Exec.field F66_0 rfl rfl rfl ?_)
  refine WL_step rfl rfl (Exec.load_box (hS25978) A3 rfl rfl rfl ?_)
  refine WL_step rfl rfl (Exec.neq rfl rfl rfl ?_)
  refine WL_nil (at_normal ?_)
  rcases ite_some hm with ⟨hc25979, hm⟩ | ⟨hc25979, hm⟩
  · refine W_cond_t rfl hc25979 ?_
    refine W_seq ?_
    refine W_region ?_
    refine WL_step rfl rfl (Exec.field F66_0 rfl rfl rfl ?_)
    refine WL_step rfl rfl (Exec.load_box ((hS25978).f1) A3 rfl rfl rfl ?_)
    refine WL_step rfl rfl (Exec.field F66_0 rfl rfl rfl ?_)
    refine WL_step rfl rfl (Exec.load_box (hS25978) A3 rfl rfl rfl ?_)
    refine WL_step rfl rfl (Exec.lss rfl rfl rfl ?_)
    refine WL_step rfl rfl (Exec.assign (v := Value.bool (decide (a25948.From < b25949.From))) rfl rfl ?_)
    refine WL_nil (at_normal ?_)
    refine W_ret (at_ret ?_)
    have e25981 := Option.some.inj hm
    subst r
    refine ⟨_, ret1 rfl, ?_⟩
    have hS25982 := (hS25978).drop
    have hS25983 := (hS25982).drop
    exact ⟨s, (PHeap.le_refl _), hS25983, rfl⟩
  · refine W_cond_f rfl hc25979 ?_
    replace hc25979 := not_true hc25979
    refine W_skip (at_normal ?_)
    refine W_seq ?_
    refine W_seq ?_
    refine W_region ?_
    refine WL_step rfl rfl (Exec.field F66_1 rfl rfl rfl ?_)
    refine WL_step rfl rfl (Exec.load_box ((hS25978).f1) A3 rfl rfl rfl ?_)
    refine WL_step rfl rfl (Exec.field F66_1 rfl rfl rfl ?_)
    refine WL_step rfl rfl (Exec.load_box (hS25978) A3 rfl rfl rfl ?_)
    refine WL_step rfl rfl (Exec.neq rfl rfl rfl ?_)
    refine WL_nil (at_normal ?_)
    rcases ite_some hm with ⟨hc25984, hm⟩ | ⟨hc25984, hm⟩
    · refine W_cond_t rfl hc25984 ?_
      refine W_seq ?_
      refine W_region ?_
      refine WL_step rfl rfl (Exec.field F66_1 rfl rfl rfl ?_)
      refine WL_step rfl rfl (Exec.load_box ((hS25978).f1) A3 rfl rfl rfl ?_)
      refine WL_step rfl rfl (Exec.field F66_1 rfl rfl rfl ?_)
      refine WL_step rfl rfl (Exec.load_box (hS25978) A3 rfl rfl rfl ?_)
      refine WL_step rfl rfl (Exec.lss rfl rfl rfl ?_)
      refine WL_step rfl rfl (Exec.assign (v := Value.bool (decide (a25948.Label < b25949.Label))) rfl rfl ?_)
      refine WL_nil (at_normal ?_)
      refine W_ret (at_ret ?_)
      have e25986 := Option.some.inj hm
      subst r
      refine ⟨_, ret1 rfl, ?_⟩
      have hS25987 := (hS25978).drop
      have hS25988 := (hS25987).drop
      exact ⟨s, (PHeap.le_refl _), hS25988, rfl⟩
    · refine W_cond_f rfl hc25984 ?_
      replace hc25984 := not_true hc25984
      refine W_skip (at_normal ?_)
      refine W_seq ?_
      refine W_region ?_
      refine WL_step rfl rfl (Exec.field F66_2 rfl rfl rfl ?_)
      refine WL_step rfl rfl (Exec.load_box ((hS25978).f1) A3 rfl rfl rfl ?_)
      refine WL_step rfl rfl (Exec.field F66_2 rfl rfl rfl ?_)
      refine WL_step rfl rfl (Exec.load_box (hS25978) A3 rfl rfl rfl ?_)
      refine WL_step rfl rfl (Exec.lss rfl rfl rfl ?_)
      refine WL_step rfl rfl (Exec.assign (v := Value.bool (decide (a25948.To < b25949.To))) rfl rfl ?_)
      refine WL_nil (at_normal ?_)
      refine W_ret ?_
      have e25990 := Option.some.inj hm
      subst r
      refine ⟨_, ret1 rfl, ?_⟩
      have hS25991 := (hS25978).drop
      have hS25992 := (hS25991).drop
      exact ⟨s, (PHeap.le_refl _), hS25992, rfl⟩

theorem N17 : (Try.f17.name == "runtime.NumGoroutine") = false := by kernel_rfl

theorem ref44_Valid_sim {w0 w : World} {s : PHeap} {H : List Res} {x25734 : System} {v25735 : Value} {v25737 : Value} {v25739 : Value} {r : Bool} (hm : ref44_Valid_p x25734 = some r) (hS : St w0 s (H) w) (a25736 : SliceRep (encInt .i64) s v25735 x25734.Costs) (a25738 : SliceRep encEdge s v25737 x25734.Edges) (a25740 : SliceRep encBool s v25739 x25734.Goals) :
    Calls Try.prog 17 #[Value.agg #[Value.int .i64 (x25734.States), Value.int .i64 (x25734.Init), v25735, v25737, v25739]] w fun e w' => ∃ v, e = .returned v ∧ ((fun (y26407 : Bool) => ∃ (s26408 : PHeap) , PHeap.le s s26408 ∧ St w0 s26408 (H) w' ∧ v = Value.bool (y26407)) r) := by
  unfold ref44_Valid_p at hm
  refine calls_of_W Try.func17 rfl rfl ?_
  refine W_seq ?_
  refine W_region ?_
  refine WL_step rfl rfl (Exec.box (cs := [Value.int .i64 (x25734.States), Value.int .i64 (x25734.Init), v25735, v25737, v25739]) hS rfl rfl rfl ?_)
  intro b26412 w26413 hS26414
  refine WL_step rfl rfl (Exec.assign (v := Value.bool (false)) rfl rfl ?_)
  refine WL_nil (at_normal ?_)
  refine W_seq ?_
  refine W_seq ?_
  refine W_mid (M := fun f' w' => ∃ (s26421 : PHeap) , PHeap.le s s26421 ∧ St w0 s26421 (Res.box b26412 26 [Value.int .i64 (x25734.States), Value.int .i64 (x25734.Init), v25735, v25737, v25739] :: H) w' ∧ f' 1 = Value.pointer (some ⟨b26412, 0, none⟩) ∧ f' 46 = Value.bool (((decide (x25734.States < 1)) || ((decide (4096 < x25734.States)) || ((decide (x25734.Init < 0)) || ((decide (x25734.States ≤ x25734.Init)) || ((!decide ((x25734.Goals.length : Int) = x25734.States)) || ((decide (4096 < (x25734.Costs.length : Int))) || decide (65536 < (x25734.Edges.length : Int)))))))))) ?_ ?_
  · refine W_region ?_
    refine WL_step rfl rfl (Exec.field F26_0 rfl rfl rfl ?_)
    refine WL_step rfl rfl (Exec.load_box (hS26414) A3 rfl rfl rfl ?_)
    refine WL_step rfl rfl (Exec.lss rfl rfl rfl ?_)
    refine WL_step rfl rfl (Exec.move (v := Value.bool (decide (x25734.States < 1))) rfl rfl ?_)
    by_cases hc26422 : (decide (x25734.States < 1)) = true
    · refine WL_pass rfl (yield_of rfl (congrArg Value.bool hc26422)) rfl rfl ?_
      refine WL_pass rfl (yield_of rfl (congrArg Value.bool hc26422)) rfl rfl ?_
      refine WL_pass rfl (yield_of rfl (congrArg Value.bool hc26422)) rfl rfl ?_
      refine WL_step rfl rfl (Exec.pick_t (v := Value.bool (true)) rfl (congrArg Value.bool hc26422) rfl ?_)
      refine WL_step rfl rfl (Exec.move (v := Value.bool (true)) rfl rfl ?_)
      refine WL_pass rfl (yield_of rfl rfl) rfl rfl ?_
      refine WL_pass rfl (yield_of rfl rfl) rfl rfl ?_
      refine WL_pass rfl (yield_of rfl rfl) rfl rfl ?_
      refine WL_step rfl rfl (Exec.pick_t (v := Value.bool (true)) rfl rfl rfl ?_)
      refine WL_step rfl rfl (Exec.move (v := Value.bool (true)) rfl rfl ?_)
      refine WL_pass rfl (yield_of rfl rfl) rfl rfl ?_
      refine WL_pass rfl (yield_of rfl rfl) rfl rfl ?_
      refine WL_pass rfl (yield_of rfl rfl) rfl rfl ?_
      refine WL_pass rfl (yield_of rfl rfl) rfl rfl ?_
      refine WL_pass rfl (yield_of rfl rfl) rfl rfl ?_
      refine WL_step rfl rfl (Exec.pick_t (v := Value.bool (true)) rfl rfl rfl ?_)
      refine WL_step rfl rfl (Exec.move (v := Value.bool (true)) rfl rfl ?_)
      refine WL_pass rfl (yield_of rfl rfl) rfl rfl ?_
      refine WL_pass rfl (yield_of rfl rfl) rfl rfl ?_
      refine WL_pass rfl (yield_of rfl rfl) rfl rfl ?_
      refine WL_pass rfl (yield_of rfl rfl) rfl rfl ?_
      refine WL_pass rfl (yield_of rfl rfl) rfl rfl ?_
      refine WL_pass rfl (yield_of rfl rfl) rfl rfl ?_
      refine WL_step rfl rfl (Exec.pick_t (v := Value.bool (true)) rfl rfl rfl ?_)
      refine WL_step rfl rfl (Exec.move (v := Value.bool (true)) rfl rfl ?_)
      refine WL_pass rfl (yield_of rfl rfl) rfl rfl ?_
      refine WL_pass rfl (yield_of rfl rfl) rfl rfl ?_
      refine WL_pass rfl (yield_of rfl rfl) rfl rfl ?_
      refine WL_pass rfl (yield_of rfl rfl) rfl rfl ?_
      refine WL_step rfl rfl (Exec.pick_t (v := Value.bool (true)) rfl rfl rfl ?_)
      refine WL_step rfl rfl (Exec.move (v := Value.bool (true)) rfl rfl ?_)
      refine WL_pass rfl (yield_of rfl rfl) rfl rfl ?_
      refine WL_pass rfl (yield_of rfl rfl) rfl rfl ?_
      refine WL_pass rfl (yield_of rfl rfl) rfl rfl ?_
      refine WL_pass rfl (yield_of rfl rfl) rfl rfl ?_
      refine WL_step rfl rfl (Exec.pick_t (v := Value.bool (true)) rfl rfl rfl ?_)
      refine WL_nil (at_normal ?_)
      exact ⟨s, (PHeap.le_refl _), hS26414, rfl, (congrArg Value.bool (or_t hc26422)).symm⟩
    · replace hc26422 := not_true hc26422
      refine WL_run rfl (yield_of rfl (congrArg Value.bool hc26422)) rfl (Exec.field F26_0 rfl rfl rfl ?_)
      refine WL_run rfl (yield_of rfl (congrArg Value.bool hc26422)) rfl (Exec.load_box (hS26414) A3 rfl rfl rfl ?_)
      refine WL_run rfl (yield_of rfl (congrArg Value.bool hc26422)) rfl (Exec.gtr rfl rfl rfl ?_)
      refine WL_step rfl rfl (Exec.pick_f (v := Value.bool (decide (4096 < x25734.States))) rfl (congrArg Value.bool hc26422) rfl ?_)
      refine WL_step rfl rfl (Exec.move (v := Value.bool (decide (4096 < x25734.States))) rfl rfl ?_)
      by_cases hc26423 : (decide (4096 < x25734.States)) = true
      · refine WL_pass rfl (yield_of rfl (congrArg Value.bool hc26423)) rfl rfl ?_
        refine WL_pass rfl (yield_of rfl (congrArg Value.bool hc26423)) rfl rfl ?_
        refine WL_pass rfl (yield_of rfl (congrArg Value.bool hc26423)) rfl rfl ?_
        refine WL_step rfl rfl (Exec.pick_t (v := Value.bool (true)) rfl (congrArg Value.bool hc26423) rfl ?_)
        refine WL_step rfl rfl (Exec.move (v := Value.bool (true)) rfl rfl ?_)
        refine WL_pass rfl (yield_of rfl rfl) rfl rfl ?_
        refine WL_pass rfl (yield_of rfl rfl) rfl rfl ?_
        refine WL_pass rfl (yield_of rfl rfl) rfl rfl ?_
        refine WL_pass rfl (yield_of rfl rfl) rfl rfl ?_
        refine WL_pass rfl (yield_of rfl rfl) rfl rfl ?_
        refine WL_step rfl rfl (Exec.pick_t (v := Value.bool (true)) rfl rfl rfl ?_)
        refine WL_step rfl rfl (Exec.move (v := Value.bool (true)) rfl rfl ?_)
        refine WL_pass rfl (yield_of rfl rfl) rfl rfl ?_
        refine WL_pass rfl (yield_of rfl rfl) rfl rfl ?_
        refine WL_pass rfl (yield_of rfl rfl) rfl rfl ?_
        refine WL_pass rfl (yield_of rfl rfl) rfl rfl ?_
        refine WL_pass rfl (yield_of rfl rfl) rfl rfl ?_
        refine WL_pass rfl (yield_of rfl rfl) rfl rfl ?_
        refine WL_step rfl rfl (Exec.pick_t (v := Value.bool (true)) rfl rfl rfl ?_)
        refine WL_step rfl rfl (Exec.move (v := Value.bool (true)) rfl rfl ?_)
        refine WL_pass rfl (yield_of rfl rfl) rfl rfl ?_
        refine WL_pass rfl (yield_of rfl rfl) rfl rfl ?_
        refine WL_pass rfl (yield_of rfl rfl) rfl rfl ?_
        refine WL_pass rfl (yield_of rfl rfl) rfl rfl ?_
        refine WL_step rfl rfl (Exec.pick_t (v := Value.bool (true)) rfl rfl rfl ?_)
        refine WL_step rfl rfl (Exec.move (v := Value.bool (true)) rfl rfl ?_)
        refine WL_pass rfl (yield_of rfl rfl) rfl rfl ?_
        refine WL_pass rfl (yield_of rfl rfl) rfl rfl ?_
        refine WL_pass rfl (yield_of rfl rfl) rfl rfl ?_
        refine WL_pass rfl (yield_of rfl rfl) rfl rfl ?_
        refine WL_step rfl rfl (Exec.pick_t (v := Value.bool (true)) rfl rfl rfl ?_)
        refine WL_nil (at_normal ?_)
        exact ⟨s, (PHeap.le_refl _), hS26414, rfl, (congrArg Value.bool (Eq.trans (or_f hc26422) (or_t hc26423))).symm⟩
      · replace hc26423 := not_true hc26423
        refine WL_run rfl (yield_of rfl (congrArg Value.bool hc26423)) rfl (Exec.field F26_1 rfl rfl rfl ?_)
        refine WL_run rfl (yield_of rfl (congrArg Value.bool hc26423)) rfl (Exec.load_box (hS26414) A3 rfl rfl rfl ?_)
        refine WL_run rfl (yield_of rfl (congrArg Value.bool hc26423)) rfl (Exec.lss rfl rfl rfl ?_)
        refine WL_step rfl rfl (Exec.pick_f (v := Value.bool (decide (x25734.Init < 0))) rfl (congrArg Value.bool hc26423) rfl ?_)
        refine WL_step rfl rfl (Exec.move (v := Value.bool (decide (x25734.Init < 0))) rfl rfl ?_)
        by_cases hc26424 : (decide (x25734.Init < 0)) = true
        · refine WL_pass rfl (yield_of rfl (congrArg Value.bool hc26424)) rfl rfl ?_
          refine WL_pass rfl (yield_of rfl (congrArg Value.bool hc26424)) rfl rfl ?_
          refine WL_pass rfl (yield_of rfl (congrArg Value.bool hc26424)) rfl rfl ?_
          refine WL_pass rfl (yield_of rfl (congrArg Value.bool hc26424)) rfl rfl ?_
          refine WL_pass rfl (yield_of rfl (congrArg Value.bool hc26424)) rfl rfl ?_
          refine WL_step rfl rfl (Exec.pick_t (v := Value.bool (true)) rfl (congrArg Value.bool hc26424) rfl ?_)
          refine WL_step rfl rfl (Exec.move (v := Value.bool (true)) rfl rfl ?_)
          refine WL_pass rfl (yield_of rfl rfl) rfl rfl ?_
          refine WL_pass rfl (yield_of rfl rfl) rfl rfl ?_
          refine WL_pass rfl (yield_of rfl rfl) rfl rfl ?_
          refine WL_pass rfl (yield_of rfl rfl) rfl rfl ?_
          refine WL_pass rfl (yield_of rfl rfl) rfl rfl ?_
          refine WL_pass rfl (yield_of rfl rfl) rfl rfl ?_
          refine WL_step rfl rfl (Exec.pick_t (v := Value.bool (true)) rfl rfl rfl ?_)
          refine WL_step rfl rfl (Exec.move (v := Value.bool (true)) rfl rfl ?_)
          refine WL_pass rfl (yield_of rfl rfl) rfl rfl ?_
          refine WL_pass rfl (yield_of rfl rfl) rfl rfl ?_
          refine WL_pass rfl (yield_of rfl rfl) rfl rfl ?_
          refine WL_pass rfl (yield_of rfl rfl) rfl rfl ?_
          refine WL_step rfl rfl (Exec.pick_t (v := Value.bool (true)) rfl rfl rfl ?_)
          refine WL_step rfl rfl (Exec.move (v := Value.bool (true)) rfl rfl ?_)
          refine WL_pass rfl (yield_of rfl rfl) rfl rfl ?_
          refine WL_pass rfl (yield_of rfl rfl) rfl rfl ?_
          refine WL_pass rfl (yield_of rfl rfl) rfl rfl ?_
          refine WL_pass rfl (yield_of rfl rfl) rfl rfl ?_
          refine WL_step rfl rfl (Exec.pick_t (v := Value.bool (true)) rfl rfl rfl ?_)
          refine WL_nil (at_normal ?_)
          exact ⟨s, (PHeap.le_refl _), hS26414, rfl, (congrArg Value.bool (Eq.trans (or_f hc26422) (Eq.trans (or_f hc26423) (or_t hc26424)))).symm⟩
        · replace hc26424 := not_true hc26424
          refine WL_run rfl (yield_of rfl (congrArg Value.bool hc26424)) rfl (Exec.field F26_1 rfl rfl rfl ?_)
          refine WL_run rfl (yield_of rfl (congrArg Value.bool hc26424)) rfl (Exec.load_box (hS26414) A3 rfl rfl rfl ?_)
          refine WL_run rfl (yield_of rfl (congrArg Value.bool hc26424)) rfl (Exec.field F26_0 rfl rfl rfl ?_)
          refine WL_run rfl (yield_of rfl (congrArg Value.bool hc26424)) rfl (Exec.load_box (hS26414) A3 rfl rfl rfl ?_)
          refine WL_run rfl (yield_of rfl (congrArg Value.bool hc26424)) rfl (Exec.geq rfl rfl rfl ?_)
          refine WL_step rfl rfl (Exec.pick_f (v := Value.bool (decide (x25734.States ≤ x25734.Init))) rfl (congrArg Value.bool hc26424) rfl ?_)
          refine WL_step rfl rfl (Exec.move (v := Value.bool (decide (x25734.States ≤ x25734.Init))) rfl rfl ?_)
          by_cases hc26425 : (decide (x25734.States ≤ x25734.Init)) = true
          · refine WL_pass rfl (yield_of rfl (congrArg Value.bool hc26425)) rfl rfl ?_
            refine WL_pass rfl (yield_of rfl (congrArg Value.bool hc26425)) rfl rfl ?_
            refine WL_pass rfl (yield_of rfl (congrArg Value.bool hc26425)) rfl rfl ?_
            refine WL_pass rfl (yield_of rfl (congrArg Value.bool hc26425)) rfl rfl ?_
            refine WL_pass rfl (yield_of rfl (congrArg Value.bool hc26425)) rfl rfl ?_
            refine WL_pass rfl (yield_of rfl (congrArg Value.bool hc26425)) rfl rfl ?_
            refine WL_step rfl rfl (Exec.pick_t (v := Value.bool (true)) rfl (congrArg Value.bool hc26425) rfl ?_)
            refine WL_step rfl rfl (Exec.move (v := Value.bool (true)) rfl rfl ?_)
            refine WL_pass rfl (yield_of rfl rfl) rfl rfl ?_
            refine WL_pass rfl (yield_of rfl rfl) rfl rfl ?_
            refine WL_pass rfl (yield_of rfl rfl) rfl rfl ?_
            refine WL_pass rfl (yield_of rfl rfl) rfl rfl ?_
            refine WL_step rfl rfl (Exec.pick_t (v := Value.bool (true)) rfl rfl rfl ?_)
            refine WL_step rfl rfl (Exec.move (v := Value.bool (true)) rfl rfl ?_)
            refine WL_pass rfl (yield_of rfl rfl) rfl rfl ?_
            refine WL_pass rfl (yield_of rfl rfl) rfl rfl ?_
            refine WL_pass rfl (yield_of rfl rfl) rfl rfl ?_
            refine WL_pass rfl (yield_of rfl rfl) rfl rfl ?_
            refine WL_step rfl rfl (Exec.pick_t (v := Value.bool (true)) rfl rfl rfl ?_)
            refine WL_nil (at_normal ?_)
            exact ⟨s, (PHeap.le_refl _), hS26414, rfl, (congrArg Value.bool (Eq.trans (or_f hc26422) (Eq.trans (or_f hc26423) (Eq.trans (or_f hc26424) (or_t hc26425))))).symm⟩
          · replace hc26425 := not_true hc26425
            refine WL_run rfl (yield_of rfl (congrArg Value.bool hc26425)) rfl (Exec.field F26_4 rfl rfl rfl ?_)
            refine WL_run rfl (yield_of rfl (congrArg Value.bool hc26425)) rfl (Exec.load_box (hS26414) A24 rfl rfl rfl ?_)
            refine WL_run rfl (yield_of rfl (congrArg Value.bool hc26425)) rfl (Exec.len_rep S24 rfl rfl a25740 ?_)
            refine WL_run rfl (yield_of rfl (congrArg Value.bool hc26425)) rfl (Exec.field F26_0 rfl rfl rfl ?_)
            refine WL_run rfl (yield_of rfl (congrArg Value.bool hc26425)) rfl (Exec.load_box (hS26414) A3 rfl rfl rfl ?_)
            refine WL_run rfl (yield_of rfl (congrArg Value.bool hc26425)) rfl (Exec.neq rfl rfl rfl ?_)
            refine WL_step rfl rfl (Exec.pick_f (v := Value.bool (!decide ((x25734.Goals.length : Int) = x25734.States))) rfl (congrArg Value.bool hc26425) rfl ?_)
            refine WL_step rfl rfl (Exec.move (v := Value.bool (!decide ((x25734.Goals.length : Int) = x25734.States))) rfl rfl ?_)
            by_cases hc26426 : (!decide ((x25734.Goals.length : Int) = x25734.States)) = true
            · refine WL_pass rfl (yield_of rfl (congrArg Value.bool hc26426)) rfl rfl ?_
              refine WL_pass rfl (yield_of rfl (congrArg Value.bool hc26426)) rfl rfl ?_
              refine WL_pass rfl (yield_of rfl (congrArg Value.bool hc26426)) rfl rfl ?_
              refine WL_pass rfl (yield_of rfl (congrArg Value.bool hc26426)) rfl rfl ?_
              refine WL_step rfl rfl (Exec.pick_t (v := Value.bool (true)) rfl (congrArg Value.bool hc26426) rfl ?_)
              refine WL_step rfl rfl (Exec.move (v := Value.bool (true)) rfl rfl ?_)
              refine WL_pass rfl (yield_of rfl rfl) rfl rfl ?_
              refine WL_pass rfl (yield_of rfl rfl) rfl rfl ?_
              refine WL_pass rfl (yield_of rfl rfl) rfl rfl ?_
              refine WL_pass rfl (yield_of rfl rfl) rfl rfl ?_
              refine WL_step rfl rfl (Exec.pick_t (v := Value.bool (true)) rfl rfl rfl ?_)
              refine WL_nil (at_normal ?_)
              exact ⟨s, (PHeap.le_refl _), hS26414, rfl, (congrArg Value.bool (Eq.trans (or_f hc26422) (Eq.trans (or_f hc26423) (Eq.trans (or_f hc26424) (Eq.trans (or_f hc26425) (or_t hc26426)))))).symm⟩
            · replace hc26426 := not_true hc26426
              refine WL_run rfl (yield_of rfl (congrArg Value.bool hc26426)) rfl (Exec.field F26_2 rfl rfl rfl ?_)
              refine WL_run rfl (yield_of rfl (congrArg Value.bool hc26426)) rfl (Exec.load_box (hS26414) A22 rfl rfl rfl ?_)
              refine WL_run rfl (yield_of rfl (congrArg Value.bool hc26426)) rfl (Exec.len_rep S22 rfl rfl a25736 ?_)
              refine WL_run rfl (yield_of rfl (congrArg Value.bool hc26426)) rfl (Exec.gtr rfl rfl rfl ?_)
              refine WL_step rfl rfl (Exec.pick_f (v := Value.bool (decide (4096 < (x25734.Costs.length : Int)))) rfl (congrArg Value.bool hc26426) rfl ?_)
              refine WL_step rfl rfl (Exec.move (v := Value.bool (decide (4096 < (x25734.Costs.length : Int)))) rfl rfl ?_)
              by_cases hc26427 : (decide (4096 < (x25734.Costs.length : Int))) = true
              · refine WL_pass rfl (yield_of rfl (congrArg Value.bool hc26427)) rfl rfl ?_
                refine WL_pass rfl (yield_of rfl (congrArg Value.bool hc26427)) rfl rfl ?_
                refine WL_pass rfl (yield_of rfl (congrArg Value.bool hc26427)) rfl rfl ?_
                refine WL_pass rfl (yield_of rfl (congrArg Value.bool hc26427)) rfl rfl ?_
                refine WL_step rfl rfl (Exec.pick_t (v := Value.bool (true)) rfl (congrArg Value.bool hc26427) rfl ?_)
                refine WL_nil (at_normal ?_)
                exact ⟨s, (PHeap.le_refl _), hS26414, rfl, (congrArg Value.bool (Eq.trans (or_f hc26422) (Eq.trans (or_f hc26423) (Eq.trans (or_f hc26424) (Eq.trans (or_f hc26425) (Eq.trans (or_f hc26426) (or_t hc26427))))))).symm⟩
              · replace hc26427 := not_true hc26427
                refine WL_run rfl (yield_of rfl (congrArg Value.bool hc26427)) rfl (Exec.field F26_3 rfl rfl rfl ?_)
                refine WL_run rfl (yield_of rfl (congrArg Value.bool hc26427)) rfl (Exec.load_box (hS26414) A23 rfl rfl rfl ?_)
                refine WL_run rfl (yield_of rfl (congrArg Value.bool hc26427)) rfl (Exec.len_rep S23 rfl rfl a25738 ?_)
                refine WL_run rfl (yield_of rfl (congrArg Value.bool hc26427)) rfl (Exec.gtr rfl rfl rfl ?_)
                refine WL_step rfl rfl (Exec.pick_f (v := Value.bool (decide (65536 < (x25734.Edges.length : Int)))) rfl (congrArg Value.bool hc26427) rfl ?_)
                refine WL_nil (at_normal ?_)
                exact ⟨s, (PHeap.le_refl _), hS26414, rfl, (congrArg Value.bool (Eq.trans (or_f hc26422) (Eq.trans (or_f hc26423) (Eq.trans (or_f hc26424) (Eq.trans (or_f hc26425) (Eq.trans (or_f hc26426) (or_f hc26427))))))).symm⟩
  · intro f26428 w26429 hM26430
    obtain ⟨s26431, l26432, hS26433, p26434, p26435⟩ := hM26430
    refine (at_normal ?_)
    rcases ite_some hm with ⟨hc26436, hm⟩ | ⟨hc26436, hm⟩
    · refine W_cond_t p26435 hc26436 ?_
      refine W_seq ?_
      refine W_region ?_
      refine WL_step rfl rfl (Exec.assign (v := Value.bool (false)) rfl rfl ?_)
      refine WL_nil (at_normal ?_)
      refine W_ret (at_ret ?_)
      have e26438 := Option.some.inj hm
      subst r
      refine ⟨_, ret1 rfl, ?_⟩
      have hS26439 := (hS26433).drop
      exact ⟨s26431, l26432, hS26439, rfl⟩
    · refine W_cond_f p26435 hc26436 ?_
      replace hc26436 := not_true hc26436
      refine W_skip (at_normal ?_)
      refine W_seq ?_
      refine W_seq ?_
      refine W_region ?_
      refine WL_step rfl rfl (Exec.field F26_2 rfl p26434 rfl ?_)
      refine WL_step rfl rfl (Exec.load_box (hS26433) A22 rfl rfl rfl ?_)
      refine WL_step rfl rfl (Exec.len_rep S22 rfl rfl (a25736.mono l26432) ?_)
      refine WL_step rfl rfl (Exec.move (v := Value.int .i64 (0)) rfl rfl ?_)
      refine WL_nil (at_normal ?_)
      obtain ⟨c26501, hB26502, hr26503, hn26504, hb26505⟩ := ctl_some hm
      refine W_mid (M := fun f' w' => ∃ s', (c26501 = .next s' ∨ c26501 = .brk s') ∧ (fun (_ : Unit) => ∃ (s26507 : PHeap) , PHeap.le s26431 s26507 ∧ St w0 s26507 (Res.box b26412 26 [Value.int .i64 (x25734.States), Value.int .i64 (x25734.Init), v25735, v25737, v25739] :: H) w' ∧ f' 1 = Value.pointer (some ⟨b26412, 0, none⟩) ∧ f' 48 = v25735 ∧ f' 49 = Value.int .i64 ((x25734.Costs.length : Int))) s') ?_ ?_
      · refine W_block (W_forC (fun k' s' f' w' => (fun (_ : Unit) => ∃ (s26506 : PHeap) , PHeap.le s26431 s26506 ∧ St w0 s26506 (Res.box b26412 26 [Value.int .i64 (x25734.States), Value.int .i64 (x25734.Init), v25735, v25737, v25739] :: H) w' ∧ f' 1 = Value.pointer (some ⟨b26412, 0, none⟩) ∧ f' 48 = v25735 ∧ f' 49 = Value.int .i64 ((x25734.Costs.length : Int)) ∧ f' 50 = Value.int .i64 (k' : Int)) s') hB26502 ?_ ?_ ?_)
        · exact ⟨s26431, (PHeap.le_refl _), hS26433, p26434, rfl, rfl, rfl⟩
        · intro i26440 t26515 c26509 f26510 w26511 hi26516 hI26512 hm26513 hres26514
          obtain ⟨s26517, l26518, hS26519, p26520, p26521, p26522, x26523⟩ := hI26512
          refine W_seq ?_
          refine W_region ?_
          refine WL_step rfl rfl (Exec.lss rfl x26523 p26522 ?_)
          refine WL_nil (at_normal ?_)
          refine W_seq ?_
          refine W_true (congrArg Value.bool (decide_eq_true (by omega))) ?_
          refine W_skip (at_normal ?_)
          refine W_seq ?_
          refine W_block ?_
          refine W_seq ?_
          refine W_region ?_
          obtain ⟨x26531, q26532, hm26513⟩ := bind_some hm26513
          refine WL_step rfl rfl (Exec.index_rep S22 rfl p26521 x26523 (a25736.mono (PHeap.le.trans l26432 l26518)) q26532 ?_)
          intro b26533 o26534 a26535
          refine WL_step rfl rfl (Exec.load_at (E := (encInt .i64)) hS26519 A3 rfl rfl rfl a26535 ?_)
          intro v26536 q26537
          obtain rfl := encInt_val.1 q26537
          refine WL_step rfl rfl (Exec.assign (v := Value.int .i64 (x26531)) rfl rfl ?_)
          refine WL_nil (at_normal ?_)
          refine W_seq ?_
          refine W_mid (M := fun f' w' => ∃ (s26539 : PHeap) , PHeap.le s26517 s26539 ∧ St w0 s26539 (Res.box b26412 26 [Value.int .i64 (x25734.States), Value.int .i64 (x25734.Init), v25735, v25737, v25739] :: H) w' ∧ f' 1 = Value.pointer (some ⟨b26412, 0, none⟩) ∧ f' 48 = v25735 ∧ f' 49 = Value.int .i64 ((x25734.Costs.length : Int)) ∧ f' 50 = Value.int .i64 ((i26440 : Int)) ∧ f' 59 = Value.bool (((decide (x26531 < 0)) || decide (1048576 < x26531)))) ?_ ?_
          · refine W_region ?_
            refine WL_step rfl rfl (Exec.move (v := Value.int .i64 (x26531)) rfl rfl ?_)
            refine WL_step rfl rfl (Exec.lss rfl rfl rfl ?_)
            refine WL_step rfl rfl (Exec.move (v := Value.bool (decide (x26531 < 0))) rfl rfl ?_)
            by_cases hc26540 : (decide (x26531 < 0)) = true
            · refine WL_pass rfl (yield_of rfl (congrArg Value.bool hc26540)) rfl rfl ?_
              refine WL_pass rfl (yield_of rfl (congrArg Value.bool hc26540)) rfl rfl ?_
              refine WL_step rfl rfl (Exec.pick_t (v := Value.bool (true)) rfl (congrArg Value.bool hc26540) rfl ?_)
              refine WL_nil (at_normal ?_)
              exact ⟨s26517, (PHeap.le_refl _), hS26519, p26520, p26521, p26522, x26523, (congrArg Value.bool (or_t hc26540)).symm⟩
            · replace hc26540 := not_true hc26540
              refine WL_run rfl (yield_of rfl (congrArg Value.bool hc26540)) rfl (Exec.move (v := Value.int .i64 (x26531)) rfl rfl ?_)
              refine WL_run rfl (yield_of rfl (congrArg Value.bool hc26540)) rfl (Exec.gtr rfl rfl rfl ?_)
              refine WL_step rfl rfl (Exec.pick_f (v := Value.bool (decide (1048576 < x26531))) rfl (congrArg Value.bool hc26540) rfl ?_)
              refine WL_nil (at_normal ?_)
              exact ⟨s26517, (PHeap.le_refl _), hS26519, p26520, p26521, p26522, x26523, (congrArg Value.bool (or_f hc26540)).symm⟩
          · intro f26541 w26542 hM26543
            obtain ⟨s26544, l26545, hS26546, p26547, p26548, p26549, p26550, p26551⟩ := hM26543
            refine (at_normal ?_)
            rcases ite_some hm26513 with ⟨hc26552, hm26513⟩ | ⟨hc26552, hm26513⟩
            · refine W_cond_t p26551 hc26552 ?_
              refine W_seq ?_
              refine W_region ?_
              refine WL_step rfl rfl (Exec.assign (v := Value.bool (false)) rfl rfl ?_)
              refine WL_nil (at_normal ?_)
              refine W_ret (ib_ret (at_ret (at_ret (ib_ret (at_ret (at_ret ?_))))))
              have e26553 := Option.some.inj hm26513
              subst c26509
              have hq26554 := hr26503 _ (hres26514 (by intro _ h; cases h))
              have e26555 := Option.some.inj hq26554
              subst r
              refine ⟨_, ret1 rfl, ?_⟩
              have hS26556 := (hS26546).drop
              exact ⟨s26544, (PHeap.le.trans (PHeap.le.trans l26432 l26518) l26545), hS26556, rfl⟩
            · refine W_cond_f p26551 hc26552 ?_
              replace hc26552 := not_true hc26552
              refine W_skip (ib_normal (at_normal ?_))
              refine W_region ?_
              refine WL_step rfl rfl (Exec.add rfl p26550 rfl ?_)
              refine WL_step rfl rfl (Exec.move (v := Value.int .i64 (IntKind.i64.wrap ((i26440 : Int) + 1))) rfl rfl ?_)
              refine WL_nil (at_normal ?_)
              have e26557 := Option.some.inj hm26513
              subst c26509
              refine ⟨_, rfl, ?_⟩; exact ⟨s26544, (PHeap.le.trans l26518 l26545), hS26546, p26547, p26548, p26549, (Eq.trans rfl (wrap_up hi26516 (SliceRep.le (a25736.mono l26432))))⟩
        · intro t26558 f26559 w26560 hI26561 hres26562
          obtain ⟨s26563, l26564, hS26565, p26566, p26567, p26568, x26569⟩ := hI26561
          refine W_seq ?_
          refine W_region ?_
          refine WL_step rfl rfl (Exec.lss rfl x26569 p26568 ?_)
          refine WL_nil (at_normal ?_)
          refine W_seq ?_
          refine W_false (congrArg Value.bool (decide_eq_false (by omega))) ?_
          refine W_exit (at_exit (at_exit (ib_here (at_normal ?_))))
          refine ⟨_, .inl hres26562, ?_⟩; exact ⟨s26563, l26564, hS26565, p26566, p26567, p26568⟩
      · rintro f26570 w26571 ⟨t26572, hc26573, hM26574⟩
        have hm := hc26573.elim (hn26504 _) (hb26505 _)
        clear hc26573
        obtain ⟨s26575, l26576, hS26577, p26578, p26579, p26580⟩ := hM26574
        refine (at_normal ?_)
        refine W_seq ?_
        refine W_seq ?_
        refine W_region ?_
        refine WL_step rfl rfl (Exec.field F26_3 rfl p26578 rfl ?_)
        refine WL_step rfl rfl (Exec.load_box (hS26577) A23 rfl rfl rfl ?_)
        refine WL_step rfl rfl (Exec.len_rep S23 rfl rfl (a25738.mono (PHeap.le.trans l26432 l26576)) ?_)
        refine WL_step rfl rfl (Exec.move (v := Value.int .i64 (0)) rfl rfl ?_)
        refine WL_nil (at_normal ?_)
        obtain ⟨c26854, hB26855, hr26856, hn26857, hb26858⟩ := ctl_some hm
        refine W_mid (M := fun f' w' => ∃ s', (c26854 = .next s' ∨ c26854 = .brk s') ∧ (fun (_ : Unit) => ∃ (s26860 : PHeap) , PHeap.le s26575 s26860 ∧ St w0 s26860 (Res.box b26412 26 [Value.int .i64 (x25734.States), Value.int .i64 (x25734.Init), v25735, v25737, v25739] :: H) w' ∧ f' 1 = Value.pointer (some ⟨b26412, 0, none⟩) ∧ f' 62 = v25737 ∧ f' 63 = Value.int .i64 ((x25734.Edges.length : Int))) s') ?_ ?_
        · refine W_block (W_forC (fun k' s' f' w' => (fun (_ : Unit) => ∃ (s26859 : PHeap) , PHeap.le s26575 s26859 ∧ St w0 s26859 (Res.box b26412 26 [Value.int .i64 (x25734.States), Value.int .i64 (x25734.Init), v25735, v25737, v25739] :: H) w' ∧ f' 1 = Value.pointer (some ⟨b26412, 0, none⟩) ∧ f' 62 = v25737 ∧ f' 63 = Value.int .i64 ((x25734.Edges.length : Int)) ∧ f' 64 = Value.int .i64 (k' : Int)) s') hB26855 ?_ ?_ ?_)
          · exact ⟨s26575, (PHeap.le_refl _), hS26577, p26578, rfl, rfl, rfl⟩
          · intro i26581 t26868 c26862 f26863 w26864 hi26869 hI26865 hm26866 hres26867
            obtain ⟨s26870, l26871, hS26872, p26873, p26874, p26875, x26876⟩ := hI26865
            refine W_seq ?_
            refine W_region ?_
            refine WL_step rfl rfl (Exec.lss rfl x26876 p26875 ?_)
            refine WL_nil (at_normal ?_)
            refine W_seq ?_
            refine W_true (congrArg Value.bool (decide_eq_true (by omega))) ?_
            refine W_skip (at_normal ?_)
            refine W_seq ?_
            refine W_block ?_
            refine W_seq ?_
            refine W_region ?_
            refine WL_step rfl rfl (Exec.move (v := Value.int .i64 ((i26581 : Int))) rfl x26876 ?_)
            obtain ⟨x26889, q26890, hm26866⟩ := bind_some hm26866
            refine WL_step rfl rfl (Exec.index_rep S23 rfl p26874 x26876 (a25738.mono (PHeap.le.trans (PHeap.le.trans l26432 l26576) l26871)) q26890 ?_)
            intro b26891 o26892 a26893
            refine WL_step rfl rfl (Exec.load_at (E := encEdge) hS26872 A66 rfl rfl rfl a26893 ?_)
            intro v26894 q26895
            obtain rfl := encEdge_val.1 q26895
            refine WL_step rfl rfl (Exec.alloc (cs := [Value.int .i64 (0), Value.int .i64 (0), Value.int .i64 (0)]) hS26872 Z66 rfl rfl ?_)
            intro b26896 w26897 hS26898
            refine WL_step rfl rfl (Exec.assign (v := Value.int .i64 ((i26581 : Int))) rfl rfl ?_)
            refine WL_step rfl rfl (Exec.store_box (ds := [Value.int .i64 (x26889.From), Value.int .i64 (x26889.Label), Value.int .i64 (x26889.To)]) (es := [Value.int .i64 (x26889.From), Value.int .i64 (x26889.Label), Value.int .i64 (x26889.To)]) hS26898 A66 rfl rfl rfl rfl (one_cons rfl (one_cons rfl (one_cons rfl one_nil))) (Nat.le_of_ble_eq_true rfl) rfl ?_)
            intro w26899 hS26900
            refine WL_nil (at_normal ?_)
            refine W_seq ?_
            obtain ⟨z26941, ht26942, hm26866⟩ := bind_some hm26866
            refine W_mid (M := fun f' w' => (fun (z26941 : Bool) => ∃ (s26943 : PHeap) , PHeap.le s26870 s26943 ∧ St w0 s26943 (Res.box b26412 26 [Value.int .i64 (x25734.States), Value.int .i64 (x25734.Init), v25735, v25737, v25739] :: H) w' ∧ f' 1 = Value.pointer (some ⟨b26412, 0, none⟩) ∧ f' 62 = v25737 ∧ f' 63 = Value.int .i64 ((x25734.Edges.length : Int)) ∧ f' 64 = Value.int .i64 ((i26581 : Int)) ∧ f' 118 = Value.bool (z26941)) z26941) ?_ ?_
            · refine W_dl (n0 := 50) (.q 0 (.q 1 (.q 2 (.q 3 (.q 4 (.q 5 (.q 6 (.q 7 (.q 8 (.q 9 (.q 10 (.q 11 (.q 12 (.q 13 (.q 14 (.q 15 (.q 16 (.q 17 (.q 18 (.q 19 (.q 20 (.q 21 (.q 22 (.q 23 (.q 24 (.q 25 (.q 26 (.q 27 (.q 28 (.q 29 (.q 30 (.q 31 (.q 32 (.q 33 (.q 34 (.q 35 (.q 36 (.q 37 (.q 38 (.q 39 (.q 40 (.q 41 (.q 42 (.q 43 (.q 44 (.q 45 (.e 46 [] (.q 47 (.q 48 (.q 49 .done)))))))))))))))))))))))))))))))))))))))))))))))))) hmix (by kernel_rfl) (by kernel_rfl) ?_
              have hS26964 := hS26900.drew
              refine DL_q rfl rfl (Exec.field F66_0 rfl rfl rfl ⟨rfl, ?_⟩)
              refine DL_q rfl rfl (Exec.load_box (hS26964) A3 rfl rfl rfl ⟨rfl, ?_⟩)
              refine DL_q rfl rfl (Exec.lss rfl rfl rfl ⟨rfl, ?_⟩)
              refine DL_q rfl rfl (Exec.move (v := Value.bool (decide (x26889.From < 0))) rfl rfl ⟨rfl, ?_⟩)
              rcases ite_some ht26942 with ⟨hc26965, ht26942⟩ | ⟨hc26965, ht26942⟩
              · refine DL_qp rfl rfl (yield_of rfl (congrArg Value.bool hc26965)) rfl ?_
                refine DL_qp rfl rfl (yield_of rfl (congrArg Value.bool hc26965)) rfl ?_
                refine DL_qp rfl rfl (yield_of rfl (congrArg Value.bool hc26965)) rfl ?_
                refine DL_qp rfl rfl (yield_of rfl (congrArg Value.bool hc26965)) rfl ?_
                refine DL_qp rfl rfl (yield_of rfl (congrArg Value.bool hc26965)) rfl ?_
                refine DL_q rfl rfl (Exec.pick_t (v := Value.bool (true)) rfl (congrArg Value.bool hc26965) rfl ⟨rfl, ?_⟩)
                refine DL_q rfl rfl (Exec.move (v := Value.bool (true)) rfl rfl ⟨rfl, ?_⟩)
                refine DL_qp rfl rfl (yield_of rfl rfl) rfl ?_
                refine DL_qp rfl rfl (yield_of rfl rfl) rfl ?_
                refine DL_qp rfl rfl (yield_of rfl rfl) rfl ?_
                refine DL_q rfl rfl (Exec.pick_t (v := Value.bool (true)) rfl rfl rfl ⟨rfl, ?_⟩)
                refine DL_q rfl rfl (Exec.move (v := Value.bool (true)) rfl rfl ⟨rfl, ?_⟩)
                refine DL_qp rfl rfl (yield_of rfl rfl) rfl ?_
                refine DL_qp rfl rfl (yield_of rfl rfl) rfl ?_
                refine DL_qp rfl rfl (yield_of rfl rfl) rfl ?_
                refine DL_qp rfl rfl (yield_of rfl rfl) rfl ?_
                refine DL_qp rfl rfl (yield_of rfl rfl) rfl ?_
                refine DL_q rfl rfl (Exec.pick_t (v := Value.bool (true)) rfl rfl rfl ⟨rfl, ?_⟩)
                refine DL_q rfl rfl (Exec.move (v := Value.bool (true)) rfl rfl ⟨rfl, ?_⟩)
                refine DL_qp rfl rfl (yield_of rfl rfl) rfl ?_
                refine DL_qp rfl rfl (yield_of rfl rfl) rfl ?_
                refine DL_qp rfl rfl (yield_of rfl rfl) rfl ?_
                refine DL_q rfl rfl (Exec.pick_t (v := Value.bool (true)) rfl rfl rfl ⟨rfl, ?_⟩)
                refine DL_q rfl rfl (Exec.move (v := Value.bool (true)) rfl rfl ⟨rfl, ?_⟩)
                refine DL_qp rfl rfl (yield_of rfl rfl) rfl ?_
                refine DL_qp rfl rfl (yield_of rfl rfl) rfl ?_
                refine DL_qp rfl rfl (yield_of rfl rfl) rfl ?_
                refine DL_qp rfl rfl (yield_of rfl rfl) rfl ?_
                refine DL_qp rfl rfl (yield_of rfl rfl) rfl ?_
                refine DL_qp rfl rfl (yield_of rfl rfl) rfl ?_
                refine DL_q rfl rfl (Exec.pick_t (v := Value.bool (true)) rfl rfl rfl ⟨rfl, ?_⟩)
                refine DL_q rfl rfl (Exec.move (v := Value.bool (true)) rfl rfl ⟨rfl, ?_⟩)
                refine DL_qp rfl rfl (yield_of rfl rfl) rfl ?_
                refine DL_qp rfl rfl (yield_of rfl rfl) rfl ?_
                refine DL_qp rfl rfl (yield_of rfl rfl) rfl ?_
                refine DL_qn rfl rfl (yield_undef rfl rfl) ?_
                refine DL_qn rfl rfl (yield_undef rfl rfl) ?_
                refine DL_qn rfl rfl (yield_undef rfl rfl) ?_
                refine DL_qn rfl rfl (yield_undef rfl rfl) ?_
                refine DL_qn rfl rfl (yield_undef rfl rfl) ?_
                refine DL_qn rfl rfl (yield_undef rfl rfl) ?_
                refine DL_qn rfl rfl (yield_undef rfl rfl) ?_
                refine DL_en rfl rfl (yield_undef rfl rfl) ?_
                refine DL_qn rfl rfl (yield_undef rfl rfl) ?_
                refine DL_qp rfl rfl (yield_of rfl rfl) rfl ?_
                refine DL_q rfl rfl (Exec.pick_t (v := Value.bool (true)) rfl rfl rfl ⟨rfl, ?_⟩)
                refine DL_done ?_
                refine WL_nil (at_normal ?_)
                have e26966 := Option.some.inj ht26942
                subst z26941
                have hS26967 := (hS26964).drop
                exact ⟨s26870, (PHeap.le_refl _), hS26967, p26873, p26874, p26875, x26876, rfl⟩
              · replace hc26965 := not_true hc26965
                refine DL_qg rfl rfl (yield_of rfl (congrArg Value.bool hc26965)) (Exec.field F66_0 rfl rfl rfl ⟨rfl, ?_⟩)
                refine DL_qg rfl rfl (yield_of rfl (congrArg Value.bool hc26965)) (Exec.load_box (hS26964) A3 rfl rfl rfl ⟨rfl, ?_⟩)
                refine DL_qg rfl rfl (yield_of rfl (congrArg Value.bool hc26965)) (Exec.field F26_0 rfl p26873 rfl ⟨rfl, ?_⟩)
                refine DL_qg rfl rfl (yield_of rfl (congrArg Value.bool hc26965)) (Exec.load_box ((hS26964).f1) A3 rfl rfl rfl ⟨rfl, ?_⟩)
                refine DL_qg rfl rfl (yield_of rfl (congrArg Value.bool hc26965)) (Exec.geq rfl rfl rfl ⟨rfl, ?_⟩)
                refine DL_q rfl rfl (Exec.pick_f (v := Value.bool (decide (x25734.States ≤ x26889.From))) rfl (congrArg Value.bool hc26965) rfl ⟨rfl, ?_⟩)
                refine DL_q rfl rfl (Exec.move (v := Value.bool (decide (x25734.States ≤ x26889.From))) rfl rfl ⟨rfl, ?_⟩)
                rcases ite_some ht26942 with ⟨hc26968, ht26942⟩ | ⟨hc26968, ht26942⟩
                · refine DL_qp rfl rfl (yield_of rfl (congrArg Value.bool hc26968)) rfl ?_
                  refine DL_qp rfl rfl (yield_of rfl (congrArg Value.bool hc26968)) rfl ?_
                  refine DL_qp rfl rfl (yield_of rfl (congrArg Value.bool hc26968)) rfl ?_
                  refine DL_q rfl rfl (Exec.pick_t (v := Value.bool (true)) rfl (congrArg Value.bool hc26968) rfl ⟨rfl, ?_⟩)
                  refine DL_q rfl rfl (Exec.move (v := Value.bool (true)) rfl rfl ⟨rfl, ?_⟩)
                  refine DL_qp rfl rfl (yield_of rfl rfl) rfl ?_
                  refine DL_qp rfl rfl (yield_of rfl rfl) rfl ?_
                  refine DL_qp rfl rfl (yield_of rfl rfl) rfl ?_
                  refine DL_qp rfl rfl (yield_of rfl rfl) rfl ?_
                  refine DL_qp rfl rfl (yield_of rfl rfl) rfl ?_
                  refine DL_q rfl rfl (Exec.pick_t (v := Value.bool (true)) rfl rfl rfl ⟨rfl, ?_⟩)
                  refine DL_q rfl rfl (Exec.move (v := Value.bool (true)) rfl rfl ⟨rfl, ?_⟩)
                  refine DL_qp rfl rfl (yield_of rfl rfl) rfl ?_
                  refine DL_qp rfl rfl (yield_of rfl rfl) rfl ?_
                  refine DL_qp rfl rfl (yield_of rfl rfl) rfl ?_
                  refine DL_q rfl rfl (Exec.pick_t (v := Value.bool (true)) rfl rfl rfl ⟨rfl, ?_⟩)
                  refine DL_q rfl rfl (Exec.move (v := Value.bool (true)) rfl rfl ⟨rfl, ?_⟩)
                  refine DL_qp rfl rfl (yield_of rfl rfl) rfl ?_
                  refine DL_qp rfl rfl (yield_of rfl rfl) rfl ?_
                  refine DL_qp rfl rfl (yield_of rfl rfl) rfl ?_
                  refine DL_qp rfl rfl (yield_of rfl rfl) rfl ?_
                  refine DL_qp rfl rfl (yield_of rfl rfl) rfl ?_
                  refine DL_qp rfl rfl (yield_of rfl rfl) rfl ?_
                  refine DL_q rfl rfl (Exec.pick_t (v := Value.bool (true)) rfl rfl rfl ⟨rfl, ?_⟩)
                  refine DL_q rfl rfl (Exec.move (v := Value.bool (true)) rfl rfl ⟨rfl, ?_⟩)
                  refine DL_qp rfl rfl (yield_of rfl rfl) rfl ?_
                  refine DL_qp rfl rfl (yield_of rfl rfl) rfl ?_
                  refine DL_qp rfl rfl (yield_of rfl rfl) rfl ?_
                  refine DL_qn rfl rfl (yield_undef rfl rfl) ?_
                  refine DL_qn rfl rfl (yield_undef rfl rfl) ?_
                  refine DL_qn rfl rfl (yield_undef rfl rfl) ?_
                  refine DL_qn rfl rfl (yield_undef rfl rfl) ?_
                  refine DL_qn rfl rfl (yield_undef rfl rfl) ?_
                  refine DL_qn rfl rfl (yield_undef rfl rfl) ?_
                  refine DL_qn rfl rfl (yield_undef rfl rfl) ?_
                  refine DL_en rfl rfl (yield_undef rfl rfl) ?_
                  refine DL_qn rfl rfl (yield_undef rfl rfl) ?_
                  refine DL_qp rfl rfl (yield_of rfl rfl) rfl ?_
                  refine DL_q rfl rfl (Exec.pick_t (v := Value.bool (true)) rfl rfl rfl ⟨rfl, ?_⟩)
                  refine DL_done ?_
                  refine WL_nil (at_normal ?_)
                  have e26969 := Option.some.inj ht26942
                  subst z26941
                  have hS26970 := (hS26964).drop
                  exact ⟨s26870, (PHeap.le_refl _), hS26970, p26873, p26874, p26875, x26876, rfl⟩
                · replace hc26968 := not_true hc26968
                  refine DL_qg rfl rfl (yield_of rfl (congrArg Value.bool hc26968)) (Exec.field F66_2 rfl rfl rfl ⟨rfl, ?_⟩)
                  refine DL_qg rfl rfl (yield_of rfl (congrArg Value.bool hc26968)) (Exec.load_box (hS26964) A3 rfl rfl rfl ⟨rfl, ?_⟩)
                  refine DL_qg rfl rfl (yield_of rfl (congrArg Value.bool hc26968)) (Exec.lss rfl rfl rfl ⟨rfl, ?_⟩)
                  refine DL_q rfl rfl (Exec.pick_f (v := Value.bool (decide (x26889.To < 0))) rfl (congrArg Value.bool hc26968) rfl ⟨rfl, ?_⟩)
                  refine DL_q rfl rfl (Exec.move (v := Value.bool (decide (x26889.To < 0))) rfl rfl ⟨rfl, ?_⟩)
                  rcases ite_some ht26942 with ⟨hc26971, ht26942⟩ | ⟨hc26971, ht26942⟩
                  · refine DL_qp rfl rfl (yield_of rfl (congrArg Value.bool hc26971)) rfl ?_
                    refine DL_qp rfl rfl (yield_of rfl (congrArg Value.bool hc26971)) rfl ?_
                    refine DL_qp rfl rfl (yield_of rfl (congrArg Value.bool hc26971)) rfl ?_
                    refine DL_qp rfl rfl (yield_of rfl (congrArg Value.bool hc26971)) rfl ?_
                    refine DL_qp rfl rfl (yield_of rfl (congrArg Value.bool hc26971)) rfl ?_
                    refine DL_q rfl rfl (Exec.pick_t (v := Value.bool (true)) rfl (congrArg Value.bool hc26971) rfl ⟨rfl, ?_⟩)
                    refine DL_q rfl rfl (Exec.move (v := Value.bool (true)) rfl rfl ⟨rfl, ?_⟩)
                    refine DL_qp rfl rfl (yield_of rfl rfl) rfl ?_
                    refine DL_qp rfl rfl (yield_of rfl rfl) rfl ?_
                    refine DL_qp rfl rfl (yield_of rfl rfl) rfl ?_
                    refine DL_q rfl rfl (Exec.pick_t (v := Value.bool (true)) rfl rfl rfl ⟨rfl, ?_⟩)
                    refine DL_q rfl rfl (Exec.move (v := Value.bool (true)) rfl rfl ⟨rfl, ?_⟩)
                    refine DL_qp rfl rfl (yield_of rfl rfl) rfl ?_
                    refine DL_qp rfl rfl (yield_of rfl rfl) rfl ?_
                    refine DL_qp rfl rfl (yield_of rfl rfl) rfl ?_
                    refine DL_qp rfl rfl (yield_of rfl rfl) rfl ?_
                    refine DL_qp rfl rfl (yield_of rfl rfl) rfl ?_
                    refine DL_qp rfl rfl (yield_of rfl rfl) rfl ?_
                    refine DL_q rfl rfl (Exec.pick_t (v := Value.bool (true)) rfl rfl rfl ⟨rfl, ?_⟩)
                    refine DL_q rfl rfl (Exec.move (v := Value.bool (true)) rfl rfl ⟨rfl, ?_⟩)
                    refine DL_qp rfl rfl (yield_of rfl rfl) rfl ?_
                    refine DL_qp rfl rfl (yield_of rfl rfl) rfl ?_
                    refine DL_qp rfl rfl (yield_of rfl rfl) rfl ?_
                    refine DL_qn rfl rfl (yield_undef rfl rfl) ?_
                    refine DL_qn rfl rfl (yield_undef rfl rfl) ?_
                    refine DL_qn rfl rfl (yield_undef rfl rfl) ?_
                    refine DL_qn rfl rfl (yield_undef rfl rfl) ?_
                    refine DL_qn rfl rfl (yield_undef rfl rfl) ?_
                    refine DL_qn rfl rfl (yield_undef rfl rfl) ?_
                    refine DL_qn rfl rfl (yield_undef rfl rfl) ?_
                    refine DL_en rfl rfl (yield_undef rfl rfl) ?_
                    refine DL_qn rfl rfl (yield_undef rfl rfl) ?_
                    refine DL_qp rfl rfl (yield_of rfl rfl) rfl ?_
                    refine DL_q rfl rfl (Exec.pick_t (v := Value.bool (true)) rfl rfl rfl ⟨rfl, ?_⟩)
                    refine DL_done ?_
                    refine WL_nil (at_normal ?_)
                    have e26972 := Option.some.inj ht26942
                    subst z26941
                    have hS26973 := (hS26964).drop
                    exact ⟨s26870, (PHeap.le_refl _), hS26973, p26873, p26874, p26875, x26876, rfl⟩
                  · replace hc26971 := not_true hc26971
                    refine DL_qg rfl rfl (yield_of rfl (congrArg Value.bool hc26971)) (Exec.field F66_2 rfl rfl rfl ⟨rfl, ?_⟩)
                    refine DL_qg rfl rfl (yield_of rfl (congrArg Value.bool hc26971)) (Exec.load_box (hS26964) A3 rfl rfl rfl ⟨rfl, ?_⟩)
                    refine DL_qg rfl rfl (yield_of rfl (congrArg Value.bool hc26971)) (Exec.field F26_0 rfl p26873 rfl ⟨rfl, ?_⟩)
                    refine DL_qg rfl rfl (yield_of rfl (congrArg Value.bool hc26971)) (Exec.load_box ((hS26964).f1) A3 rfl rfl rfl ⟨rfl, ?_⟩)
                    refine DL_qg rfl rfl (yield_of rfl (congrArg Value.bool hc26971)) (Exec.geq rfl rfl rfl ⟨rfl, ?_⟩)
                    refine DL_q rfl rfl (Exec.pick_f (v := Value.bool (decide (x25734.States ≤ x26889.To))) rfl (congrArg Value.bool hc26971) rfl ⟨rfl, ?_⟩)
                    refine DL_q rfl rfl (Exec.move (v := Value.bool (decide (x25734.States ≤ x26889.To))) rfl rfl ⟨rfl, ?_⟩)
                    rcases ite_some ht26942 with ⟨hc26974, ht26942⟩ | ⟨hc26974, ht26942⟩
                    · refine DL_qp rfl rfl (yield_of rfl (congrArg Value.bool hc26974)) rfl ?_
                      refine DL_qp rfl rfl (yield_of rfl (congrArg Value.bool hc26974)) rfl ?_
                      refine DL_qp rfl rfl (yield_of rfl (congrArg Value.bool hc26974)) rfl ?_
                      refine DL_q rfl rfl (Exec.pick_t (v := Value.bool (true)) rfl (congrArg Value.bool hc26974) rfl ⟨rfl, ?_⟩)
                      refine DL_q rfl rfl (Exec.move (v := Value.bool (true)) rfl rfl ⟨rfl, ?_⟩)
                      refine DL_qp rfl rfl (yield_of rfl rfl) rfl ?_
                      refine DL_qp rfl rfl (yield_of rfl rfl) rfl ?_
                      refine DL_qp rfl rfl (yield_of rfl rfl) rfl ?_
                      refine DL_qp rfl rfl (yield_of rfl rfl) rfl ?_
                      refine DL_qp rfl rfl (yield_of rfl rfl) rfl ?_
                      refine DL_qp rfl rfl (yield_of rfl rfl) rfl ?_
                      refine DL_q rfl rfl (Exec.pick_t (v := Value.bool (true)) rfl rfl rfl ⟨rfl, ?_⟩)
                      refine DL_q rfl rfl (Exec.move (v := Value.bool (true)) rfl rfl ⟨rfl, ?_⟩)
                      refine DL_qp rfl rfl (yield_of rfl rfl) rfl ?_
                      refine DL_qp rfl rfl (yield_of rfl rfl) rfl ?_
                      refine DL_qp rfl rfl (yield_of rfl rfl) rfl ?_
                      refine DL_qn rfl rfl (yield_undef rfl rfl) ?_
                      refine DL_qn rfl rfl (yield_undef rfl rfl) ?_
                      refine DL_qn rfl rfl (yield_undef rfl rfl) ?_
                      refine DL_qn rfl rfl (yield_undef rfl rfl) ?_
                      refine DL_qn rfl rfl (yield_undef rfl rfl) ?_
                      refine DL_qn rfl rfl (yield_undef rfl rfl) ?_
                      refine DL_qn rfl rfl (yield_undef rfl rfl) ?_
                      refine DL_en rfl rfl (yield_undef rfl rfl) ?_
                      refine DL_qn rfl rfl (yield_undef rfl rfl) ?_
                      refine DL_qp rfl rfl (yield_of rfl rfl) rfl ?_
                      refine DL_q rfl rfl (Exec.pick_t (v := Value.bool (true)) rfl rfl rfl ⟨rfl, ?_⟩)
                      refine DL_done ?_
                      refine WL_nil (at_normal ?_)
                      have e26975 := Option.some.inj ht26942
                      subst z26941
                      have hS26976 := (hS26964).drop
                      exact ⟨s26870, (PHeap.le_refl _), hS26976, p26873, p26874, p26875, x26876, rfl⟩
                    · replace hc26974 := not_true hc26974
                      refine DL_qg rfl rfl (yield_of rfl (congrArg Value.bool hc26974)) (Exec.field F66_1 rfl rfl rfl ⟨rfl, ?_⟩)
                      refine DL_qg rfl rfl (yield_of rfl (congrArg Value.bool hc26974)) (Exec.load_box (hS26964) A3 rfl rfl rfl ⟨rfl, ?_⟩)
                      refine DL_qg rfl rfl (yield_of rfl (congrArg Value.bool hc26974)) (Exec.lss rfl rfl rfl ⟨rfl, ?_⟩)
                      refine DL_q rfl rfl (Exec.pick_f (v := Value.bool (decide (x26889.Label < 0))) rfl (congrArg Value.bool hc26974) rfl ⟨rfl, ?_⟩)
                      refine DL_q rfl rfl (Exec.move (v := Value.bool (decide (x26889.Label < 0))) rfl rfl ⟨rfl, ?_⟩)
                      rcases ite_some ht26942 with ⟨hc26977, ht26942⟩ | ⟨hc26977, ht26942⟩
                      · refine DL_qp rfl rfl (yield_of rfl (congrArg Value.bool hc26977)) rfl ?_
                        refine DL_qp rfl rfl (yield_of rfl (congrArg Value.bool hc26977)) rfl ?_
                        refine DL_qp rfl rfl (yield_of rfl (congrArg Value.bool hc26977)) rfl ?_
                        refine DL_qp rfl rfl (yield_of rfl (congrArg Value.bool hc26977)) rfl ?_
                        refine DL_qp rfl rfl (yield_of rfl (congrArg Value.bool hc26977)) rfl ?_
                        refine DL_qp rfl rfl (yield_of rfl (congrArg Value.bool hc26977)) rfl ?_
                        refine DL_q rfl rfl (Exec.pick_t (v := Value.bool (true)) rfl (congrArg Value.bool hc26977) rfl ⟨rfl, ?_⟩)
                        refine DL_q rfl rfl (Exec.move (v := Value.bool (true)) rfl rfl ⟨rfl, ?_⟩)
                        refine DL_qp rfl rfl (yield_of rfl rfl) rfl ?_
                        refine DL_qp rfl rfl (yield_of rfl rfl) rfl ?_
                        refine DL_qp rfl rfl (yield_of rfl rfl) rfl ?_
                        refine DL_qn rfl rfl (yield_undef rfl rfl) ?_
                        refine DL_qn rfl rfl (yield_undef rfl rfl) ?_
                        refine DL_qn rfl rfl (yield_undef rfl rfl) ?_
                        refine DL_qn rfl rfl (yield_undef rfl rfl) ?_
                        refine DL_qn rfl rfl (yield_undef rfl rfl) ?_
                        refine DL_qn rfl rfl (yield_undef rfl rfl) ?_
                        refine DL_qn rfl rfl (yield_undef rfl rfl) ?_
                        refine DL_en rfl rfl (yield_undef rfl rfl) ?_
                        refine DL_qn rfl rfl (yield_undef rfl rfl) ?_
                        refine DL_qp rfl rfl (yield_of rfl rfl) rfl ?_
                        refine DL_q rfl rfl (Exec.pick_t (v := Value.bool (true)) rfl rfl rfl ⟨rfl, ?_⟩)
                        refine DL_done ?_
                        refine WL_nil (at_normal ?_)
                        have e26978 := Option.some.inj ht26942
                        subst z26941
                        have hS26979 := (hS26964).drop
                        exact ⟨s26870, (PHeap.le_refl _), hS26979, p26873, p26874, p26875, x26876, rfl⟩
                      · replace hc26977 := not_true hc26977
                        refine DL_qg rfl rfl (yield_of rfl (congrArg Value.bool hc26977)) (Exec.field F66_1 rfl rfl rfl ⟨rfl, ?_⟩)
                        refine DL_qg rfl rfl (yield_of rfl (congrArg Value.bool hc26977)) (Exec.load_box (hS26964) A3 rfl rfl rfl ⟨rfl, ?_⟩)
                        refine DL_qg rfl rfl (yield_of rfl (congrArg Value.bool hc26977)) (Exec.field F26_2 rfl p26873 rfl ⟨rfl, ?_⟩)
                        refine DL_qg rfl rfl (yield_of rfl (congrArg Value.bool hc26977)) (Exec.load_box ((hS26964).f1) A22 rfl rfl rfl ⟨rfl, ?_⟩)
                        refine DL_qg rfl rfl (yield_of rfl (congrArg Value.bool hc26977)) (Exec.len_rep S22 rfl rfl (a25736.mono (PHeap.le.trans (PHeap.le.trans l26432 l26576) l26871)) ⟨rfl, ?_⟩)
                        refine DL_qg rfl rfl (yield_of rfl (congrArg Value.bool hc26977)) (Exec.geq rfl rfl rfl ⟨rfl, ?_⟩)
                        refine DL_q rfl rfl (Exec.pick_f (v := Value.bool (decide ((x25734.Costs.length : Int) ≤ x26889.Label))) rfl (congrArg Value.bool hc26977) rfl ⟨rfl, ?_⟩)
                        refine DL_q rfl rfl (Exec.move (v := Value.bool (decide ((x25734.Costs.length : Int) ≤ x26889.Label))) rfl rfl ⟨rfl, ?_⟩)
                        rcases ite_some ht26942 with ⟨hc26980, ht26942⟩ | ⟨hc26980, ht26942⟩
                        · refine DL_qp rfl rfl (yield_of rfl (congrArg Value.bool hc26980)) rfl ?_
                          refine DL_qp rfl rfl (yield_of rfl (congrArg Value.bool hc26980)) rfl ?_
                          refine DL_qp rfl rfl (yield_of rfl (congrArg Value.bool hc26980)) rfl ?_
                          refine DL_qn rfl rfl (yield_undef rfl rfl) ?_
                          refine DL_qn rfl rfl (yield_undef rfl rfl) ?_
                          refine DL_qn rfl rfl (yield_undef rfl rfl) ?_
                          refine DL_qn rfl rfl (yield_undef rfl rfl) ?_
                          refine DL_qn rfl rfl (yield_undef rfl rfl) ?_
                          refine DL_qn rfl rfl (yield_undef rfl rfl) ?_
                          refine DL_qn rfl rfl (yield_undef rfl rfl) ?_
                          refine DL_en rfl rfl (yield_undef rfl rfl) ?_
                          refine DL_qn rfl rfl (yield_undef rfl rfl) ?_
                          refine DL_qp rfl rfl (yield_of rfl (congrArg Value.bool hc26980)) rfl ?_
                          refine DL_q rfl rfl (Exec.pick_t (v := Value.bool (true)) rfl (congrArg Value.bool hc26980) rfl ⟨rfl, ?_⟩)
                          refine DL_done ?_
                          refine WL_nil (at_normal ?_)
                          have e26981 := Option.some.inj ht26942
                          subst z26941
                          have hS26982 := (hS26964).drop
                          exact ⟨s26870, (PHeap.le_refl _), hS26982, p26873, p26874, p26875, x26876, rfl⟩
                        · replace hc26980 := not_true hc26980
                          refine DL_qg rfl rfl (yield_of rfl (congrArg Value.bool hc26980)) (Exec.move (v := Value.int .i64 ((i26581 : Int))) rfl rfl ⟨rfl, ?_⟩)
                          refine DL_qg rfl rfl (yield_of rfl (congrArg Value.bool hc26980)) (Exec.gtr rfl rfl rfl ⟨rfl, ?_⟩)
                          refine DL_qg rfl rfl (yield_of rfl (congrArg Value.bool hc26980)) (Exec.move (v := Value.bool (decide (0 < (i26581 : Int)))) rfl rfl ⟨rfl, ?_⟩)
                          rcases ite_some ht26942 with ⟨hc26983, ht26942⟩ | ⟨hc26983, ht26942⟩
                          · refine DL_qg rfl rfl (yield_of rfl (congrArg Value.bool hc26983)) (Exec.field F26_3 rfl p26873 rfl ⟨rfl, ?_⟩)
                            refine DL_qg rfl rfl (yield_of rfl (congrArg Value.bool hc26983)) (Exec.load_box ((hS26964).f1) A23 rfl rfl rfl ⟨rfl, ?_⟩)
                            refine DL_qg rfl rfl (yield_of rfl (congrArg Value.bool hc26983)) (Exec.move (v := Value.int .i64 ((i26581 : Int))) rfl rfl ⟨rfl, ?_⟩)
                            refine DL_qg rfl rfl (yield_of rfl (congrArg Value.bool hc26983)) (Exec.sub rfl rfl rfl ⟨rfl, ?_⟩)
                            obtain ⟨x26984, q26985, ht26942⟩ := bind_some ht26942
                            refine DL_qg rfl rfl (yield_of rfl (congrArg Value.bool hc26983)) (Exec.index_repE S23 rfl rfl rfl (a25738.mono (PHeap.le.trans (PHeap.le.trans l26432 l26576) l26871)) q26985 ?_)
                            intro b26986 o26987 a26988 e26989
                            refine ⟨rfl, ?_⟩
                            refine DL_qg rfl rfl (yield_of rfl (congrArg Value.bool hc26983)) (Exec.load_at (E := encEdge) hS26964 A66 rfl rfl rfl a26988 ?_)
                            intro v26990 q26991
                            obtain rfl := encEdge_val.1 q26991
                            refine ⟨rfl, ?_⟩
                            refine DL_qg rfl rfl (yield_of rfl (congrArg Value.bool hc26983)) (Exec.load_box_agg (ds := [Value.int .i64 (x26889.From), Value.int .i64 (x26889.Label), Value.int .i64 (x26889.To)]) (hS26964) A66 rfl rfl rfl ⟨rfl, ?_⟩)
                            refine DL_eg rfl rfl (yield_of rfl (congrArg Value.bool hc26983)) (Exec.call rfl rfl Try.func41 rfl N41 (args_cons rfl (args_cons rfl args_nil)) ((ref44_Before_sim (ref44_Before_tot x26984 x26889) hS26964 ).mono ?_))
                            rintro _ w26992 ⟨_, rfl, ⟨s26993, l26994, hS26995, rfl⟩⟩
                            refine ⟨_, rfl, ?_⟩
                            refine ⟨ag_nil, ?_⟩
                            refine DL_qg rfl rfl (yield_of rfl (congrArg Value.bool hc26983)) (Exec.not rfl rfl ⟨rfl, ?_⟩)
                            refine DL_qg rfl rfl (yield_of rfl (congrArg Value.bool hc26980)) (Exec.pick_t (v := Value.bool (!(ref44_Before_t x26984 x26889))) rfl (congrArg Value.bool hc26983) rfl ⟨rfl, ?_⟩)
                            refine DL_q rfl rfl (Exec.pick_f (v := Value.bool (!(ref44_Before_t x26984 x26889))) rfl (congrArg Value.bool hc26980) rfl ⟨rfl, ?_⟩)
                            refine DL_done ?_
                            refine WL_nil (at_normal ?_)
                            have e26996 := Option.some.inj ht26942
                            subst z26941
                            have hS26997 := (hS26995).drop
                            exact ⟨s26993, l26994, hS26997, p26873, p26874, p26875, x26876, rfl⟩
                          · replace hc26983 := not_true hc26983
                            refine DL_qp rfl rfl (yield_of rfl (congrArg Value.bool hc26983)) rfl ?_
                            refine DL_qp rfl rfl (yield_of rfl (congrArg Value.bool hc26983)) rfl ?_
                            refine DL_qp rfl rfl (yield_of rfl (congrArg Value.bool hc26983)) rfl ?_
                            refine DL_qp rfl rfl (yield_of rfl (congrArg Value.bool hc26983)) rfl ?_
                            refine DL_qp rfl rfl (yield_of rfl (congrArg Value.bool hc26983)) rfl ?_
                            refine DL_qp rfl rfl (yield_of rfl (congrArg Value.bool hc26983)) rfl ?_
                            refine DL_qp rfl rfl (yield_of rfl (congrArg Value.bool hc26983)) rfl ?_
                            refine DL_ep rfl rfl (yield_of rfl (congrArg Value.bool hc26983)) rfl ?_
                            refine DL_qp rfl rfl (yield_of rfl (congrArg Value.bool hc26983)) rfl ?_
                            refine DL_qg rfl rfl (yield_of rfl (congrArg Value.bool hc26980)) (Exec.pick_f (v := Value.bool (false)) rfl (congrArg Value.bool hc26983) rfl ⟨rfl, ?_⟩)
                            refine DL_q rfl rfl (Exec.pick_f (v := Value.bool (false)) rfl (congrArg Value.bool hc26980) rfl ⟨rfl, ?_⟩)
                            refine DL_done ?_
                            refine WL_nil (at_normal ?_)
                            have e26998 := Option.some.inj ht26942
                            subst z26941
                            have hS26999 := (hS26964).drop
                            exact ⟨s26870, (PHeap.le_refl _), hS26999, p26873, p26874, p26875, x26876, rfl⟩
            · intro f27000 w27001 hM27002
              obtain ⟨s27003, l27004, hS27005, p27006, p27007, p27008, p27009, p27010⟩ := hM27002
              refine (at_normal ?_)
              rcases ite_some hm26866 with ⟨hc27011, hm26866⟩ | ⟨hc27011, hm26866⟩
              · refine W_cond_t p27010 hc27011 ?_
                refine W_seq ?_
                refine W_region ?_
                refine WL_step rfl rfl (Exec.assign (v := Value.bool (false)) rfl rfl ?_)
                refine WL_nil (at_normal ?_)
                refine W_ret (ib_ret (at_ret (at_ret (ib_ret (at_ret (at_ret ?_))))))
                have e27012 := Option.some.inj hm26866
                subst c26862
                have hq27013 := hr26856 _ (hres26867 (by intro _ h; cases h))
                have e27014 := Option.some.inj hq27013
                subst r
                refine ⟨_, ret1 rfl, ?_⟩
                have hS27015 := (hS27005).drop
                exact ⟨s27003, (PHeap.le.trans (PHeap.le.trans (PHeap.le.trans l26432 l26576) l26871) l27004), hS27015, rfl⟩
              · refine W_cond_f p27010 hc27011 ?_
                replace hc27011 := not_true hc27011
                refine W_skip (ib_normal (at_normal ?_))
                refine W_region ?_
                refine WL_step rfl rfl (Exec.add rfl p27009 rfl ?_)
                refine WL_step rfl rfl (Exec.move (v := Value.int .i64 (IntKind.i64.wrap ((i26581 : Int) + 1))) rfl rfl ?_)
                refine WL_nil (at_normal ?_)
                have e27016 := Option.some.inj hm26866
                subst c26862
                refine ⟨_, rfl, ?_⟩; exact ⟨s27003, (PHeap.le.trans l26871 l27004), hS27005, p27006, p27007, p27008, (Eq.trans rfl (wrap_up hi26869 (SliceRep.le (a25738.mono (PHeap.le.trans l26432 l26576)))))⟩
          · intro t27017 f27018 w27019 hI27020 hres27021
            obtain ⟨s27022, l27023, hS27024, p27025, p27026, p27027, x27028⟩ := hI27020
            refine W_seq ?_
            refine W_region ?_
            refine WL_step rfl rfl (Exec.lss rfl x27028 p27027 ?_)
            refine WL_nil (at_normal ?_)
            refine W_seq ?_
            refine W_false (congrArg Value.bool (decide_eq_false (by omega))) ?_
            refine W_exit (at_exit (at_exit (ib_here (at_normal ?_))))
            refine ⟨_, .inl hres27021, ?_⟩; exact ⟨s27022, l27023, hS27024, p27025, p27026, p27027⟩
        · rintro f27029 w27030 ⟨t27031, hc27032, hM27033⟩
          have hm := hc27032.elim (hn26857 _) (hb26858 _)
          clear hc27032
          obtain ⟨s27034, l27035, hS27036, p27037, p27038, p27039⟩ := hM27033
          refine (at_normal ?_)
          refine W_seq ?_
          refine W_region ?_
          refine WL_step rfl rfl (Exec.assign (v := Value.bool (true)) rfl rfl ?_)
          refine WL_nil (at_normal ?_)
          refine W_ret ?_
          have e27041 := Option.some.inj hm
          subst r
          refine ⟨_, ret1 rfl, ?_⟩
          have hS27042 := (hS27036).drop
          exact ⟨s27034, (PHeap.le.trans (PHeap.le.trans l26432 l26576) l27035), hS27042, rfl⟩

theorem N11 : (Try.f11.name == "runtime.NumGoroutine") = false := by kernel_rfl

end Go.Pw
