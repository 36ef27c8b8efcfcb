/-
  The walks (printed by my generator).
-/
import Derived.Test.YtdhfofhginfdnaaLi0
import Derived.Test.YtdhfofhginfdnaaLiX
set_option maxRecDepth 100000
set_option maxHeartbeats 4000000
set_option linter.unusedVariables false
namespace Go.Pw
open Go.Proofs
theorem N12 : (Try.f12.name == "runtime.NumGoroutine") = false := by kernel_rfl

theorem transys_Product_sim {w0 w : World} {s : PHeap} {H : List Res} {a128 : System} {b135 : System} {v129 : Value} {v131 : Value} {v133 : Value} {v136 : Value} {v138 : Value} {v140 : Value} {r : (Option Int) × System} (hm : transys_Product_p a128 b135 = some r) (hS : St w0 s (H) w) (a130 : SliceRep (encInt .i64) s v129 a128.Costs) (a132 : SliceRep encEdge s v131 a128.Edges) (a134 : SliceRep encBool s v133 a128.Goals) (a137 : SliceRep (encInt .i64) s v136 b135.Costs) (a139 : SliceRep encEdge s v138 b135.Edges) (a141 : SliceRep encBool s v140 b135.Goals) :
    Calls Try.prog 12 #[Value.agg #[Value.int .i64 (a128.States), Value.int .i64 (a128.Init), v129, v131, v133], Value.agg #[Value.int .i64 (b135.States), Value.int .i64 (b135.Init), v136, v138, v140]] w fun e w' => ∃ v, e = .returned v ∧ ((un2 fun (y8655 : (Option Int)) (y8654 : System) => ∃ (s8674 : PHeap) (v8671 : Value) (v8672 : Value) (v8673 : Value), PHeap.le s s8674 ∧ St w0 s8674 (H) w' ∧ v = Value.tuple #[Value.agg #[Value.int .i64 (y8654.States), Value.int .i64 (y8654.Init), v8671, v8672, v8673], errV 39 (y8655)] ∧ SliceRep (encInt .i64) s8674 v8671 y8654.Costs ∧ SliceRep encEdge s8674 v8672 y8654.Edges ∧ SliceRep encBool s8674 v8673 y8654.Goals) r) := by
  unfold transys_Product_p at hm
  refine calls_of_W Try.func12 rfl rfl ?_
  refine W_seq ?_
  refine W_region ?_
  refine WL_step rfl rfl (Exec.box (cs := [Value.int .i64 (a128.States), Value.int .i64 (a128.Init), v129, v131, v133]) hS rfl rfl rfl ?_)
  intro b8684 w8685 hS8686
  refine WL_step rfl rfl (Exec.box (cs := [Value.int .i64 (b135.States), Value.int .i64 (b135.Init), v136, v138, v140]) hS8686 rfl rfl rfl ?_)
  intro b8687 w8688 hS8689
  refine WL_step rfl rfl (Exec.alloc (cs := [Value.int .i64 (0), Value.int .i64 (0), Value.slice none 0 0, Value.slice none 0 0, Value.slice none 0 0]) hS8689 Z26 rfl rfl ?_)
  intro b8690 w8691 hS8692
  refine WL_step rfl rfl (Exec.assign (v := errV 39 (none)) rfl rfl ?_)
  refine WL_nil (at_normal ?_)
  refine W_seq ?_
  refine W_seq ?_
  obtain ⟨z8716, ht8717, hm⟩ := bind_some hm
  refine W_mid (M := fun f' w' => (fun (z8716 : Bool) => ∃ (s8718 : PHeap) , PHeap.le s s8718 ∧ St w0 s8718 (Res.box b8684 26 [Value.int .i64 (a128.States), Value.int .i64 (a128.Init), v129, v131, v133] :: Res.box b8687 26 [Value.int .i64 (b135.States), Value.int .i64 (b135.Init), v136, v138, v140] :: Res.box b8690 26 [Value.int .i64 (0), Value.int .i64 (0), Value.slice none 0 0, Value.slice none 0 0, Value.slice none 0 0] :: H) w' ∧ f' 2 = Value.pointer (some ⟨b8684, 0, none⟩) ∧ f' 3 = Value.pointer (some ⟨b8687, 0, none⟩) ∧ f' 4 = Value.pointer (some ⟨b8690, 0, none⟩) ∧ f' 33 = Value.bool (z8716)) z8716) ?_ ?_
  · refine W_region ?_
    refine WL_step rfl rfl (Exec.load_box_agg (ds := [Value.int .i64 (a128.States), Value.int .i64 (a128.Init), v129, v131, v133]) ((hS8692).f2) A26 rfl rfl rfl ?_)
    obtain ⟨y8721, q8720, ht8717⟩ := bind_some ht8717
    refine WL_step rfl rfl (Exec.call rfl rfl Try.func25 rfl N25 (args_cons rfl args_nil) ((transys_Valid_sim q8720 hS8692 a130 a132 a134).mono ?_))
    rintro _ w8722 ⟨_, rfl, ⟨s8723, l8724, hS8725, rfl⟩⟩
    refine ⟨_, rfl, ?_⟩
    refine WL_step rfl rfl (Exec.not rfl rfl ?_)
    refine WL_step rfl rfl (Exec.move (v := Value.bool (!y8721)) rfl rfl ?_)
    rcases ite_some ht8717 with ⟨hc8726, ht8717⟩ | ⟨hc8726, ht8717⟩
    · refine WL_pass rfl (yield_of rfl (congrArg Value.bool hc8726)) rfl rfl ?_
      refine WL_pass rfl (yield_of rfl (congrArg Value.bool hc8726)) rfl rfl ?_
      refine WL_pass rfl (yield_of rfl (congrArg Value.bool hc8726)) rfl rfl ?_
      refine WL_step rfl rfl (Exec.pick_t (v := Value.bool (true)) rfl (congrArg Value.bool hc8726) rfl ?_)
      refine WL_step rfl rfl (Exec.move (v := Value.bool (true)) rfl rfl ?_)
      refine WL_pass rfl (yield_of rfl rfl) rfl rfl ?_
      refine WL_pass rfl (yield_of rfl rfl) rfl rfl ?_
      refine WL_pass rfl (yield_of rfl rfl) rfl rfl ?_
      refine WL_pass rfl (yield_of rfl rfl) rfl rfl ?_
      refine WL_pass rfl (yield_of rfl rfl) rfl rfl ?_
      refine WL_pass rfl (yield_of rfl rfl) rfl rfl ?_
      refine WL_step rfl rfl (Exec.pick_t (v := Value.bool (true)) rfl rfl rfl ?_)
      refine WL_nil (at_normal ?_)
      have e8727 := Option.some.inj ht8717
      subst z8716
      have hS8728 := (hS8725).f1
      have hS8729 := (hS8728).f2
      exact ⟨s8723, l8724, hS8729, rfl, rfl, rfl, rfl⟩
    · replace hc8726 := not_true hc8726
      refine WL_run rfl (yield_of rfl (congrArg Value.bool hc8726)) rfl (Exec.load_box_agg (ds := [Value.int .i64 (b135.States), Value.int .i64 (b135.Init), v136, v138, v140]) ((hS8725).f1) A26 rfl rfl rfl ?_)
      obtain ⟨y8732, q8731, ht8717⟩ := bind_some ht8717
      refine WL_run rfl (yield_of rfl (congrArg Value.bool hc8726)) rfl (Exec.call rfl rfl Try.func25 rfl N25 (args_cons rfl args_nil) ((transys_Valid_sim q8731 hS8725 (a137.mono l8724) (a139.mono l8724) (a141.mono l8724)).mono ?_))
      rintro _ w8733 ⟨_, rfl, ⟨s8734, l8735, hS8736, rfl⟩⟩
      refine ⟨_, rfl, ?_⟩
      refine WL_run rfl (yield_of rfl (congrArg Value.bool hc8726)) rfl (Exec.not rfl rfl ?_)
      refine WL_step rfl rfl (Exec.pick_f (v := Value.bool (!y8732)) rfl (congrArg Value.bool hc8726) rfl ?_)
      refine WL_step rfl rfl (Exec.move (v := Value.bool (!y8732)) rfl rfl ?_)
      rcases ite_some ht8717 with ⟨hc8737, ht8717⟩ | ⟨hc8737, ht8717⟩
      · refine WL_pass rfl (yield_of rfl (congrArg Value.bool hc8737)) rfl rfl ?_
        refine WL_pass rfl (yield_of rfl (congrArg Value.bool hc8737)) rfl rfl ?_
        refine WL_pass rfl (yield_of rfl (congrArg Value.bool hc8737)) rfl rfl ?_
        refine WL_pass rfl (yield_of rfl (congrArg Value.bool hc8737)) rfl rfl ?_
        refine WL_pass rfl (yield_of rfl (congrArg Value.bool hc8737)) rfl rfl ?_
        refine WL_pass rfl (yield_of rfl (congrArg Value.bool hc8737)) rfl rfl ?_
        refine WL_step rfl rfl (Exec.pick_t (v := Value.bool (true)) rfl (congrArg Value.bool hc8737) rfl ?_)
        refine WL_nil (at_normal ?_)
        have e8738 := Option.some.inj ht8717
        subst z8716
        have hS8739 := (hS8736).f1
        have hS8740 := (hS8739).f2
        exact ⟨s8734, (PHeap.le.trans l8724 l8735), hS8740, rfl, rfl, rfl, rfl⟩
      · replace hc8737 := not_true hc8737
        refine WL_run rfl (yield_of rfl (congrArg Value.bool hc8737)) rfl (Exec.field F26_2 rfl rfl rfl ?_)
        refine WL_run rfl (yield_of rfl (congrArg Value.bool hc8737)) rfl (Exec.load_box ((hS8736).f2) A22 rfl rfl rfl ?_)
        refine WL_run rfl (yield_of rfl (congrArg Value.bool hc8737)) rfl (Exec.field F26_2 rfl rfl rfl ?_)
        refine WL_run rfl (yield_of rfl (congrArg Value.bool hc8737)) rfl (Exec.load_box ((hS8736).f1) A22 rfl rfl rfl ?_)
        obtain ⟨y8743, q8742, ht8717⟩ := bind_some ht8717
        refine WL_run rfl (yield_of rfl (congrArg Value.bool hc8737)) rfl (Exec.call rfl rfl Try.func35 rfl N35 (args_cons rfl (args_cons rfl args_nil)) ((slices_Equal___int_int__sim q8742 hS8736 (a130.mono (PHeap.le.trans l8724 l8735)) (a137.mono (PHeap.le.trans l8724 l8735))).mono ?_))
        rintro _ w8744 ⟨_, rfl, ⟨s8745, l8746, hS8747, rfl⟩⟩
        refine ⟨_, rfl, ?_⟩
        refine WL_run rfl (yield_of rfl (congrArg Value.bool hc8737)) rfl (Exec.not rfl rfl ?_)
        refine WL_step rfl rfl (Exec.pick_f (v := Value.bool (!y8743)) rfl (congrArg Value.bool hc8737) rfl ?_)
        refine WL_nil (at_normal ?_)
        have e8748 := Option.some.inj ht8717
        subst z8716
        have hS8749 := (hS8747).f1
        have hS8750 := (hS8749).f2
        exact ⟨s8745, (PHeap.le.trans (PHeap.le.trans l8724 l8735) l8746), hS8750, rfl, rfl, rfl, rfl⟩
  · intro f8751 w8752 hM8753
    obtain ⟨s8754, l8755, hS8756, p8757, p8758, p8759, p8760⟩ := hM8753
    refine (at_normal ?_)
    rcases ite_some hm with ⟨hc8761, hm⟩ | ⟨hc8761, hm⟩
    · refine W_cond_t p8760 hc8761 ?_
      refine W_seq ?_
      refine W_region ?_
      refine WL_step rfl rfl (Exec.build rfl parts_nil (v := Value.agg #[Value.int .i64 (0), Value.int .i64 (0), Value.slice none 0 0, Value.slice none 0 0, Value.slice none 0 0]) (fun _ => by kernel_rfl) ?_)
      refine WL_step rfl rfl (Exec.makeInterface C39 rfl rfl ?_)
      have hS8765 := (hS8756).f2
      refine WL_step rfl rfl (Exec.store_box (ds := [Value.int .i64 (0), Value.int .i64 (0), Value.slice none 0 0, Value.slice none 0 0, Value.slice none 0 0]) (es := [Value.int .i64 (0), Value.int .i64 (0), Value.slice none 0 0, Value.slice none 0 0, Value.slice none 0 0]) hS8765 A26 rfl p8759 rfl rfl (one_cons rfl (one_cons rfl (one_cons rfl (one_cons rfl (one_cons rfl one_nil))))) (Nat.le_of_ble_eq_true rfl) rfl ?_)
      intro w8766 hS8767
      refine WL_step rfl rfl (Exec.assign (v := errV 39 (some 2)) rfl rfl ?_)
      refine WL_nil (at_normal ?_)
      refine W_ret (at_ret ?_)
      have e8769 := Option.some.inj hm
      subst r
      refine ⟨_, retG2 rfl ⟨_, _, p8759, cellRes (hS8767) A26⟩ rfl, ?_⟩
      have hS8770 := (hS8767).drop
      have hS8771 := (hS8770).drop
      have hS8772 := (hS8771).drop
      exact ⟨s8754, (Value.slice none 0 0), (Value.slice none 0 0), (Value.slice none 0 0), l8755, hS8772, (tup2 rfl rfl), (SliceRep.nil _ _), (SliceRep.nil _ _), (SliceRep.nil _ _)⟩
    · refine W_cond_f p8760 hc8761 ?_
      replace hc8761 := not_true hc8761
      refine W_skip (at_normal ?_)
      refine W_seq ?_
      refine W_seq ?_
      refine W_region ?_
      refine WL_step rfl rfl (Exec.field F26_0 rfl p8757 rfl ?_)
      refine WL_step rfl rfl (Exec.load_box (hS8756) A3 rfl rfl rfl ?_)
      refine WL_step rfl rfl (Exec.field F26_0 rfl p8758 rfl ?_)
      refine WL_step rfl rfl (Exec.load_box ((hS8756).f1) A3 rfl rfl rfl ?_)
      refine WL_step rfl rfl (Exec.mul rfl rfl rfl ?_)
      refine WL_step rfl rfl (Exec.gtr rfl rfl rfl ?_)
      refine WL_nil (at_normal ?_)
      rcases ite_some hm with ⟨hc8773, hm⟩ | ⟨hc8773, hm⟩
      · refine W_cond_t rfl hc8773 ?_
        refine W_seq ?_
        refine W_region ?_
        refine WL_step rfl rfl (Exec.build rfl parts_nil (v := Value.agg #[Value.int .i64 (0), Value.int .i64 (0), Value.slice none 0 0, Value.slice none 0 0, Value.slice none 0 0]) (fun _ => by kernel_rfl) ?_)
        refine WL_step rfl rfl (Exec.makeInterface C39 rfl rfl ?_)
        have hS8777 := (hS8756).f2
        refine WL_step rfl rfl (Exec.store_box (ds := [Value.int .i64 (0), Value.int .i64 (0), Value.slice none 0 0, Value.slice none 0 0, Value.slice none 0 0]) (es := [Value.int .i64 (0), Value.int .i64 (0), Value.slice none 0 0, Value.slice none 0 0, Value.slice none 0 0]) hS8777 A26 rfl p8759 rfl rfl (one_cons rfl (one_cons rfl (one_cons rfl (one_cons rfl (one_cons rfl one_nil))))) (Nat.le_of_ble_eq_true rfl) rfl ?_)
        intro w8778 hS8779
        refine WL_step rfl rfl (Exec.assign (v := errV 39 (some 5)) rfl rfl ?_)
        refine WL_nil (at_normal ?_)
        refine W_ret (at_ret ?_)
        have e8781 := Option.some.inj hm
        subst r
        refine ⟨_, retG2 rfl ⟨_, _, p8759, cellRes (hS8779) A26⟩ rfl, ?_⟩
        have hS8782 := (hS8779).drop
        have hS8783 := (hS8782).drop
        have hS8784 := (hS8783).drop
        exact ⟨s8754, (Value.slice none 0 0), (Value.slice none 0 0), (Value.slice none 0 0), l8755, hS8784, (tup2 rfl rfl), (SliceRep.nil _ _), (SliceRep.nil _ _), (SliceRep.nil _ _)⟩
      · refine W_cond_f rfl hc8773 ?_
        replace hc8773 := not_true hc8773
        refine W_skip (at_normal ?_)
        refine W_seq ?_
        obtain ⟨y8788, q8787, hm⟩ := bind_some hm
        refine W_mid (M := fun f' w' => ∃ (s8814 : PHeap) (b8811 : Nat) (v8813 : Value), PHeap.le s8754 s8814 ∧ St w0 s8814 (Res.box b8684 26 [Value.int .i64 (a128.States), Value.int .i64 (a128.Init), v129, v131, v133] :: Res.box b8687 26 [Value.int .i64 (b135.States), Value.int .i64 (b135.Init), v136, v138, v140] :: Res.box b8690 26 [Value.int .i64 (0), Value.int .i64 (0), Value.slice none 0 0, Value.slice none 0 0, Value.slice none 0 0] :: Res.box b8811 26 [Value.int .i64 (IntKind.i64.wrap (a128.States * b135.States)), Value.int .i64 (IntKind.i64.wrap ((IntKind.i64.wrap (a128.Init * b135.States)) + b135.Init)), v8813, Value.slice none 0 0, Value.slice none 0 0] :: Res.arr (encInt .i64) 3 v8813 y8788 :: H) w' ∧ f' 2 = Value.pointer (some ⟨b8684, 0, none⟩) ∧ f' 3 = Value.pointer (some ⟨b8687, 0, none⟩) ∧ f' 4 = Value.pointer (some ⟨b8690, 0, none⟩) ∧ f' 6 = Value.pointer (some ⟨b8811, 0, none⟩)) ?_ ?_
        · refine W_dl (n0 := 18) (.q 0 (.q 1 (.q 2 (.q 3 (.q 4 (.q 5 (.q 6 (.q 7 (.q 8 (.q 9 (.q 10 (.q 11 (.q 12 (.q 13 (.q 14 (.alt (.e 15 [0, 1, 2, 3, 4, 5, 6, 7, 8, 9, 10, 11, 12] (.q 16 (.e 17 [0, 1, 2, 3, 4, 5, 6, 7, 8, 9, 10, 11, 12, 16] .done))) (.e 17 [0, 1, 2, 3, 4, 5, 6, 7, 8, 9, 10, 11, 12, 13, 14] (.e 15 [0, 1, 2, 3, 4, 5, 6, 7, 8, 9, 10, 11, 12] (.q 16 .done))))))))))))))))))) hmix (by kernel_rfl) (by kernel_rfl) ?_
          have hS8815 := hS8756.drew
          refine DL_q rfl rfl (Exec.field F26_0 rfl p8757 rfl ⟨rfl, ?_⟩)
          refine DL_q rfl rfl (Exec.load_box (hS8815) A3 rfl rfl rfl ⟨rfl, ?_⟩)
          refine DL_q rfl rfl (Exec.field F26_0 rfl p8758 rfl ⟨rfl, ?_⟩)
          refine DL_q rfl rfl (Exec.load_box ((hS8815).f1) A3 rfl rfl rfl ⟨rfl, ?_⟩)
          refine DL_q rfl rfl (Exec.mul rfl rfl rfl ⟨rfl, ?_⟩)
          refine DL_q rfl rfl (Exec.field F26_1 rfl p8757 rfl ⟨rfl, ?_⟩)
          refine DL_q rfl rfl (Exec.load_box (hS8815) A3 rfl rfl rfl ⟨rfl, ?_⟩)
          refine DL_q rfl rfl (Exec.field F26_0 rfl p8758 rfl ⟨rfl, ?_⟩)
          refine DL_q rfl rfl (Exec.load_box ((hS8815).f1) A3 rfl rfl rfl ⟨rfl, ?_⟩)
          refine DL_q rfl rfl (Exec.mul rfl rfl rfl ⟨rfl, ?_⟩)
          refine DL_q rfl rfl (Exec.field F26_1 rfl p8758 rfl ⟨rfl, ?_⟩)
          refine DL_q rfl rfl (Exec.load_box ((hS8815).f1) A3 rfl rfl rfl ⟨rfl, ?_⟩)
          refine DL_q rfl rfl (Exec.add rfl rfl rfl ⟨rfl, ?_⟩)
          refine DL_q rfl rfl (Exec.field F26_2 rfl p8757 rfl ⟨rfl, ?_⟩)
          refine DL_q rfl rfl (Exec.load_box (hS8815) A22 rfl rfl rfl ⟨rfl, ?_⟩)
          refine DL_alt ?_ ?_
          · refine DL_e rfl rfl (Exec.call rfl rfl Try.func36 rfl N36 (args_cons rfl args_nil) ((slices_Clone___int_int__sim q8787 hS8815 (a130.mono l8755)).mono ?_))
            rintro _ w8816 ⟨v8820, rfl, ⟨s8817, _, l8818, hS8819, rfl⟩⟩
            refine ⟨_, rfl, ?_⟩
            refine ⟨(ag_cons (ag_r rfl rfl (Exec.field F26_0 rfl p8757 rfl ⟨rfl, rfl⟩)) (ag_cons (ag_r rfl rfl (Exec.load_box ((hS8819).f1) A3 rfl rfl rfl ⟨rfl, rfl⟩)) (ag_cons (ag_r rfl rfl (Exec.field F26_0 rfl p8758 rfl ⟨rfl, rfl⟩)) (ag_cons (ag_r rfl rfl (Exec.load_box ((hS8819).f2) A3 rfl rfl rfl ⟨rfl, rfl⟩)) (ag_cons (ag_r rfl rfl (Exec.mul rfl rfl rfl ⟨rfl, rfl⟩)) (ag_cons (ag_r rfl rfl (Exec.field F26_1 rfl p8757 rfl ⟨rfl, rfl⟩)) (ag_cons (ag_r rfl rfl (Exec.load_box ((hS8819).f1) A3 rfl rfl rfl ⟨rfl, rfl⟩)) (ag_cons (ag_r rfl rfl (Exec.field F26_0 rfl p8758 rfl ⟨rfl, rfl⟩)) (ag_cons (ag_r rfl rfl (Exec.load_box ((hS8819).f2) A3 rfl rfl rfl ⟨rfl, rfl⟩)) (ag_cons (ag_r rfl rfl (Exec.mul rfl rfl rfl ⟨rfl, rfl⟩)) (ag_cons (ag_r rfl rfl (Exec.field F26_1 rfl p8758 rfl ⟨rfl, rfl⟩)) (ag_cons (ag_r rfl rfl (Exec.load_box ((hS8819).f2) A3 rfl rfl rfl ⟨rfl, rfl⟩)) (ag_cons (ag_r rfl rfl (Exec.add rfl rfl rfl ⟨rfl, rfl⟩)) ag_nil))))))))))))), ?_⟩
            refine DL_q rfl rfl (Exec.build rfl (parts_cons (c := [Value.int .i64 (IntKind.i64.wrap (a128.States * b135.States))]) (cells_of rfl rfl) (parts_cons (c := [Value.int .i64 (IntKind.i64.wrap ((IntKind.i64.wrap (a128.Init * b135.States)) + b135.Init))]) (cells_of rfl rfl) (parts_cons (c := [v8820]) (cells_of rfl (cells_one (hS8819).arr_one)) parts_nil))) (v := Value.agg #[Value.int .i64 (IntKind.i64.wrap (a128.States * b135.States)), Value.int .i64 (IntKind.i64.wrap ((IntKind.i64.wrap (a128.Init * b135.States)) + b135.Init)), v8820, Value.slice none 0 0, Value.slice none 0 0]) (fun _ => by kernel_rfl) ⟨rfl, ?_⟩)
            refine DL_e rfl rfl (Exec.alloc (cs := [Value.int .i64 (0), Value.int .i64 (0), Value.slice none 0 0, Value.slice none 0 0, Value.slice none 0 0]) hS8819 Z26 rfl rfl ?_)
            intro b8821 w8822 hS8823
            refine ⟨(ag_cons (ag_r rfl rfl (Exec.field F26_0 rfl p8757 rfl ⟨rfl, rfl⟩)) (ag_cons (ag_r rfl rfl (Exec.load_box ((hS8823).f2) A3 rfl rfl rfl ⟨rfl, rfl⟩)) (ag_cons (ag_r rfl rfl (Exec.field F26_0 rfl p8758 rfl ⟨rfl, rfl⟩)) (ag_cons (ag_r rfl rfl (Exec.load_box ((hS8823).f3) A3 rfl rfl rfl ⟨rfl, rfl⟩)) (ag_cons (ag_r rfl rfl (Exec.mul rfl rfl rfl ⟨rfl, rfl⟩)) (ag_cons (ag_r rfl rfl (Exec.field F26_1 rfl p8757 rfl ⟨rfl, rfl⟩)) (ag_cons (ag_r rfl rfl (Exec.load_box ((hS8823).f2) A3 rfl rfl rfl ⟨rfl, rfl⟩)) (ag_cons (ag_r rfl rfl (Exec.field F26_0 rfl p8758 rfl ⟨rfl, rfl⟩)) (ag_cons (ag_r rfl rfl (Exec.load_box ((hS8823).f3) A3 rfl rfl rfl ⟨rfl, rfl⟩)) (ag_cons (ag_r rfl rfl (Exec.mul rfl rfl rfl ⟨rfl, rfl⟩)) (ag_cons (ag_r rfl rfl (Exec.field F26_1 rfl p8758 rfl ⟨rfl, rfl⟩)) (ag_cons (ag_r rfl rfl (Exec.load_box ((hS8823).f3) A3 rfl rfl rfl ⟨rfl, rfl⟩)) (ag_cons (ag_r rfl rfl (Exec.add rfl rfl rfl ⟨rfl, rfl⟩)) (ag_cons (ag_r rfl rfl (Exec.build rfl (parts_cons (c := [Value.int .i64 (IntKind.i64.wrap (a128.States * b135.States))]) (cells_of rfl rfl) (parts_cons (c := [Value.int .i64 (IntKind.i64.wrap ((IntKind.i64.wrap (a128.Init * b135.States)) + b135.Init))]) (cells_of rfl rfl) (parts_cons (c := [v8820]) (cells_of rfl (cells_one ((hS8823).f1).arr_one)) parts_nil))) (v := Value.agg #[Value.int .i64 (IntKind.i64.wrap (a128.States * b135.States)), Value.int .i64 (IntKind.i64.wrap ((IntKind.i64.wrap (a128.Init * b135.States)) + b135.Init)), v8820, Value.slice none 0 0, Value.slice none 0 0]) (fun _ => by kernel_rfl) ⟨rfl, rfl⟩)) ag_nil)))))))))))))), ?_⟩
            refine DL_done ?_
            refine WL_step rfl rfl (Exec.store_box (ds := [Value.int .i64 (IntKind.i64.wrap (a128.States * b135.States)), Value.int .i64 (IntKind.i64.wrap ((IntKind.i64.wrap (a128.Init * b135.States)) + b135.Init)), v8820, Value.slice none 0 0, Value.slice none 0 0]) (es := [Value.int .i64 (IntKind.i64.wrap (a128.States * b135.States)), Value.int .i64 (IntKind.i64.wrap ((IntKind.i64.wrap (a128.Init * b135.States)) + b135.Init)), v8820, Value.slice none 0 0, Value.slice none 0 0]) hS8823 A26 rfl rfl rfl rfl (one_cons rfl (one_cons rfl (one_cons ((hS8823).f1).arr_one (one_cons rfl (one_cons rfl one_nil))))) (Nat.le_of_ble_eq_true rfl) rfl ?_)
            intro w8824 hS8825
            refine WL_nil (at_normal ?_)
            have hS8826 := (hS8825).f1
            have hS8827 := (hS8826).f1
            have hS8828 := (hS8827).f4
            have hS8829 := (hS8828).f4
            have hS8830 := (hS8829).f4
            exact ⟨s8817, b8821, v8820, l8818, hS8830, p8757, p8758, p8759, rfl⟩
          refine DL_e rfl rfl (Exec.alloc (cs := [Value.int .i64 (0), Value.int .i64 (0), Value.slice none 0 0, Value.slice none 0 0, Value.slice none 0 0]) hS8815 Z26 rfl rfl ?_)
          intro b8831 w8832 hS8833
          refine ⟨(ag_cons (ag_r rfl rfl (Exec.field F26_0 rfl p8757 rfl ⟨rfl, rfl⟩)) (ag_cons (ag_r rfl rfl (Exec.load_box ((hS8833).f1) A3 rfl rfl rfl ⟨rfl, rfl⟩)) (ag_cons (ag_r rfl rfl (Exec.field F26_0 rfl p8758 rfl ⟨rfl, rfl⟩)) (ag_cons (ag_r rfl rfl (Exec.load_box ((hS8833).f2) A3 rfl rfl rfl ⟨rfl, rfl⟩)) (ag_cons (ag_r rfl rfl (Exec.mul rfl rfl rfl ⟨rfl, rfl⟩)) (ag_cons (ag_r rfl rfl (Exec.field F26_1 rfl p8757 rfl ⟨rfl, rfl⟩)) (ag_cons (ag_r rfl rfl (Exec.load_box ((hS8833).f1) A3 rfl rfl rfl ⟨rfl, rfl⟩)) (ag_cons (ag_r rfl rfl (Exec.field F26_0 rfl p8758 rfl ⟨rfl, rfl⟩)) (ag_cons (ag_r rfl rfl (Exec.load_box ((hS8833).f2) A3 rfl rfl rfl ⟨rfl, rfl⟩)) (ag_cons (ag_r rfl rfl (Exec.mul rfl rfl rfl ⟨rfl, rfl⟩)) (ag_cons (ag_r rfl rfl (Exec.field F26_1 rfl p8758 rfl ⟨rfl, rfl⟩)) (ag_cons (ag_r rfl rfl (Exec.load_box ((hS8833).f2) A3 rfl rfl rfl ⟨rfl, rfl⟩)) (ag_cons (ag_r rfl rfl (Exec.add rfl rfl rfl ⟨rfl, rfl⟩)) (ag_cons (ag_r rfl rfl (Exec.field F26_2 rfl p8757 rfl ⟨rfl, rfl⟩)) (ag_cons (ag_r rfl rfl (Exec.load_box ((hS8833).f1) A22 rfl rfl rfl ⟨rfl, rfl⟩)) ag_nil))))))))))))))), ?_⟩
          refine DL_e rfl rfl (Exec.call rfl rfl Try.func36 rfl N36 (args_cons rfl args_nil) ((slices_Clone___int_int__sim q8787 hS8833 (a130.mono l8755)).mono ?_))
          rintro _ w8834 ⟨v8838, rfl, ⟨s8835, _, l8836, hS8837, rfl⟩⟩
          refine ⟨_, rfl, ?_⟩
          refine ⟨(ag_cons (ag_r rfl rfl (Exec.field F26_0 rfl p8757 rfl ⟨rfl, rfl⟩)) (ag_cons (ag_r rfl rfl (Exec.load_box ((hS8837).f2) A3 rfl rfl rfl ⟨rfl, rfl⟩)) (ag_cons (ag_r rfl rfl (Exec.field F26_0 rfl p8758 rfl ⟨rfl, rfl⟩)) (ag_cons (ag_r rfl rfl (Exec.load_box ((hS8837).f3) A3 rfl rfl rfl ⟨rfl, rfl⟩)) (ag_cons (ag_r rfl rfl (Exec.mul rfl rfl rfl ⟨rfl, rfl⟩)) (ag_cons (ag_r rfl rfl (Exec.field F26_1 rfl p8757 rfl ⟨rfl, rfl⟩)) (ag_cons (ag_r rfl rfl (Exec.load_box ((hS8837).f2) A3 rfl rfl rfl ⟨rfl, rfl⟩)) (ag_cons (ag_r rfl rfl (Exec.field F26_0 rfl p8758 rfl ⟨rfl, rfl⟩)) (ag_cons (ag_r rfl rfl (Exec.load_box ((hS8837).f3) A3 rfl rfl rfl ⟨rfl, rfl⟩)) (ag_cons (ag_r rfl rfl (Exec.mul rfl rfl rfl ⟨rfl, rfl⟩)) (ag_cons (ag_r rfl rfl (Exec.field F26_1 rfl p8758 rfl ⟨rfl, rfl⟩)) (ag_cons (ag_r rfl rfl (Exec.load_box ((hS8837).f3) A3 rfl rfl rfl ⟨rfl, rfl⟩)) (ag_cons (ag_r rfl rfl (Exec.add rfl rfl rfl ⟨rfl, rfl⟩)) ag_nil))))))))))))), ?_⟩
          refine DL_q rfl rfl (Exec.build rfl (parts_cons (c := [Value.int .i64 (IntKind.i64.wrap (a128.States * b135.States))]) (cells_of rfl rfl) (parts_cons (c := [Value.int .i64 (IntKind.i64.wrap ((IntKind.i64.wrap (a128.Init * b135.States)) + b135.Init))]) (cells_of rfl rfl) (parts_cons (c := [v8838]) (cells_of rfl (cells_one (hS8837).arr_one)) parts_nil))) (v := Value.agg #[Value.int .i64 (IntKind.i64.wrap (a128.States * b135.States)), Value.int .i64 (IntKind.i64.wrap ((IntKind.i64.wrap (a128.Init * b135.States)) + b135.Init)), v8838, Value.slice none 0 0, Value.slice none 0 0]) (fun _ => by kernel_rfl) ⟨rfl, ?_⟩)
          refine DL_done ?_
          have hS8839 := (hS8837).f1
          refine WL_step rfl rfl (Exec.store_box (ds := [Value.int .i64 (IntKind.i64.wrap (a128.States * b135.States)), Value.int .i64 (IntKind.i64.wrap ((IntKind.i64.wrap (a128.Init * b135.States)) + b135.Init)), v8838, Value.slice none 0 0, Value.slice none 0 0]) (es := [Value.int .i64 (IntKind.i64.wrap (a128.States * b135.States)), Value.int .i64 (IntKind.i64.wrap ((IntKind.i64.wrap (a128.Init * b135.States)) + b135.Init)), v8838, Value.slice none 0 0, Value.slice none 0 0]) hS8839 A26 rfl rfl rfl rfl (one_cons rfl (one_cons rfl (one_cons ((hS8839).f1).arr_one (one_cons rfl (one_cons rfl one_nil))))) (Nat.le_of_ble_eq_true rfl) rfl ?_)
          intro w8840 hS8841
          refine WL_nil (at_normal ?_)
          have hS8842 := (hS8841).f1
          have hS8843 := (hS8842).f1
          have hS8844 := (hS8843).f4
          have hS8845 := (hS8844).f4
          have hS8846 := (hS8845).f4
          exact ⟨s8835, b8831, v8838, l8836, hS8846, p8757, p8758, p8759, rfl⟩
        · intro f8847 w8848 hM8849
          obtain ⟨s8850, b8811, v8813, l8851, hS8852, p8853, p8854, p8855, p8856⟩ := hM8849
          refine (at_normal ?_)
          refine W_seq ?_
          refine W_seq ?_
          refine W_region ?_
          refine WL_step rfl rfl (Exec.field F26_0 rfl p8853 rfl ?_)
          refine WL_step rfl rfl (Exec.load_box (hS8852) A3 rfl rfl rfl ?_)
          refine WL_step rfl rfl (Exec.move (v := Value.int .i64 (0)) rfl rfl ?_)
          refine WL_nil (at_normal ?_)
          obtain ⟨u8857, q8858, hm⟩ := bind_some hm
          obtain ⟨z9538, hB10204, hm⟩ := bind_some hm
          refine W_block (W_forS (fun k' s' f' w' => (fun (z9538 : (List Bool)) => ∃ (s10205 : PHeap) (v9539 : Value), PHeap.le s8850 s10205 ∧ St w0 s10205 (Res.box b8684 26 [Value.int .i64 (a128.States), Value.int .i64 (a128.Init), v129, v131, v133] :: Res.box b8687 26 [Value.int .i64 (b135.States), Value.int .i64 (b135.Init), v136, v138, v140] :: Res.box b8690 26 [Value.int .i64 (0), Value.int .i64 (0), Value.slice none 0 0, Value.slice none 0 0, Value.slice none 0 0] :: Res.box b8811 26 [Value.int .i64 (IntKind.i64.wrap (a128.States * b135.States)), Value.int .i64 (IntKind.i64.wrap ((IntKind.i64.wrap (a128.Init * b135.States)) + b135.Init)), v8813, Value.slice none 0 0, v9539] :: Res.arr (encInt .i64) 3 v8813 y8788 :: Res.arr encBool 4 v9539 z9538 :: H) w' ∧ f' 2 = Value.pointer (some ⟨b8684, 0, none⟩) ∧ f' 3 = Value.pointer (some ⟨b8687, 0, none⟩) ∧ f' 4 = Value.pointer (some ⟨b8690, 0, none⟩) ∧ f' 6 = Value.pointer (some ⟨b8811, 0, none⟩) ∧ f' 62 = Value.int .i64 (a128.States) ∧ f' 63 = Value.int .i64 (k' : Int)) s') hB10204 ?_ ?_ ?_)
          · have hS10206 := hS8852.nilArr encBool 4
            have hS10207 := (hS10206).f5
            have hS10208 := (hS10207).f5
            have hS10209 := (hS10208).f5
            have hS10210 := (hS10209).f5
            have hS10211 := (hS10210).f5
            exact ⟨s8850, (Value.slice none 0 0), (PHeap.le_refl _), hS10211, p8853, p8854, p8855, p8856, rfl, rfl⟩
          · intro i8859 z9538 s10213 f10214 w10215 hi10216 hI10217 hm10218
            obtain ⟨s10219, v9539, l10220, hS10221, p10222, p10223, p10224, p10225, p10226, x10227⟩ := hI10217
            refine W_seq ?_
            refine W_region ?_
            refine WL_step rfl rfl (Exec.lss rfl x10227 p10226 ?_)
            refine WL_nil (at_normal ?_)
            refine W_seq ?_
            refine W_true (congrArg Value.bool (decide_eq_true (by omega))) ?_
            refine W_skip (at_normal ?_)
            refine W_seq ?_
            refine W_block ?_
            refine W_seq ?_
            refine W_region ?_
            refine WL_step rfl rfl (Exec.move (v := Value.int .i64 ((i8859 : Int))) rfl x10227 ?_)
            refine WL_step rfl rfl (Exec.assign (v := Value.int .i64 ((i8859 : Int))) rfl rfl ?_)
            refine WL_nil (at_normal ?_)
            refine W_seq ?_
            refine W_region ?_
            refine WL_step rfl rfl (Exec.field F26_0 rfl p10223 rfl ?_)
            refine WL_step rfl rfl (Exec.load_box ((hS10221).f1) A3 rfl rfl rfl ?_)
            refine WL_step rfl rfl (Exec.move (v := Value.int .i64 (0)) rfl rfl ?_)
            refine WL_nil (at_normal ?_)
            obtain ⟨u10228, q10229, hm10218⟩ := bind_some hm10218
            obtain ⟨l10433, hB10639, hm10218⟩ := bind_some hm10218
            refine W_block (W_forS (fun k' s' f' w' => (fun (l10433 : (List Bool)) => ∃ (s10640 : PHeap) (v10434 : Value), PHeap.le s10219 s10640 ∧ St w0 s10640 (Res.box b8684 26 [Value.int .i64 (a128.States), Value.int .i64 (a128.Init), v129, v131, v133] :: Res.box b8687 26 [Value.int .i64 (b135.States), Value.int .i64 (b135.Init), v136, v138, v140] :: Res.box b8690 26 [Value.int .i64 (0), Value.int .i64 (0), Value.slice none 0 0, Value.slice none 0 0, Value.slice none 0 0] :: Res.box b8811 26 [Value.int .i64 (IntKind.i64.wrap (a128.States * b135.States)), Value.int .i64 (IntKind.i64.wrap ((IntKind.i64.wrap (a128.Init * b135.States)) + b135.Init)), v8813, Value.slice none 0 0, v10434] :: Res.arr (encInt .i64) 3 v8813 y8788 :: Res.arr encBool 4 v10434 l10433 :: H) w' ∧ f' 2 = Value.pointer (some ⟨b8684, 0, none⟩) ∧ f' 3 = Value.pointer (some ⟨b8687, 0, none⟩) ∧ f' 4 = Value.pointer (some ⟨b8690, 0, none⟩) ∧ f' 6 = Value.pointer (some ⟨b8811, 0, none⟩) ∧ f' 7 = Value.int .i64 ((i8859 : Int)) ∧ f' 62 = Value.int .i64 (a128.States) ∧ f' 63 = Value.int .i64 ((i8859 : Int)) ∧ f' 67 = Value.int .i64 (b135.States) ∧ f' 68 = Value.int .i64 (k' : Int)) s') hB10639 ?_ ?_ ?_)
            · have hS10641 := (hS10221).f5
              have hS10642 := (hS10641).f5
              have hS10643 := (hS10642).f5
              have hS10644 := (hS10643).f5
              have hS10645 := (hS10644).f5
              have hS10646 := (hS10645).f5
              exact ⟨s10219, v9539, (PHeap.le_refl _), hS10646, p10222, p10223, p10224, p10225, rfl, p10226, x10227, rfl, rfl⟩
            · intro i10230 l10433 s10648 f10649 w10650 hi10651 hI10652 hm10653
              obtain ⟨s10654, v10434, l10655, hS10656, p10657, p10658, p10659, p10660, p10661, p10662, p10663, p10664, x10665⟩ := hI10652
              refine W_seq ?_
              refine W_region ?_
              refine WL_step rfl rfl (Exec.lss rfl x10665 p10664 ?_)
              refine WL_nil (at_normal ?_)
              refine W_seq ?_
              refine W_true (congrArg Value.bool (decide_eq_true (by omega))) ?_
              refine W_skip (at_normal ?_)
              refine W_seq ?_
              refine W_block ?_
              refine W_seq ?_
              refine W_region ?_
              refine WL_step rfl rfl (Exec.move (v := Value.int .i64 ((i10230 : Int))) rfl x10665 ?_)
              refine WL_step rfl rfl (Exec.assign (v := Value.int .i64 ((i10230 : Int))) rfl rfl ?_)
              refine WL_nil (at_normal ?_)
              obtain ⟨l10750, ht10752, hm10653⟩ := bind_some hm10653
              refine W_mid (M := fun f' w' => (fun (l10750 : (List Bool)) => ∃ (s10753 : PHeap) (v10751 : Value), PHeap.le s10654 s10753 ∧ St w0 s10753 (Res.box b8684 26 [Value.int .i64 (a128.States), Value.int .i64 (a128.Init), v129, v131, v133] :: Res.box b8687 26 [Value.int .i64 (b135.States), Value.int .i64 (b135.Init), v136, v138, v140] :: Res.box b8690 26 [Value.int .i64 (0), Value.int .i64 (0), Value.slice none 0 0, Value.slice none 0 0, Value.slice none 0 0] :: Res.box b8811 26 [Value.int .i64 (IntKind.i64.wrap (a128.States * b135.States)), Value.int .i64 (IntKind.i64.wrap ((IntKind.i64.wrap (a128.Init * b135.States)) + b135.Init)), v8813, Value.slice none 0 0, v10751] :: Res.arr (encInt .i64) 3 v8813 y8788 :: Res.arr encBool 4 v10751 l10750 :: H) w' ∧ f' 2 = Value.pointer (some ⟨b8684, 0, none⟩) ∧ f' 3 = Value.pointer (some ⟨b8687, 0, none⟩) ∧ f' 4 = Value.pointer (some ⟨b8690, 0, none⟩) ∧ f' 6 = Value.pointer (some ⟨b8811, 0, none⟩) ∧ f' 7 = Value.int .i64 ((i8859 : Int)) ∧ f' 62 = Value.int .i64 (a128.States) ∧ f' 63 = Value.int .i64 ((i8859 : Int)) ∧ f' 67 = Value.int .i64 (b135.States) ∧ f' 68 = Value.int .i64 ((i10230 : Int))) l10750) ?_ ?_
              · refine W_dl (n0 := 16) (.q 0 (.q 1 (.q 2 (.q 3 (.q 4 (.q 5 (.q 6 (.q 7 (.q 8 (.q 9 (.q 10 (.q 11 (.q 12 (.q 13 (.e 14 [0, 1] (.e 15 [] .done)))))))))))))))) hmix (by kernel_rfl) (by kernel_rfl) ?_
                have hS10796 := hS10656.drew
                refine DL_q rfl rfl (Exec.field F26_4 rfl p10660 rfl ⟨rfl, ?_⟩)
                refine DL_q rfl rfl (Exec.load_box ((hS10796).f3) A24 rfl rfl rfl ⟨rfl, ?_⟩)
                refine DL_q rfl rfl (Exec.field F26_4 rfl p10657 rfl ⟨rfl, ?_⟩)
                refine DL_q rfl rfl (Exec.load_box (hS10796) A24 rfl rfl rfl ⟨rfl, ?_⟩)
                refine DL_q rfl rfl (Exec.move (v := Value.int .i64 ((i8859 : Int))) rfl p10661 ⟨rfl, ?_⟩)
                obtain ⟨x10797, q10798, ht10752⟩ := bind_some ht10752
                refine DL_q rfl rfl (Exec.index_repE S24 rfl rfl rfl (a134.mono (PHeap.le.trans (PHeap.le.trans (PHeap.le.trans l8755 l8851) l10220) l10655)) q10798 ?_)
                intro b10799 o10800 a10801 e10802
                refine ⟨rfl, ?_⟩
                refine DL_q rfl rfl (Exec.load_at (E := encBool) hS10796 A4 rfl rfl rfl a10801 ?_)
                intro v10803 q10804
                obtain rfl := encBool_val.1 q10804
                refine ⟨rfl, ?_⟩
                refine DL_q rfl rfl (Exec.move (v := Value.bool (x10797)) rfl rfl ⟨rfl, ?_⟩)
                rcases ite_some ht10752 with ⟨hc10805, ht10752⟩ | ⟨hc10805, ht10752⟩
                · refine DL_qg rfl rfl (yield_of rfl (congrArg Value.bool hc10805)) (Exec.field F26_4 rfl p10658 rfl ⟨rfl, ?_⟩)
                  refine DL_qg rfl rfl (yield_of rfl (congrArg Value.bool hc10805)) (Exec.load_box ((hS10796).f1) A24 rfl rfl rfl ⟨rfl, ?_⟩)
                  refine DL_qg rfl rfl (yield_of rfl (congrArg Value.bool hc10805)) (Exec.move (v := Value.int .i64 ((i10230 : Int))) rfl rfl ⟨rfl, ?_⟩)
                  obtain ⟨x10806, q10807, ht10752⟩ := bind_some ht10752
                  refine DL_qg rfl rfl (yield_of rfl (congrArg Value.bool hc10805)) (Exec.index_repE S24 rfl rfl rfl (a141.mono (PHeap.le.trans (PHeap.le.trans (PHeap.le.trans l8755 l8851) l10220) l10655)) q10807 ?_)
                  intro b10808 o10809 a10810 e10811
                  refine ⟨rfl, ?_⟩
                  refine DL_qg rfl rfl (yield_of rfl (congrArg Value.bool hc10805)) (Exec.load_at (E := encBool) hS10796 A4 rfl rfl rfl a10810 ?_)
                  intro v10812 q10813
                  obtain rfl := encBool_val.1 q10813
                  refine ⟨rfl, ?_⟩
                  refine DL_q rfl rfl (Exec.pick_t (v := Value.bool (x10806)) rfl (congrArg Value.bool hc10805) rfl ⟨rfl, ?_⟩)
                  refine DL_e rfl rfl (Exec.buildSlice (Te := 4) (cs := [Value.bool (x10806)]) hS10796 rfl (parts_cons (c := [Value.bool (x10806)]) (cells_of rfl rfl) parts_nil) (fun _ => by kernel_rfl) ?_)
                  intro b10814 w10815 hS10816
                  refine ⟨(ag_cons (ag_r rfl rfl (Exec.field F26_4 rfl p10660 rfl ⟨rfl, rfl⟩)) (ag_cons (ag_r rfl rfl (Exec.load_box ((hS10816).f4) A24 rfl rfl rfl ⟨rfl, rfl⟩)) ag_nil)), ?_⟩
                  obtain ⟨l10817, q10818, ht10752⟩ := bind_some ht10752
                  have hS10819 := (hS10816).f6
                  refine DL_e rfl rfl (Exec.append_box (E := encBool) (ys := [x10806]) hS10819 S24 Z4 rfl (by decide) rfl rfl rfl rfl ⟨[Value.bool (x10806)], [], rfl, rfl, rfl⟩ rfl q10818 ?_)
                  intro v10820 w10821 hS10822
                  refine ⟨ag_nil, ?_⟩
                  refine DL_done ?_
                  refine WL_step rfl rfl (Exec.field F26_4 rfl p10660 rfl ?_)
                  have hS10823 := (hS10822).f4
                  refine WL_step rfl rfl (Exec.store_box (ds := [v10820]) (es := [Value.int .i64 (IntKind.i64.wrap (a128.States * b135.States)), Value.int .i64 (IntKind.i64.wrap ((IntKind.i64.wrap (a128.Init * b135.States)) + b135.Init)), v8813, Value.slice none 0 0, v10820]) hS10823 A24 rfl rfl rfl (cells_one ((hS10823).f1).arr_one) (one_cons ((hS10823).f1).arr_one one_nil) (Nat.le_of_ble_eq_true rfl) rfl ?_)
                  intro w10824 hS10825
                  refine WL_nil (at_normal ?_)
                  have e10826 := Option.some.inj ht10752
                  subst l10750
                  have hS10827 := (hS10825).f1
                  have hS10828 := (hS10827).f5
                  have hS10829 := (hS10828).f2
                  have hS10830 := (hS10829).f5
                  have hS10831 := (hS10830).f5
                  have hS10832 := (hS10831).f5
                  exact ⟨s10654, v10820, (PHeap.le_refl _), hS10832, p10657, p10658, p10659, p10660, p10661, p10662, p10663, p10664, x10665⟩
                · replace hc10805 := not_true hc10805
                  refine DL_qp rfl rfl (yield_of rfl (congrArg Value.bool hc10805)) rfl ?_
                  refine DL_qp rfl rfl (yield_of rfl (congrArg Value.bool hc10805)) rfl ?_
                  refine DL_qp rfl rfl (yield_of rfl (congrArg Value.bool hc10805)) rfl ?_
                  refine DL_qp rfl rfl (yield_of rfl (congrArg Value.bool hc10805)) rfl ?_
                  refine DL_qp rfl rfl (yield_of rfl (congrArg Value.bool hc10805)) rfl ?_
                  refine DL_q rfl rfl (Exec.pick_f (v := Value.bool (false)) rfl (congrArg Value.bool hc10805) rfl ⟨rfl, ?_⟩)
                  refine DL_e rfl rfl (Exec.buildSlice (Te := 4) (cs := [Value.bool (false)]) hS10796 rfl (parts_cons (c := [Value.bool (false)]) (cells_of rfl rfl) parts_nil) (fun _ => by kernel_rfl) ?_)
                  intro b10833 w10834 hS10835
                  refine ⟨(ag_cons (ag_r rfl rfl (Exec.field F26_4 rfl p10660 rfl ⟨rfl, rfl⟩)) (ag_cons (ag_r rfl rfl (Exec.load_box ((hS10835).f4) A24 rfl rfl rfl ⟨rfl, rfl⟩)) ag_nil)), ?_⟩
                  obtain ⟨l10836, q10837, ht10752⟩ := bind_some ht10752
                  have hS10838 := (hS10835).f6
                  refine DL_e rfl rfl (Exec.append_box (E := encBool) (ys := [false]) hS10838 S24 Z4 rfl (by decide) rfl rfl rfl rfl ⟨[Value.bool (false)], [], rfl, rfl, rfl⟩ rfl q10837 ?_)
                  intro v10839 w10840 hS10841
                  refine ⟨ag_nil, ?_⟩
                  refine DL_done ?_
                  refine WL_step rfl rfl (Exec.field F26_4 rfl p10660 rfl ?_)
                  have hS10842 := (hS10841).f4
                  refine WL_step rfl rfl (Exec.store_box (ds := [v10839]) (es := [Value.int .i64 (IntKind.i64.wrap (a128.States * b135.States)), Value.int .i64 (IntKind.i64.wrap ((IntKind.i64.wrap (a128.Init * b135.States)) + b135.Init)), v8813, Value.slice none 0 0, v10839]) hS10842 A24 rfl rfl rfl (cells_one ((hS10842).f1).arr_one) (one_cons ((hS10842).f1).arr_one one_nil) (Nat.le_of_ble_eq_true rfl) rfl ?_)
                  intro w10843 hS10844
                  refine WL_nil (at_normal ?_)
                  have e10845 := Option.some.inj ht10752
                  subst l10750
                  have hS10846 := (hS10844).f1
                  have hS10847 := (hS10846).f5
                  have hS10848 := (hS10847).f2
                  have hS10849 := (hS10848).f5
                  have hS10850 := (hS10849).f5
                  have hS10851 := (hS10850).f5
                  exact ⟨s10654, v10839, (PHeap.le_refl _), hS10851, p10657, p10658, p10659, p10660, p10661, p10662, p10663, p10664, x10665⟩
              · intro f10852 w10853 hM10854
                obtain ⟨s10855, v10751, l10856, hS10857, p10858, p10859, p10860, p10861, p10862, p10863, p10864, p10865, p10866⟩ := hM10854
                refine (ib_normal (at_normal ?_))
                refine W_region ?_
                refine WL_step rfl rfl (Exec.add rfl p10866 rfl ?_)
                refine WL_step rfl rfl (Exec.move (v := Value.int .i64 (IntKind.i64.wrap ((i10230 : Int) + 1))) rfl rfl ?_)
                refine WL_nil (at_normal ?_)
                have e10867 := Option.some.inj hm10653
                subst s10648
                have hS10868 := (hS10857).f5
                have hS10869 := (hS10868).f5
                have hS10870 := (hS10869).f5
                have hS10871 := (hS10870).f5
                have hS10872 := (hS10871).f5
                have hS10873 := (hS10872).f5
                exact ⟨s10855, v10751, (PHeap.le.trans l10655 l10856), hS10873, p10858, p10859, p10860, p10861, p10862, p10863, p10864, p10865, (Eq.trans rfl (wrap_up hi10651 (by have h := must_some q10229; simp at h; simp only [maxLen]; omega)))⟩
            · intro f10874 w10875 hI10876
              obtain ⟨s10877, v10434, l10878, hS10879, p10880, p10881, p10882, p10883, p10884, p10885, p10886, p10887, x10888⟩ := hI10876
              refine W_seq ?_
              refine W_region ?_
              refine WL_step rfl rfl (Exec.lss rfl x10888 p10887 ?_)
              refine WL_nil (at_normal ?_)
              refine W_seq ?_
              refine W_false (congrArg Value.bool (decide_eq_false (by omega))) ?_
              refine W_exit (at_exit (at_exit (ib_here (ib_normal (at_normal ?_)))))
              refine W_region ?_
              refine WL_step rfl rfl (Exec.add rfl p10886 rfl ?_)
              refine WL_step rfl rfl (Exec.move (v := Value.int .i64 (IntKind.i64.wrap ((i8859 : Int) + 1))) rfl rfl ?_)
              refine WL_nil (at_normal ?_)
              have e10889 := Option.some.inj hm10218
              subst s10213
              have hS10890 := (hS10879).f5
              have hS10891 := (hS10890).f5
              have hS10892 := (hS10891).f5
              have hS10893 := (hS10892).f5
              have hS10894 := (hS10893).f5
              have hS10895 := (hS10894).f5
              exact ⟨s10877, v10434, (PHeap.le.trans l10220 l10878), hS10895, p10880, p10881, p10882, p10883, p10885, (Eq.trans rfl (wrap_up hi10216 (by have h := must_some q8858; simp at h; simp only [maxLen]; omega)))⟩
          · intro f10896 w10897 hI10898
            obtain ⟨s10899, v9539, l10900, hS10901, p10902, p10903, p10904, p10905, p10906, x10907⟩ := hI10898
            refine W_seq ?_
            refine W_region ?_
            refine WL_step rfl rfl (Exec.lss rfl x10907 p10906 ?_)
            refine WL_nil (at_normal ?_)
            refine W_seq ?_
            refine W_false (congrArg Value.bool (decide_eq_false (by omega))) ?_
            refine W_exit (at_exit (at_exit (ib_here (at_normal ?_))))
            refine W_seq ?_
            refine W_dl (n0 := 5) (.q 0 (.q 2 (.e 1 [2] (.e 3 [] (.q 4 .done))))) hmix (by kernel_rfl) (by kernel_rfl) ?_
            have hS10965 := hS10901.drew
            refine DL_q rfl rfl (Exec.load_box_agg (ds := [Value.int .i64 (a128.States), Value.int .i64 (a128.Init), v129, v131, v133]) (hS10965) A26 rfl p10902 rfl ⟨rfl, ?_⟩)
            refine DL_q rfl rfl (Exec.load_box_agg (ds := [Value.int .i64 (b135.States), Value.int .i64 (b135.Init), v136, v138, v140]) ((hS10965).f1) A26 rfl p10903 rfl ⟨rfl, ?_⟩)
            obtain ⟨y10968, q10967, hm⟩ := bind_some hm
            refine DL_e rfl rfl (Exec.call rfl rfl Try.func37 rfl N37 (args_cons rfl args_nil) ((transys_labelled_sim q10967 hS10965 (a130.mono (PHeap.le.trans (PHeap.le.trans l8755 l8851) l10900)) (a132.mono (PHeap.le.trans (PHeap.le.trans l8755 l8851) l10900)) (a134.mono (PHeap.le.trans (PHeap.le.trans l8755 l8851) l10900))).mono ?_))
            rintro _ w10969 ⟨v10973, rfl, ⟨s10970, _, l10971, hS10972, rfl, r10974⟩⟩
            refine ⟨_, rfl, ?_⟩
            refine ⟨(ag_cons (ag_r rfl rfl (Exec.load_box_agg (ds := [Value.int .i64 (b135.States), Value.int .i64 (b135.Init), v136, v138, v140]) ((hS10972).f1) A26 rfl p10903 rfl ⟨rfl, rfl⟩)) ag_nil), ?_⟩
            obtain ⟨y10977, q10976, hm⟩ := bind_some hm
            refine DL_e rfl rfl (Exec.call rfl rfl Try.func37 rfl N37 (args_cons rfl args_nil) ((transys_labelled_sim q10976 hS10972 (a137.mono (PHeap.le.trans (PHeap.le.trans (PHeap.le.trans l8755 l8851) l10900) l10971)) (a139.mono (PHeap.le.trans (PHeap.le.trans (PHeap.le.trans l8755 l8851) l10900) l10971)) (a141.mono (PHeap.le.trans (PHeap.le.trans (PHeap.le.trans l8755 l8851) l10900) l10971))).mono ?_))
            rintro _ w10978 ⟨v10982, rfl, ⟨s10979, _, l10980, hS10981, rfl, r10983⟩⟩
            refine ⟨_, rfl, ?_⟩
            refine ⟨ag_nil, ?_⟩
            refine DL_q rfl rfl (Exec.assign (v := v10973) rfl rfl ⟨rfl, ?_⟩)
            refine DL_done ?_
            refine WL_step rfl rfl (Exec.assign (v := v10982) rfl rfl ?_)
            refine WL_nil (at_normal ?_)
            refine W_seq ?_
            refine W_region ?_
            refine WL_step rfl rfl (Exec.assign (v := Value.int .i64 (0)) rfl rfl ?_)
            refine WL_nil (at_normal ?_)
            refine W_seq ?_
            refine W_seq ?_
            refine W_region ?_
            refine WL_step rfl rfl (Exec.move (v := v10973) rfl rfl ?_)
            refine WL_step rfl rfl (Exec.len_rep S63 rfl rfl (r10974.mono l10980) ?_)
            refine WL_step rfl rfl (Exec.move (v := Value.int .i64 (0)) rfl rfl ?_)
            refine WL_nil (at_normal ?_)
            obtain ⟨many11062, hB11141, hm⟩ := bind_some hm
            refine W_block (W_forS (fun k' s' f' w' => (fun (many11062 : Int) => ∃ (s11142 : PHeap) , PHeap.le s10979 s11142 ∧ St w0 s11142 (Res.box b8687 26 [Value.int .i64 (b135.States), Value.int .i64 (b135.Init), v136, v138, v140] :: Res.box b8690 26 [Value.int .i64 (0), Value.int .i64 (0), Value.slice none 0 0, Value.slice none 0 0, Value.slice none 0 0] :: Res.box b8811 26 [Value.int .i64 (IntKind.i64.wrap (a128.States * b135.States)), Value.int .i64 (IntKind.i64.wrap ((IntKind.i64.wrap (a128.Init * b135.States)) + b135.Init)), v8813, Value.slice none 0 0, v9539] :: Res.arr (encInt .i64) 3 v8813 y8788 :: Res.arr encBool 4 v9539 z9538 :: H) w' ∧ f' 3 = Value.pointer (some ⟨b8687, 0, none⟩) ∧ f' 4 = Value.pointer (some ⟨b8690, 0, none⟩) ∧ f' 6 = Value.pointer (some ⟨b8811, 0, none⟩) ∧ f' 9 = v10973 ∧ f' 10 = v10982 ∧ f' 11 = Value.int .i64 (many11062) ∧ f' 95 = Value.int .i64 ((y10968.length : Int)) ∧ f' 96 = Value.int .i64 (k' : Int)) s') hB11141 ?_ ?_ ?_)
            · have hS11143 := (hS10981).drop
              have hS11144 := (hS11143).f4
              have hS11145 := (hS11144).f4
              have hS11146 := (hS11145).f4
              have hS11147 := (hS11146).f4
              have hS11148 := (hS11147).f4
              exact ⟨s10979, (PHeap.le_refl _), hS11148, p10903, p10904, p10905, rfl, rfl, rfl, rfl, rfl⟩
            · intro i10984 many11062 s11150 f11151 w11152 hi11153 hI11154 hm11155
              obtain ⟨s11156, l11157, hS11158, p11159, p11160, p11161, p11162, p11163, p11164, p11165, x11166⟩ := hI11154
              refine W_seq ?_
              refine W_region ?_
              refine WL_step rfl rfl (Exec.lss rfl x11166 p11165 ?_)
              refine WL_nil (at_normal ?_)
              refine W_seq ?_
              refine W_true (congrArg Value.bool (decide_eq_true (by omega))) ?_
              refine W_skip (at_normal ?_)
              refine W_seq ?_
              refine W_block ?_
              refine W_seq ?_
              refine W_region ?_
              refine WL_step rfl rfl (Exec.move (v := Value.int .i64 ((i10984 : Int))) rfl x11166 ?_)
              refine WL_step rfl rfl (Exec.assign (v := Value.int .i64 ((i10984 : Int))) rfl rfl ?_)
              refine WL_nil (at_normal ?_)
              refine W_dl (n0 := 13) (.q 0 (.q 1 (.q 2 (.q 3 (.q 4 (.q 5 (.q 6 (.q 7 (.q 8 (.q 9 (.q 10 (.q 11 (.q 12 .done))))))))))))) hmix (by kernel_rfl) (by kernel_rfl) ?_
              have hS11224 := hS11158.drew
              refine DL_q rfl rfl (Exec.move (v := Value.int .i64 (many11062)) rfl p11164 ⟨rfl, ?_⟩)
              refine DL_q rfl rfl (Exec.move (v := v10973) rfl p11162 ⟨rfl, ?_⟩)
              refine DL_q rfl rfl (Exec.move (v := Value.int .i64 ((i10984 : Int))) rfl rfl ⟨rfl, ?_⟩)
              obtain ⟨x11225, q11226, hm11155⟩ := bind_some hm11155
              refine DL_q rfl rfl (Exec.index_repE S63 rfl rfl rfl (r10974.mono (PHeap.le.trans l10980 l11157)) q11226 ?_)
              intro b11227 o11228 a11229 e11230
              refine ⟨rfl, ?_⟩
              refine DL_q rfl rfl (Exec.load_at (E := (encSlice encEdge)) hS11224 A23 rfl rfl rfl a11229 ?_)
              intro v11231 q11232
              have r11233 := encSlice_val.1 q11232
              refine ⟨rfl, ?_⟩
              refine DL_q rfl rfl (Exec.len_rep S23 rfl rfl r11233 ⟨rfl, ?_⟩)
              refine DL_q rfl rfl (Exec.move (v := v10982) rfl p11163 ⟨rfl, ?_⟩)
              refine DL_q rfl rfl (Exec.move (v := Value.int .i64 ((i10984 : Int))) rfl rfl ⟨rfl, ?_⟩)
              obtain ⟨x11234, q11235, hm11155⟩ := bind_some hm11155
              refine DL_q rfl rfl (Exec.index_repE S63 rfl rfl rfl (r10983.mono l11157) q11235 ?_)
              intro b11236 o11237 a11238 e11239
              refine ⟨rfl, ?_⟩
              refine DL_q rfl rfl (Exec.load_at (E := (encSlice encEdge)) hS11224 A23 rfl rfl rfl a11238 ?_)
              intro v11240 q11241
              have r11242 := encSlice_val.1 q11241
              refine ⟨rfl, ?_⟩
              refine DL_q rfl rfl (Exec.len_rep S23 rfl rfl r11242 ⟨rfl, ?_⟩)
              refine DL_q rfl rfl (Exec.mul rfl rfl rfl ⟨rfl, ?_⟩)
              refine DL_q rfl rfl (Exec.add rfl rfl rfl ⟨rfl, ?_⟩)
              refine DL_done ?_
              refine WL_step rfl rfl (Exec.assign (v := Value.int .i64 (IntKind.i64.wrap (many11062 + (IntKind.i64.wrap ((x11225.length : Int) * (x11234.length : Int)))))) rfl rfl ?_)
              refine WL_nil (ib_normal (at_normal ?_))
              refine W_region ?_
              refine WL_step rfl rfl (Exec.add rfl x11166 rfl ?_)
              refine WL_step rfl rfl (Exec.move (v := Value.int .i64 (IntKind.i64.wrap ((i10984 : Int) + 1))) rfl rfl ?_)
              refine WL_nil (at_normal ?_)
              have e11243 := Option.some.inj hm11155
              subst s11150
              have hS11244 := (hS11224).f4
              have hS11245 := (hS11244).f4
              have hS11246 := (hS11245).f4
              have hS11247 := (hS11246).f4
              have hS11248 := (hS11247).f4
              exact ⟨s11156, l11157, hS11248, p11159, p11160, p11161, p11162, p11163, rfl, p11165, (Eq.trans rfl (wrap_up hi11153 (SliceRep.le (r10974.mono l10980))))⟩
            · intro f11249 w11250 hI11251
              obtain ⟨s11252, l11253, hS11254, p11255, p11256, p11257, p11258, p11259, p11260, p11261, x11262⟩ := hI11251
              refine W_seq ?_
              refine W_region ?_
              refine WL_step rfl rfl (Exec.lss rfl x11262 p11261 ?_)
              refine WL_nil (at_normal ?_)
              refine W_seq ?_
              refine W_false (congrArg Value.bool (decide_eq_false (by omega))) ?_
              refine W_exit (at_exit (at_exit (ib_here (at_normal ?_))))
              refine W_seq ?_
              refine W_seq ?_
              refine W_region ?_
              refine WL_step rfl rfl (Exec.move (v := Value.int .i64 (many11062)) rfl p11260 ?_)
              refine WL_step rfl rfl (Exec.gtr rfl rfl rfl ?_)
              refine WL_nil (at_normal ?_)
              rcases ite_some hm with ⟨hc11263, hm⟩ | ⟨hc11263, hm⟩
              · refine W_cond_t rfl hc11263 ?_
                refine W_seq ?_
                refine W_region ?_
                refine WL_step rfl rfl (Exec.build rfl parts_nil (v := Value.agg #[Value.int .i64 (0), Value.int .i64 (0), Value.slice none 0 0, Value.slice none 0 0, Value.slice none 0 0]) (fun _ => by kernel_rfl) ?_)
                refine WL_step rfl rfl (Exec.makeInterface C39 rfl rfl ?_)
                have hS11267 := (hS11254).f1
                refine WL_step rfl rfl (Exec.store_box (ds := [Value.int .i64 (0), Value.int .i64 (0), Value.slice none 0 0, Value.slice none 0 0, Value.slice none 0 0]) (es := [Value.int .i64 (0), Value.int .i64 (0), Value.slice none 0 0, Value.slice none 0 0, Value.slice none 0 0]) hS11267 A26 rfl p11256 rfl rfl (one_cons rfl (one_cons rfl (one_cons rfl (one_cons rfl (one_cons rfl one_nil))))) (Nat.le_of_ble_eq_true rfl) rfl ?_)
                intro w11268 hS11269
                refine WL_step rfl rfl (Exec.assign (v := errV 39 (some 5)) rfl rfl ?_)
                refine WL_nil (at_normal ?_)
                refine W_ret (at_ret ?_)
                have e11271 := Option.some.inj hm
                subst r
                refine ⟨_, retG2 rfl ⟨_, _, p11256, cellRes (hS11269) A26⟩ rfl, ?_⟩
                have hS11272 := (hS11269).drop
                have hS11273 := (hS11272).drop
                have hS11274 := (hS11273).drop
                have hS11275 := (hS11274).drop
                have hS11276 := (hS11275).drop
                exact ⟨s11252, (Value.slice none 0 0), (Value.slice none 0 0), (Value.slice none 0 0), (PHeap.le.trans (PHeap.le.trans (PHeap.le.trans (PHeap.le.trans (PHeap.le.trans l8755 l8851) l10900) l10971) l10980) l11253), hS11276, (tup2 rfl rfl), (SliceRep.nil _ _), (SliceRep.nil _ _), (SliceRep.nil _ _)⟩
              · refine W_cond_f rfl hc11263 ?_
                replace hc11263 := not_true hc11263
                refine W_skip (at_normal ?_)
                refine W_seq ?_
                refine W_seq ?_
                refine W_region ?_
                refine WL_step rfl rfl (Exec.move (v := v10973) rfl p11258 ?_)
                refine WL_step rfl rfl (Exec.len_rep S63 rfl rfl (r10974.mono (PHeap.le.trans l10980 l11253)) ?_)
                refine WL_step rfl rfl (Exec.move (v := Value.int .i64 (0)) rfl rfl ?_)
                refine WL_nil (at_normal ?_)
                obtain ⟨z12127, hB12974, hm⟩ := bind_some hm
                refine W_block (W_forS (fun k' s' f' w' => (fun (z12127 : (List Edge)) => ∃ (s12975 : PHeap) (v12128 : Value), PHeap.le s11252 s12975 ∧ St w0 s12975 (Res.box b8687 26 [Value.int .i64 (b135.States), Value.int .i64 (b135.Init), v136, v138, v140] :: Res.box b8690 26 [Value.int .i64 (0), Value.int .i64 (0), Value.slice none 0 0, Value.slice none 0 0, Value.slice none 0 0] :: Res.box b8811 26 [Value.int .i64 (IntKind.i64.wrap (a128.States * b135.States)), Value.int .i64 (IntKind.i64.wrap ((IntKind.i64.wrap (a128.Init * b135.States)) + b135.Init)), v8813, v12128, v9539] :: Res.arr (encInt .i64) 3 v8813 y8788 :: Res.arr encEdge 66 v12128 z12127 :: Res.arr encBool 4 v9539 z9538 :: H) w' ∧ f' 3 = Value.pointer (some ⟨b8687, 0, none⟩) ∧ f' 4 = Value.pointer (some ⟨b8690, 0, none⟩) ∧ f' 6 = Value.pointer (some ⟨b8811, 0, none⟩) ∧ f' 9 = v10973 ∧ f' 10 = v10982 ∧ f' 118 = Value.int .i64 ((y10968.length : Int)) ∧ f' 119 = Value.int .i64 (k' : Int)) s') hB12974 ?_ ?_ ?_)
                · have hS12976 := hS11254.nilArr encEdge 66
                  have hS12977 := (hS12976).f5
                  have hS12978 := (hS12977).f1
                  have hS12979 := (hS12978).f5
                  have hS12980 := (hS12979).f5
                  have hS12981 := (hS12980).f5
                  have hS12982 := (hS12981).f5
                  exact ⟨s11252, (Value.slice none 0 0), (PHeap.le_refl _), hS12982, p11255, p11256, p11257, p11258, p11259, rfl, rfl⟩
                · intro i11277 z12127 s12984 f12985 w12986 hi12987 hI12988 hm12989
                  obtain ⟨s12990, v12128, l12991, hS12992, p12993, p12994, p12995, p12996, p12997, p12998, x12999⟩ := hI12988
                  refine W_seq ?_
                  refine W_region ?_
                  refine WL_step rfl rfl (Exec.lss rfl x12999 p12998 ?_)
                  refine WL_nil (at_normal ?_)
                  refine W_seq ?_
                  refine W_true (congrArg Value.bool (decide_eq_true (by omega))) ?_
                  refine W_skip (at_normal ?_)
                  refine W_seq ?_
                  refine W_block ?_
                  refine W_seq ?_
                  refine W_region ?_
                  refine WL_step rfl rfl (Exec.move (v := Value.int .i64 ((i11277 : Int))) rfl x12999 ?_)
                  refine WL_step rfl rfl (Exec.assign (v := Value.int .i64 ((i11277 : Int))) rfl rfl ?_)
                  refine WL_nil (at_normal ?_)
                  refine W_seq ?_
                  refine W_region ?_
                  refine WL_step rfl rfl (Exec.move (v := v10973) rfl p12996 ?_)
                  refine WL_step rfl rfl (Exec.move (v := Value.int .i64 ((i11277 : Int))) rfl rfl ?_)
                  obtain ⟨x13008, q13009, hm12989⟩ := bind_some hm12989
                  refine WL_step rfl rfl (Exec.index_rep S63 rfl rfl rfl (r10974.mono (PHeap.le.trans (PHeap.le.trans l10980 l11253) l12991)) q13009 ?_)
                  intro b13010 o13011 a13012
                  refine WL_step rfl rfl (Exec.load_at (E := (encSlice encEdge)) hS12992 A23 rfl rfl rfl a13012 ?_)
                  intro v13013 q13014
                  have r13015 := encSlice_val.1 q13014
                  refine WL_step rfl rfl (Exec.len_rep S23 rfl rfl r13015 ?_)
                  refine WL_step rfl rfl (Exec.move (v := Value.int .i64 (0)) rfl rfl ?_)
                  refine WL_nil (at_normal ?_)
                  obtain ⟨l13273, hB13533, hm12989⟩ := bind_some hm12989
                  refine W_block (W_forS (fun k' s' f' w' => (fun (l13273 : (List Edge)) => ∃ (s13534 : PHeap) (v13274 : Value), PHeap.le s12990 s13534 ∧ St w0 s13534 (Res.box b8687 26 [Value.int .i64 (b135.States), Value.int .i64 (b135.Init), v136, v138, v140] :: Res.box b8690 26 [Value.int .i64 (0), Value.int .i64 (0), Value.slice none 0 0, Value.slice none 0 0, Value.slice none 0 0] :: Res.box b8811 26 [Value.int .i64 (IntKind.i64.wrap (a128.States * b135.States)), Value.int .i64 (IntKind.i64.wrap ((IntKind.i64.wrap (a128.Init * b135.States)) + b135.Init)), v8813, v13274, v9539] :: Res.arr (encInt .i64) 3 v8813 y8788 :: Res.arr encEdge 66 v13274 l13273 :: Res.arr encBool 4 v9539 z9538 :: H) w' ∧ f' 3 = Value.pointer (some ⟨b8687, 0, none⟩) ∧ f' 4 = Value.pointer (some ⟨b8690, 0, none⟩) ∧ f' 6 = Value.pointer (some ⟨b8811, 0, none⟩) ∧ f' 9 = v10973 ∧ f' 10 = v10982 ∧ f' 13 = Value.int .i64 ((i11277 : Int)) ∧ f' 118 = Value.int .i64 ((y10968.length : Int)) ∧ f' 119 = Value.int .i64 ((i11277 : Int)) ∧ f' 125 = v13013 ∧ f' 126 = Value.int .i64 ((x13008.length : Int)) ∧ f' 127 = Value.int .i64 (k' : Int)) s') hB13533 ?_ ?_ ?_)
                  · have hS13535 := (hS12992).f5
                    have hS13536 := (hS13535).f5
                    have hS13537 := (hS13536).f5
                    have hS13538 := (hS13537).f5
                    have hS13539 := (hS13538).f5
                    have hS13540 := (hS13539).f5
                    exact ⟨s12990, v12128, (PHeap.le_refl _), hS13540, p12993, p12994, p12995, p12996, p12997, rfl, p12998, x12999, rfl, rfl, rfl⟩
                  · intro i13016 l13273 s13542 f13543 w13544 hi13545 hI13546 hm13547
                    obtain ⟨s13548, v13274, l13549, hS13550, p13551, p13552, p13553, p13554, p13555, p13556, p13557, p13558, p13559, p13560, x13561⟩ := hI13546
                    refine W_seq ?_
                    refine W_region ?_
                    refine WL_step rfl rfl (Exec.lss rfl x13561 p13560 ?_)
                    refine WL_nil (at_normal ?_)
                    refine W_seq ?_
                    refine W_true (congrArg Value.bool (decide_eq_true (by omega))) ?_
                    refine W_skip (at_normal ?_)
                    refine W_seq ?_
                    refine W_block ?_
                    refine W_seq ?_
                    refine W_region ?_
                    obtain ⟨x13574, q13575, hm13547⟩ := bind_some hm13547
                    refine WL_step rfl rfl (Exec.index_rep S23 rfl p13559 x13561 (r13015.mono l13549) q13575 ?_)
                    intro b13576 o13577 a13578
                    refine WL_step rfl rfl (Exec.load_at (E := encEdge) hS13550 A66 rfl rfl rfl a13578 ?_)
                    intro v13579 q13580
                    obtain rfl := encEdge_val.1 q13580
                    refine WL_step rfl rfl (Exec.alloc (cs := [Value.int .i64 (0), Value.int .i64 (0), Value.int .i64 (0)]) hS13550 Z66 rfl rfl ?_)
                    intro b13581 w13582 hS13583
                    refine WL_step rfl rfl (Exec.store_box (ds := [Value.int .i64 (x13574.From), Value.int .i64 (x13574.Label), Value.int .i64 (x13574.To)]) (es := [Value.int .i64 (x13574.From), Value.int .i64 (x13574.Label), Value.int .i64 (x13574.To)]) hS13583 A66 rfl rfl rfl rfl (one_cons rfl (one_cons rfl (one_cons rfl one_nil))) (Nat.le_of_ble_eq_true rfl) rfl ?_)
                    intro w13584 hS13585
                    refine WL_nil (at_normal ?_)
                    refine W_seq ?_
                    refine W_region ?_
                    refine WL_step rfl rfl (Exec.move (v := v10982) rfl p13555 ?_)
                    refine WL_step rfl rfl (Exec.move (v := Value.int .i64 ((i11277 : Int))) rfl p13556 ?_)
                    obtain ⟨x13594, q13595, hm13547⟩ := bind_some hm13547
                    refine WL_step rfl rfl (Exec.index_rep S63 rfl rfl rfl (r10983.mono (PHeap.le.trans (PHeap.le.trans l11253 l12991) l13549)) q13595 ?_)
                    intro b13596 o13597 a13598
                    refine WL_step rfl rfl (Exec.load_at (E := (encSlice encEdge)) hS13585 A23 rfl rfl rfl a13598 ?_)
                    intro v13599 q13600
                    have r13601 := encSlice_val.1 q13600
                    refine WL_step rfl rfl (Exec.len_rep S23 rfl rfl r13601 ?_)
                    refine WL_step rfl rfl (Exec.move (v := Value.int .i64 (0)) rfl rfl ?_)
                    refine WL_nil (at_normal ?_)
                    obtain ⟨l13652, hB13705, hm13547⟩ := bind_some hm13547
                    refine W_block (W_forS (fun k' s' f' w' => (fun (l13652 : (List Edge)) => ∃ (s13706 : PHeap) (v13653 : Value), PHeap.le s13548 s13706 ∧ St w0 s13706 (Res.box b8687 26 [Value.int .i64 (b135.States), Value.int .i64 (b135.Init), v136, v138, v140] :: Res.box b8690 26 [Value.int .i64 (0), Value.int .i64 (0), Value.slice none 0 0, Value.slice none 0 0, Value.slice none 0 0] :: Res.box b8811 26 [Value.int .i64 (IntKind.i64.wrap (a128.States * b135.States)), Value.int .i64 (IntKind.i64.wrap ((IntKind.i64.wrap (a128.Init * b135.States)) + b135.Init)), v8813, v13653, v9539] :: Res.box b13581 66 [Value.int .i64 (x13574.From), Value.int .i64 (x13574.Label), Value.int .i64 (x13574.To)] :: Res.arr (encInt .i64) 3 v8813 y8788 :: Res.arr encEdge 66 v13653 l13652 :: Res.arr encBool 4 v9539 z9538 :: H) w' ∧ f' 3 = Value.pointer (some ⟨b8687, 0, none⟩) ∧ f' 4 = Value.pointer (some ⟨b8690, 0, none⟩) ∧ f' 6 = Value.pointer (some ⟨b8811, 0, none⟩) ∧ f' 9 = v10973 ∧ f' 10 = v10982 ∧ f' 13 = Value.int .i64 ((i11277 : Int)) ∧ f' 15 = Value.pointer (some ⟨b13581, 0, none⟩) ∧ f' 118 = Value.int .i64 ((y10968.length : Int)) ∧ f' 119 = Value.int .i64 ((i11277 : Int)) ∧ f' 125 = v13013 ∧ f' 126 = Value.int .i64 ((x13008.length : Int)) ∧ f' 127 = Value.int .i64 ((i13016 : Int)) ∧ f' 134 = v13599 ∧ f' 135 = Value.int .i64 ((x13594.length : Int)) ∧ f' 136 = Value.int .i64 (k' : Int)) s') hB13705 ?_ ?_ ?_)
                    · have hS13707 := (hS13585).f6
                      have hS13708 := (hS13707).f6
                      have hS13709 := (hS13708).f6
                      have hS13710 := (hS13709).f3
                      have hS13711 := (hS13710).f6
                      have hS13712 := (hS13711).f6
                      have hS13713 := (hS13712).f6
                      exact ⟨s13548, v13274, (PHeap.le_refl _), hS13713, p13551, p13552, p13553, p13554, p13555, p13556, rfl, p13557, p13558, p13559, p13560, x13561, rfl, rfl, rfl⟩
                    · intro i13602 l13652 s13715 f13716 w13717 hi13718 hI13719 hm13720
                      obtain ⟨s13721, v13653, l13722, hS13723, p13724, p13725, p13726, p13727, p13728, p13729, p13730, p13731, p13732, p13733, p13734, p13735, p13736, p13737, x13738⟩ := hI13719
                      refine W_seq ?_
                      refine W_region ?_
                      refine WL_step rfl rfl (Exec.lss rfl x13738 p13737 ?_)
                      refine WL_nil (at_normal ?_)
                      refine W_seq ?_
                      refine W_true (congrArg Value.bool (decide_eq_true (by omega))) ?_
                      refine W_skip (at_normal ?_)
                      refine W_seq ?_
                      refine W_block ?_
                      refine W_seq ?_
                      refine W_region ?_
                      obtain ⟨x13751, q13752, hm13720⟩ := bind_some hm13720
                      refine WL_step rfl rfl (Exec.index_rep S23 rfl p13736 x13738 (r13601.mono l13722) q13752 ?_)
                      intro b13753 o13754 a13755
                      refine WL_step rfl rfl (Exec.load_at (E := encEdge) hS13723 A66 rfl rfl rfl a13755 ?_)
                      intro v13756 q13757
                      obtain rfl := encEdge_val.1 q13757
                      refine WL_step rfl rfl (Exec.alloc (cs := [Value.int .i64 (0), Value.int .i64 (0), Value.int .i64 (0)]) hS13723 Z66 rfl rfl ?_)
                      intro b13758 w13759 hS13760
                      refine WL_step rfl rfl (Exec.store_box (ds := [Value.int .i64 (x13751.From), Value.int .i64 (x13751.Label), Value.int .i64 (x13751.To)]) (es := [Value.int .i64 (x13751.From), Value.int .i64 (x13751.Label), Value.int .i64 (x13751.To)]) hS13760 A66 rfl rfl rfl rfl (one_cons rfl (one_cons rfl (one_cons rfl one_nil))) (Nat.le_of_ble_eq_true rfl) rfl ?_)
                      intro w13761 hS13762
                      refine WL_nil (at_normal ?_)
                      refine W_region ?_
                      refine WL_step rfl rfl (Exec.field F26_3 rfl p13726 rfl ?_)
                      refine WL_step rfl rfl (Exec.load_box ((hS13762).f3) A23 rfl rfl rfl ?_)
                      refine WL_step rfl rfl (Exec.field F66_0 rfl p13730 rfl ?_)
                      refine WL_step rfl rfl (Exec.load_box ((hS13762).f4) A3 rfl rfl rfl ?_)
                      refine WL_step rfl rfl (Exec.field F26_0 rfl p13724 rfl ?_)
                      refine WL_step rfl rfl (Exec.load_box ((hS13762).f1) A3 rfl rfl rfl ?_)
                      refine WL_step rfl rfl (Exec.mul rfl rfl rfl ?_)
                      refine WL_step rfl rfl (Exec.field F66_0 rfl rfl rfl ?_)
                      refine WL_step rfl rfl (Exec.load_box (hS13762) A3 rfl rfl rfl ?_)
                      refine WL_step rfl rfl (Exec.add rfl rfl rfl ?_)
                      refine WL_step rfl rfl (Exec.move (v := Value.int .i64 ((i11277 : Int))) rfl p13729 ?_)
                      refine WL_step rfl rfl (Exec.field F66_2 rfl p13730 rfl ?_)
                      refine WL_step rfl rfl (Exec.load_box ((hS13762).f4) A3 rfl rfl rfl ?_)
                      refine WL_step rfl rfl (Exec.field F26_0 rfl p13724 rfl ?_)
                      refine WL_step rfl rfl (Exec.load_box ((hS13762).f1) A3 rfl rfl rfl ?_)
                      refine WL_step rfl rfl (Exec.mul rfl rfl rfl ?_)
                      refine WL_step rfl rfl (Exec.field F66_2 rfl rfl rfl ?_)
                      refine WL_step rfl rfl (Exec.load_box (hS13762) A3 rfl rfl rfl ?_)
                      refine WL_step rfl rfl (Exec.add rfl rfl rfl ?_)
                      refine WL_step rfl rfl (Exec.build rfl (parts_cons (c := [Value.int .i64 (IntKind.i64.wrap ((IntKind.i64.wrap (x13574.From * b135.States)) + x13751.From))]) (cells_of rfl rfl) (parts_cons (c := [Value.int .i64 ((i11277 : Int))]) (cells_of rfl rfl) (parts_cons (c := [Value.int .i64 (IntKind.i64.wrap ((IntKind.i64.wrap (x13574.To * b135.States)) + x13751.To))]) (cells_of rfl rfl) parts_nil))) (v := Value.agg #[Value.int .i64 (IntKind.i64.wrap ((IntKind.i64.wrap (x13574.From * b135.States)) + x13751.From)), Value.int .i64 ((i11277 : Int)), Value.int .i64 (IntKind.i64.wrap ((IntKind.i64.wrap (x13574.To * b135.States)) + x13751.To))]) (fun _ => by kernel_rfl) ?_)
                      refine WL_step rfl rfl (Exec.buildSlice (Te := 66) (cs := [Value.int .i64 (IntKind.i64.wrap ((IntKind.i64.wrap (x13574.From * b135.States)) + x13751.From)), Value.int .i64 ((i11277 : Int)), Value.int .i64 (IntKind.i64.wrap ((IntKind.i64.wrap (x13574.To * b135.States)) + x13751.To))]) hS13762 rfl (parts_cons (c := [Value.int .i64 (IntKind.i64.wrap ((IntKind.i64.wrap (x13574.From * b135.States)) + x13751.From)), Value.int .i64 ((i11277 : Int)), Value.int .i64 (IntKind.i64.wrap ((IntKind.i64.wrap (x13574.To * b135.States)) + x13751.To))]) (cells_of rfl rfl) parts_nil) (fun _ => by kernel_rfl) ?_)
                      intro b13775 w13776 hS13777
                      obtain ⟨l13778, q13779, hm13720⟩ := bind_some hm13720
                      have hS13780 := (hS13777).f7
                      refine WL_step rfl rfl (Exec.append_box (E := encEdge) (ys := [(⟨IntKind.i64.wrap ((IntKind.i64.wrap (x13574.From * b135.States)) + x13751.From), (i11277 : Int), IntKind.i64.wrap ((IntKind.i64.wrap (x13574.To * b135.States)) + x13751.To)⟩ : Edge)]) hS13780 S23 Z66 rfl (by decide) rfl rfl rfl rfl ⟨[Value.int .i64 (IntKind.i64.wrap ((IntKind.i64.wrap (x13574.From * b135.States)) + x13751.From)), Value.int .i64 ((i11277 : Int)), Value.int .i64 (IntKind.i64.wrap ((IntKind.i64.wrap (x13574.To * b135.States)) + x13751.To))], [], rfl, ⟨[Value.int .i64 (IntKind.i64.wrap ((IntKind.i64.wrap (x13574.From * b135.States)) + x13751.From))], [Value.int .i64 ((i11277 : Int)), Value.int .i64 (IntKind.i64.wrap ((IntKind.i64.wrap (x13574.To * b135.States)) + x13751.To))], rfl, rfl, ⟨[Value.int .i64 ((i11277 : Int))], [Value.int .i64 (IntKind.i64.wrap ((IntKind.i64.wrap (x13574.To * b135.States)) + x13751.To))], rfl, rfl, rfl⟩⟩, rfl⟩ rfl q13779 ?_)
                      intro v13781 w13782 hS13783
                      refine WL_step rfl rfl (Exec.field F26_3 rfl p13726 rfl ?_)
                      have hS13784 := (hS13783).f4
                      refine WL_step rfl rfl (Exec.store_box (ds := [v13781]) (es := [Value.int .i64 (IntKind.i64.wrap (a128.States * b135.States)), Value.int .i64 (IntKind.i64.wrap ((IntKind.i64.wrap (a128.Init * b135.States)) + b135.Init)), v8813, v13781, v9539]) hS13784 A23 rfl rfl rfl (cells_one ((hS13784).f1).arr_one) (one_cons ((hS13784).f1).arr_one one_nil) (Nat.le_of_ble_eq_true rfl) rfl ?_)
                      intro w13785 hS13786
                      refine WL_nil (ib_normal (at_normal ?_))
                      refine W_region ?_
                      refine WL_step rfl rfl (Exec.add rfl x13738 rfl ?_)
                      refine WL_step rfl rfl (Exec.move (v := Value.int .i64 (IntKind.i64.wrap ((i13602 : Int) + 1))) rfl rfl ?_)
                      refine WL_nil (at_normal ?_)
                      have e13787 := Option.some.inj hm13720
                      subst s13715
                      have hS13788 := ((hS13786).f2).drop
                      have hS13789 := (hS13788).f6
                      have hS13790 := (hS13789).f2
                      have hS13791 := (hS13790).f6
                      have hS13792 := (hS13791).f6
                      have hS13793 := (hS13792).f4
                      have hS13794 := (hS13793).f6
                      have hS13795 := (hS13794).f6
                      exact ⟨s13721, v13781, l13722, hS13795, p13724, p13725, p13726, p13727, p13728, p13729, p13730, p13731, p13732, p13733, p13734, p13735, p13736, p13737, (Eq.trans rfl (wrap_up hi13718 (SliceRep.le r13601)))⟩
                    · intro f13796 w13797 hI13798
                      obtain ⟨s13799, v13653, l13800, hS13801, p13802, p13803, p13804, p13805, p13806, p13807, p13808, p13809, p13810, p13811, p13812, p13813, p13814, p13815, x13816⟩ := hI13798
                      refine W_seq ?_
                      refine W_region ?_
                      refine WL_step rfl rfl (Exec.lss rfl x13816 p13815 ?_)
                      refine WL_nil (at_normal ?_)
                      refine W_seq ?_
                      refine W_false (congrArg Value.bool (decide_eq_false (by omega))) ?_
                      refine W_exit (at_exit (at_exit (ib_here (ib_normal (at_normal ?_)))))
                      refine W_region ?_
                      refine WL_step rfl rfl (Exec.add rfl p13813 rfl ?_)
                      refine WL_step rfl rfl (Exec.move (v := Value.int .i64 (IntKind.i64.wrap ((i13016 : Int) + 1))) rfl rfl ?_)
                      refine WL_nil (at_normal ?_)
                      have e13817 := Option.some.inj hm13547
                      subst s13542
                      have hS13818 := ((hS13801).f3).drop
                      have hS13819 := (hS13818).f5
                      have hS13820 := (hS13819).f5
                      have hS13821 := (hS13820).f5
                      have hS13822 := (hS13821).f5
                      have hS13823 := (hS13822).f5
                      have hS13824 := (hS13823).f5
                      exact ⟨s13799, v13653, (PHeap.le.trans l13549 l13800), hS13824, p13802, p13803, p13804, p13805, p13806, p13807, p13809, p13810, p13811, p13812, (Eq.trans rfl (wrap_up hi13545 (SliceRep.le r13015)))⟩
                  · intro f13825 w13826 hI13827
                    obtain ⟨s13828, v13274, l13829, hS13830, p13831, p13832, p13833, p13834, p13835, p13836, p13837, p13838, p13839, p13840, x13841⟩ := hI13827
                    refine W_seq ?_
                    refine W_region ?_
                    refine WL_step rfl rfl (Exec.lss rfl x13841 p13840 ?_)
                    refine WL_nil (at_normal ?_)
                    refine W_seq ?_
                    refine W_false (congrArg Value.bool (decide_eq_false (by omega))) ?_
                    refine W_exit (at_exit (at_exit (ib_here (ib_normal (at_normal ?_)))))
                    refine W_region ?_
                    refine WL_step rfl rfl (Exec.add rfl p13838 rfl ?_)
                    refine WL_step rfl rfl (Exec.move (v := Value.int .i64 (IntKind.i64.wrap ((i11277 : Int) + 1))) rfl rfl ?_)
                    refine WL_nil (at_normal ?_)
                    have e13842 := Option.some.inj hm12989
                    subst s12984
                    have hS13843 := (hS13830).f5
                    have hS13844 := (hS13843).f5
                    have hS13845 := (hS13844).f5
                    have hS13846 := (hS13845).f5
                    have hS13847 := (hS13846).f5
                    have hS13848 := (hS13847).f5
                    exact ⟨s13828, v13274, (PHeap.le.trans l12991 l13829), hS13848, p13831, p13832, p13833, p13834, p13835, p13837, (Eq.trans rfl (wrap_up hi12987 (SliceRep.le (r10974.mono (PHeap.le.trans l10980 l11253)))))⟩
                · intro f13849 w13850 hI13851
                  obtain ⟨s13852, v12128, l13853, hS13854, p13855, p13856, p13857, p13858, p13859, p13860, x13861⟩ := hI13851
                  refine W_seq ?_
                  refine W_region ?_
                  refine WL_step rfl rfl (Exec.lss rfl x13861 p13860 ?_)
                  refine WL_nil (at_normal ?_)
                  refine W_seq ?_
                  refine W_false (congrArg Value.bool (decide_eq_false (by omega))) ?_
                  refine W_exit (at_exit (at_exit (ib_here (at_normal ?_))))
                  refine W_seq ?_
                  refine W_region ?_
                  refine WL_step rfl rfl (Exec.field F26_3 rfl p13857 rfl ?_)
                  refine WL_step rfl rfl (Exec.load_box ((hS13854).f2) A23 rfl rfl rfl ?_)
                  obtain ⟨l13872, q13871, hm⟩ := bind_some hm
                  have hS13873 := (hS13854).f4
                  refine WL_step rfl rfl (Exec.call rfl rfl Try.func38 rfl N38 (args_cons rfl (args_cons rfl args_nil)) ((sortEdges_sim q13871 hS13873 ).mono ?_))
                  rintro _ w13874 ⟨_, rfl, ⟨s13875, l13876, hS13877, rfl⟩⟩
                  refine ⟨_, rfl, ?_⟩
                  refine WL_nil (at_normal ?_)
                  refine W_seq ?_
                  refine W_region ?_
                  refine WL_step rfl rfl (Exec.load_box_agg (ds := [Value.int .i64 (IntKind.i64.wrap (a128.States * b135.States)), Value.int .i64 (IntKind.i64.wrap ((IntKind.i64.wrap (a128.Init * b135.States)) + b135.Init)), v8813, v12128, v9539]) ((hS13877).f3) A26 rfl p13857 rfl ?_)
                  have hS13881 := (hS13877).f2
                  refine WL_step rfl rfl (Exec.store_box (ds := [Value.int .i64 (IntKind.i64.wrap (a128.States * b135.States)), Value.int .i64 (IntKind.i64.wrap ((IntKind.i64.wrap (a128.Init * b135.States)) + b135.Init)), v8813, v12128, v9539]) (es := [Value.int .i64 (IntKind.i64.wrap (a128.States * b135.States)), Value.int .i64 (IntKind.i64.wrap ((IntKind.i64.wrap (a128.Init * b135.States)) + b135.Init)), v8813, v12128, v9539]) hS13881 A26 rfl p13856 rfl rfl (one_cons rfl (one_cons rfl (one_cons ((hS13881).f4).arr_one (one_cons ((hS13881).f1).arr_one (one_cons ((hS13881).f5).arr_one one_nil))))) (Nat.le_of_ble_eq_true rfl) rfl ?_)
                  intro w13882 hS13883
                  refine WL_step rfl rfl (Exec.assign (v := errV 39 (none)) rfl rfl ?_)
                  refine WL_nil (at_normal ?_)
                  refine W_ret ?_
                  have e13885 := Option.some.inj hm
                  subst r
                  refine ⟨_, retG2 rfl ⟨_, _, p13856, cellRes (hS13883) A26⟩ rfl, ?_⟩
                  have hS13886 := (hS13883).f4
                  obtain ⟨s13887, l13888, hS13889, r13890⟩ := hS13886.freezeArr
                  have hS13891 := (hS13889).f1
                  obtain ⟨s13892, l13893, hS13894, r13895⟩ := hS13891.freezeArr
                  have hS13896 := (hS13894).f3
                  obtain ⟨s13897, l13898, hS13899, r13900⟩ := hS13896.freezeArr
                  have hS13901 := (hS13899).drop
                  have hS13902 := (hS13901).drop
                  have hS13903 := (hS13902).drop
                  exact ⟨s13897, v8813, v12128, v9539, (PHeap.le.trans (PHeap.le.trans (PHeap.le.trans (PHeap.le.trans (PHeap.le.trans (PHeap.le.trans (PHeap.le.trans (PHeap.le.trans (PHeap.le.trans (PHeap.le.trans l8755 l8851) l10900) l10971) l10980) l11253) l13853) l13876) l13888) l13893) l13898), hS13903, (tup2 rfl rfl), (r13890.mono (PHeap.le.trans l13893 l13898)), (r13895.mono l13898), r13900⟩

theorem N43 : (Try.f43.name == "runtime.NumGoroutine") = false := by kernel_rfl

theorem transys_goals_sim {w0 w : World} {s : PHeap} {H : List Res} {x14005 : System} {v14006 : Value} {v14008 : Value} {v14010 : Value} {r : (List Int)} (hm : transys_goals_p x14005 = some r) (hS : St w0 s (H) w) (a14007 : SliceRep (encInt .i64) s v14006 x14005.Costs) (a14009 : SliceRep encEdge s v14008 x14005.Edges) (a14011 : SliceRep encBool s v14010 x14005.Goals) :
    Calls Try.prog 43 #[Value.agg #[Value.int .i64 (x14005.States), Value.int .i64 (x14005.Init), v14006, v14008, v14010]] w fun e w' => ∃ v, e = .returned v ∧ ((fun (y14265 : (List Int)) => ∃ (s14271 : PHeap) (v14270 : Value), PHeap.le s s14271 ∧ St w0 s14271 (H) w' ∧ v = v14270 ∧ SliceRep (encInt .i64) s14271 v14270 y14265) r) := by
  unfold transys_goals_p at hm
  refine calls_of_W Try.func43 rfl rfl ?_
  refine W_seq ?_
  refine W_region ?_
  refine WL_step rfl rfl (Exec.box (cs := [Value.int .i64 (x14005.States), Value.int .i64 (x14005.Init), v14006, v14008, v14010]) hS rfl rfl rfl ?_)
  intro b14275 w14276 hS14277
  refine WL_step rfl rfl (Exec.assign (v := Value.slice none 0 0) rfl rfl ?_)
  refine WL_nil (at_normal ?_)
  refine W_seq ?_
  refine W_region ?_
  refine WL_step rfl rfl (Exec.assign (v := Value.slice none 0 0) rfl rfl ?_)
  refine WL_nil (at_normal ?_)
  refine W_seq ?_
  refine W_seq ?_
  refine W_region ?_
  refine WL_step rfl rfl (Exec.field F26_4 rfl rfl rfl ?_)
  refine WL_step rfl rfl (Exec.load_box (hS14277) A24 rfl rfl rfl ?_)
  refine WL_step rfl rfl (Exec.len_rep S24 rfl rfl a14011 ?_)
  refine WL_step rfl rfl (Exec.move (v := Value.int .i64 (0)) rfl rfl ?_)
  refine WL_nil (at_normal ?_)
  obtain ⟨out14356, hB14428, hm⟩ := bind_some hm
  refine W_block (W_forS (fun k' s' f' w' => (fun (out14356 : (List Int)) => ∃ (s14429 : PHeap) (v14357 : Value), PHeap.le s s14429 ∧ St w0 s14429 (Res.arr (encInt .i64) 3 v14357 out14356 :: H) w' ∧ f' 3 = v14357 ∧ f' 7 = v14010 ∧ f' 8 = Value.int .i64 ((x14005.Goals.length : Int)) ∧ f' 9 = Value.int .i64 (k' : Int)) s') hB14428 ?_ ?_ ?_)
  · have hS14430 := hS14277.nilArr (encInt .i64) 3
    have hS14431 := ((hS14430).f1).drop
    exact ⟨s, (Value.slice none 0 0), (PHeap.le_refl _), hS14431, rfl, rfl, rfl, rfl⟩
  · intro i14278 out14356 s14433 f14434 w14435 hi14436 hI14437 hm14438
    obtain ⟨s14439, v14357, l14440, hS14441, p14442, p14443, p14444, x14445⟩ := hI14437
    refine W_seq ?_
    refine W_region ?_
    refine WL_step rfl rfl (Exec.lss rfl x14445 p14444 ?_)
    refine WL_nil (at_normal ?_)
    refine W_seq ?_
    refine W_true (congrArg Value.bool (decide_eq_true (by omega))) ?_
    refine W_skip (at_normal ?_)
    refine W_seq ?_
    refine W_block ?_
    refine W_seq ?_
    refine W_region ?_
    refine WL_step rfl rfl (Exec.move (v := Value.int .i64 ((i14278 : Int))) rfl x14445 ?_)
    obtain ⟨x14453, q14454, hm14438⟩ := bind_some hm14438
    refine WL_step rfl rfl (Exec.index_rep S24 rfl p14443 x14445 (a14011.mono l14440) q14454 ?_)
    intro b14455 o14456 a14457
    refine WL_step rfl rfl (Exec.load_at (E := encBool) hS14441 A4 rfl rfl rfl a14457 ?_)
    intro v14458 q14459
    obtain rfl := encBool_val.1 q14459
    refine WL_step rfl rfl (Exec.assign (v := Value.int .i64 ((i14278 : Int))) rfl rfl ?_)
    refine WL_step rfl rfl (Exec.assign (v := Value.bool (x14453)) rfl rfl ?_)
    refine WL_nil (at_normal ?_)
    refine W_seq ?_
    refine W_region ?_
    refine WL_step rfl rfl (Exec.move (v := Value.bool (x14453)) rfl rfl ?_)
    refine WL_nil (at_normal ?_)
    obtain ⟨l14478, ht14480, hm14438⟩ := bind_some hm14438
    refine W_mid (M := fun f' w' => (fun (l14478 : (List Int)) => ∃ (s14481 : PHeap) (v14479 : Value), PHeap.le s14439 s14481 ∧ St w0 s14481 (Res.arr (encInt .i64) 3 v14479 l14478 :: H) w' ∧ f' 3 = v14479 ∧ f' 7 = v14010 ∧ f' 8 = Value.int .i64 ((x14005.Goals.length : Int)) ∧ f' 9 = Value.int .i64 ((i14278 : Int))) l14478) ?_ ?_
    · rcases ite_some ht14480 with ⟨hc14482, ht14480⟩ | ⟨hc14482, ht14480⟩
      · refine W_cond_t rfl hc14482 ?_
        refine W_region ?_
        refine WL_step rfl rfl (Exec.move (v := v14357) rfl p14442 ?_)
        refine WL_step rfl rfl (Exec.move (v := Value.int .i64 ((i14278 : Int))) rfl rfl ?_)
        refine WL_step rfl rfl (Exec.buildSlice (Te := 3) (cs := [Value.int .i64 ((i14278 : Int))]) hS14441 rfl (parts_cons (c := [Value.int .i64 ((i14278 : Int))]) (cells_of rfl rfl) parts_nil) (fun _ => by kernel_rfl) ?_)
        intro b14492 w14493 hS14494
        obtain ⟨l14495, q14496, ht14480⟩ := bind_some ht14480
        have hS14497 := (hS14494).f1
        refine WL_step rfl rfl (Exec.append_box (E := (encInt .i64)) (ys := [(i14278 : Int)]) hS14497 S22 Z3 rfl (by decide) rfl rfl rfl rfl ⟨[Value.int .i64 ((i14278 : Int))], [], rfl, rfl, rfl⟩ rfl q14496 ?_)
        intro v14498 w14499 hS14500
        refine WL_step rfl rfl (Exec.assign (v := v14498) rfl rfl ?_)
        refine WL_nil (at_normal ?_)
        have e14501 := Option.some.inj ht14480
        subst l14478
        exact ⟨s14439, v14498, (PHeap.le_refl _), hS14500, rfl, p14443, p14444, x14445⟩
      · refine W_cond_f rfl hc14482 ?_
        replace hc14482 := not_true hc14482
        refine W_skip (at_normal ?_)
        have e14502 := Option.some.inj ht14480
        subst l14478
        exact ⟨s14439, v14357, (PHeap.le_refl _), hS14441, p14442, p14443, p14444, x14445⟩
    · intro f14503 w14504 hM14505
      obtain ⟨s14506, v14479, l14507, hS14508, p14509, p14510, p14511, p14512⟩ := hM14505
      refine (ib_normal (at_normal ?_))
      refine W_region ?_
      refine WL_step rfl rfl (Exec.add rfl p14512 rfl ?_)
      refine WL_step rfl rfl (Exec.move (v := Value.int .i64 (IntKind.i64.wrap ((i14278 : Int) + 1))) rfl rfl ?_)
      refine WL_nil (at_normal ?_)
      have e14513 := Option.some.inj hm14438
      subst s14433
      exact ⟨s14506, v14479, (PHeap.le.trans l14440 l14507), hS14508, p14509, p14510, p14511, (Eq.trans rfl (wrap_up hi14436 (SliceRep.le a14011)))⟩
  · intro f14514 w14515 hI14516
    obtain ⟨s14517, v14357, l14518, hS14519, p14520, p14521, p14522, x14523⟩ := hI14516
    refine W_seq ?_
    refine W_region ?_
    refine WL_step rfl rfl (Exec.lss rfl x14523 p14522 ?_)
    refine WL_nil (at_normal ?_)
    refine W_seq ?_
    refine W_false (congrArg Value.bool (decide_eq_false (by omega))) ?_
    refine W_exit (at_exit (at_exit (ib_here (at_normal ?_))))
    refine W_seq ?_
    refine W_region ?_
    refine WL_step rfl rfl (Exec.move (v := v14357) rfl p14520 ?_)
    refine WL_step rfl rfl (Exec.assign (v := v14357) rfl rfl ?_)
    refine WL_nil (at_normal ?_)
    refine W_ret ?_
    have e14525 := Option.some.inj hm
    subst r
    refine ⟨_, ret1 rfl, ?_⟩
    obtain ⟨s14526, l14527, hS14528, r14529⟩ := hS14519.freezeArr
    exact ⟨s14526, v14357, (PHeap.le.trans l14518 l14527), hS14528, rfl, r14529⟩

theorem S99 : tySlice Try.prog 99 = some (102, 1, 24) := by kernel_rfl

theorem Z102 : tyZero Try.prog 102 = some (Value.slice none 0 0) := by kernel_rfl

theorem Z101 : tyZero Try.prog 101 = some (Value.agg #[Value.int .i64 (0), Value.int .i64 (0), Value.int .i64 (0)]) := by kernel_rfl

theorem A101 : tyAgg Try.prog 101 = some (true, 3) := by kernel_rfl

theorem F101_1 : tyField Try.prog 101 1 = some 1 := by kernel_rfl

theorem F101_0 : tyField Try.prog 101 0 = some 0 := by kernel_rfl

theorem A102 : tyAgg Try.prog 102 = some (false, 1) := by kernel_rfl

theorem S102 : tySlice Try.prog 102 = some (101, 3, 24) := by kernel_rfl

theorem F101_2 : tyField Try.prog 101 2 = some 2 := by kernel_rfl

theorem N42 : (Try.f42.name == "runtime.NumGoroutine") = false := by kernel_rfl

theorem transys_shortest_sim {w0 w : World} {s : PHeap} {H : List Res} {x14539 : System} {from_14546 : (List Int)} {back14549 : Bool} {v14540 : Value} {v14542 : Value} {v14544 : Value} {v14547 : Value} {r : (List Int)} (hm : transys_shortest_p x14539 from_14546 back14549 = some r) (hS : St w0 s (H) w) (a14541 : SliceRep (encInt .i64) s v14540 x14539.Costs) (a14543 : SliceRep encEdge s v14542 x14539.Edges) (a14545 : SliceRep encBool s v14544 x14539.Goals) (a14548 : SliceRep (encInt .i64) s v14547 from_14546) :
    Calls Try.prog 42 #[Value.agg #[Value.int .i64 (x14539.States), Value.int .i64 (x14539.Init), v14540, v14542, v14544], v14547, Value.bool (back14549)] w fun e w' => ∃ v, e = .returned v ∧ ((fun (y19648 : (List Int)) => ∃ (s19655 : PHeap) (v19654 : Value), PHeap.le s s19655 ∧ St w0 s19655 (H) w' ∧ v = v19654 ∧ SliceRep (encInt .i64) s19655 v19654 y19648) r) := by
  unfold transys_shortest_p at hm
  refine calls_of_W Try.func42 rfl rfl ?_
  refine W_seq ?_
  refine W_region ?_
  refine WL_step rfl rfl (Exec.box (cs := [Value.int .i64 (x14539.States), Value.int .i64 (x14539.Init), v14540, v14542, v14544]) hS rfl rfl rfl ?_)
  intro b19659 w19660 hS19661
  refine WL_step rfl rfl (Exec.assign (v := Value.slice none 0 0) rfl rfl ?_)
  refine WL_nil (at_normal ?_)
  refine W_seq ?_
  refine W_region ?_
  refine WL_step rfl rfl (Exec.field F26_0 rfl rfl rfl ?_)
  refine WL_step rfl rfl (Exec.load_box (hS19661) A3 rfl rfl rfl ?_)
  obtain ⟨l19668, q19669, hm⟩ := bind_some hm
  refine WL_step rfl rfl (Exec.make_grid (F := encArc) (T2 := 101) hS19661 S99 Z102 rfl rfl rfl q19669 ?_)
  intro v19670 hs19671 w19672 hS19673
  refine WL_step rfl rfl (Exec.assign (v := v19670) rfl rfl ?_)
  refine WL_nil (at_normal ?_)
  refine W_seq ?_
  refine W_seq ?_
  refine W_region ?_
  refine WL_step rfl rfl (Exec.field F26_3 rfl rfl rfl ?_)
  refine WL_step rfl rfl (Exec.load_box ((hS19673).f2) A23 rfl rfl rfl ?_)
  refine WL_step rfl rfl (Exec.len_rep S23 rfl rfl a14543 ?_)
  refine WL_step rfl rfl (Exec.move (v := Value.int .i64 (0)) rfl rfl ?_)
  refine WL_nil (at_normal ?_)
  obtain ⟨l19898, hB20125, hm⟩ := bind_some hm
  refine W_block (W_forS (fun k' s' f' w' => (fun (l19898 : (List (List Arc))) => ∃ (s20126 : PHeap) (hs19899 : List Value), PHeap.le s s20126 ∧ St w0 s20126 (Res.box b19659 26 [Value.int .i64 (x14539.States), Value.int .i64 (x14539.Init), v14540, v14542, v14544] :: Res.arr encRaw 102 v19670 hs19899 :: Res.rows encArc 101 hs19899 l19898 :: H) w' ∧ f' 1 = v14547 ∧ f' 2 = Value.bool (back14549) ∧ f' 3 = Value.pointer (some ⟨b19659, 0, none⟩) ∧ f' 7 = v19670 ∧ f' 24 = v14542 ∧ f' 25 = Value.int .i64 ((x14539.Edges.length : Int)) ∧ f' 26 = Value.int .i64 (k' : Int)) s') hB20125 ?_ ?_ ?_)
  · have hS20127 := (hS19673).f2
    exact ⟨s, hs19671, (PHeap.le_refl _), hS20127, rfl, rfl, rfl, rfl, rfl, rfl, rfl⟩
  · intro i19674 l19898 s20129 f20130 w20131 hi20132 hI20133 hm20134
    obtain ⟨s20135, hs19899, l20136, hS20137, p20138, p20139, p20140, p20141, p20142, p20143, x20144⟩ := hI20133
    refine W_seq ?_
    refine W_region ?_
    refine WL_step rfl rfl (Exec.lss rfl x20144 p20143 ?_)
    refine WL_nil (at_normal ?_)
    refine W_seq ?_
    refine W_true (congrArg Value.bool (decide_eq_true (by omega))) ?_
    refine W_skip (at_normal ?_)
    refine W_seq ?_
    refine W_block ?_
    refine W_seq ?_
    refine W_region ?_
    obtain ⟨x20157, q20158, hm20134⟩ := bind_some hm20134
    refine WL_step rfl rfl (Exec.index_rep S23 rfl p20142 x20144 (a14543.mono l20136) q20158 ?_)
    intro b20159 o20160 a20161
    refine WL_step rfl rfl (Exec.load_at (E := encEdge) hS20137 A66 rfl rfl rfl a20161 ?_)
    intro v20162 q20163
    obtain rfl := encEdge_val.1 q20163
    refine WL_step rfl rfl (Exec.alloc (cs := [Value.int .i64 (0), Value.int .i64 (0), Value.int .i64 (0)]) hS20137 Z66 rfl rfl ?_)
    intro b20164 w20165 hS20166
    refine WL_step rfl rfl (Exec.store_box (ds := [Value.int .i64 (x20157.From), Value.int .i64 (x20157.Label), Value.int .i64 (x20157.To)]) (es := [Value.int .i64 (x20157.From), Value.int .i64 (x20157.Label), Value.int .i64 (x20157.To)]) hS20166 A66 rfl rfl rfl rfl (one_cons rfl (one_cons rfl (one_cons rfl one_nil))) (Nat.le_of_ble_eq_true rfl) rfl ?_)
    intro w20167 hS20168
    refine WL_nil (at_normal ?_)
    refine W_seq ?_
    refine W_dl (n0 := 12) (.q 0 (.q 1 (.q 2 (.q 3 (.q 4 (.q 5 (.q 6 (.q 7 (.q 8 (.q 9 (.q 10 (.e 11 [0, 1, 2, 3, 4, 5, 6, 7, 8, 9, 10] .done)))))))))))) hmix (by kernel_rfl) (by kernel_rfl) ?_
    have hS20207 := hS20168.drew
    refine DL_q rfl rfl (Exec.field F66_0 rfl rfl rfl ⟨rfl, ?_⟩)
    refine DL_q rfl rfl (Exec.load_box (hS20207) A3 rfl rfl rfl ⟨rfl, ?_⟩)
    refine DL_q rfl rfl (Exec.field F66_2 rfl rfl rfl ⟨rfl, ?_⟩)
    refine DL_q rfl rfl (Exec.load_box (hS20207) A3 rfl rfl rfl ⟨rfl, ?_⟩)
    refine DL_q rfl rfl (Exec.field F26_2 rfl p20140 rfl ⟨rfl, ?_⟩)
    refine DL_q rfl rfl (Exec.load_box ((hS20207).f1) A22 rfl rfl rfl ⟨rfl, ?_⟩)
    refine DL_q rfl rfl (Exec.field F66_1 rfl rfl rfl ⟨rfl, ?_⟩)
    refine DL_q rfl rfl (Exec.load_box (hS20207) A3 rfl rfl rfl ⟨rfl, ?_⟩)
    obtain ⟨x20208, q20209, hm20134⟩ := bind_some hm20134
    refine DL_q rfl rfl (Exec.index_repE S22 rfl rfl rfl (a14541.mono l20136) q20209 ?_)
    intro b20210 o20211 a20212 e20213
    refine ⟨rfl, ?_⟩
    refine DL_q rfl rfl (Exec.load_at (E := (encInt .i64)) hS20207 A3 rfl rfl rfl a20212 ?_)
    intro v20214 q20215
    obtain rfl := encInt_val.1 q20215
    refine ⟨rfl, ?_⟩
    refine DL_q rfl rfl (Exec.build rfl (parts_cons (c := [Value.int .i64 (x20157.From)]) (cells_of rfl rfl) (parts_cons (c := [Value.int .i64 (x20157.To)]) (cells_of rfl rfl) (parts_cons (c := [Value.int .i64 (x20208)]) (cells_of rfl rfl) parts_nil))) (v := Value.agg #[Value.int .i64 (x20157.From), Value.int .i64 (x20157.To), Value.int .i64 (x20208)]) (fun _ => by kernel_rfl) ⟨rfl, ?_⟩)
    refine DL_e rfl rfl (Exec.alloc (cs := [Value.int .i64 (0), Value.int .i64 (0), Value.int .i64 (0)]) hS20207 Z101 rfl rfl ?_)
    intro b20216 w20217 hS20218
    refine ⟨(ag_cons (ag_r rfl rfl (Exec.field F66_0 rfl rfl rfl ⟨rfl, rfl⟩)) (ag_cons (ag_r rfl rfl (Exec.load_box ((hS20218).f1) A3 rfl rfl rfl ⟨rfl, rfl⟩)) (ag_cons (ag_r rfl rfl (Exec.field F66_2 rfl rfl rfl ⟨rfl, rfl⟩)) (ag_cons (ag_r rfl rfl (Exec.load_box ((hS20218).f1) A3 rfl rfl rfl ⟨rfl, rfl⟩)) (ag_cons (ag_r rfl rfl (Exec.field F26_2 rfl p20140 rfl ⟨rfl, rfl⟩)) (ag_cons (ag_r rfl rfl (Exec.load_box ((hS20218).f2) A22 rfl rfl rfl ⟨rfl, rfl⟩)) (ag_cons (ag_r rfl rfl (Exec.field F66_1 rfl rfl rfl ⟨rfl, rfl⟩)) (ag_cons (ag_r rfl rfl (Exec.load_box ((hS20218).f1) A3 rfl rfl rfl ⟨rfl, rfl⟩)) (ag_cons (ag_r rfl rfl (Exec.index_run rfl rfl rfl e20213 ⟨rfl, rfl⟩)) (ag_cons (ag_r rfl rfl (Exec.load_at (E := (encInt .i64)) hS20218 A3 rfl rfl rfl a20212 (fun _ q => ⟨rfl, encInt_val.1 q⟩))) (ag_cons (ag_r rfl rfl (Exec.build rfl (parts_cons (c := [Value.int .i64 (x20157.From)]) (cells_of rfl rfl) (parts_cons (c := [Value.int .i64 (x20157.To)]) (cells_of rfl rfl) (parts_cons (c := [Value.int .i64 (x20208)]) (cells_of rfl rfl) parts_nil))) (v := Value.agg #[Value.int .i64 (x20157.From), Value.int .i64 (x20157.To), Value.int .i64 (x20208)]) (fun _ => by kernel_rfl) ⟨rfl, rfl⟩)) ag_nil))))))))))), ?_⟩
    refine DL_done ?_
    refine WL_step rfl rfl (Exec.store_box (ds := [Value.int .i64 (x20157.From), Value.int .i64 (x20157.To), Value.int .i64 (x20208)]) (es := [Value.int .i64 (x20157.From), Value.int .i64 (x20157.To), Value.int .i64 (x20208)]) hS20218 A101 rfl rfl rfl rfl (one_cons rfl (one_cons rfl (one_cons rfl one_nil))) (Nat.le_of_ble_eq_true rfl) rfl ?_)
    intro w20219 hS20220
    refine WL_nil (at_normal ?_)
    refine W_seq ?_
    refine W_seq ?_
    refine W_region ?_
    refine WL_step rfl rfl (Exec.move (v := Value.bool (back14549)) rfl p20139 ?_)
    refine WL_nil (at_normal ?_)
    obtain ⟨t20231, ht20232, hm20134⟩ := bind_some hm20134
    refine W_mid (M := fun f' w' => (un2 fun (z20229 : Int) (z20230 : Int) => ∃ (s20233 : PHeap) , PHeap.le s20135 s20233 ∧ St w0 s20233 (Res.box b19659 26 [Value.int .i64 (x14539.States), Value.int .i64 (x14539.Init), v14540, v14542, v14544] :: Res.arr encRaw 102 v19670 hs19899 :: Res.rows encArc 101 hs19899 l19898 :: Res.box b20216 101 [Value.int .i64 (z20229), Value.int .i64 (z20230), Value.int .i64 (x20208)] :: H) w' ∧ f' 1 = v14547 ∧ f' 2 = Value.bool (back14549) ∧ f' 3 = Value.pointer (some ⟨b19659, 0, none⟩) ∧ f' 7 = v19670 ∧ f' 10 = Value.pointer (some ⟨b20216, 0, none⟩) ∧ f' 24 = v14542 ∧ f' 25 = Value.int .i64 ((x14539.Edges.length : Int)) ∧ f' 26 = Value.int .i64 ((i19674 : Int))) t20231) ?_ ?_
    · rcases ite_some ht20232 with ⟨hc20234, ht20232⟩ | ⟨hc20234, ht20232⟩
      · refine W_cond_t rfl hc20234 ?_
        refine W_region ?_
        refine WL_step rfl rfl (Exec.field F101_1 rfl rfl rfl ?_)
        refine WL_step rfl rfl (Exec.load_box (hS20220) A3 rfl rfl rfl ?_)
        refine WL_step rfl rfl (Exec.field F101_0 rfl rfl rfl ?_)
        refine WL_step rfl rfl (Exec.load_box (hS20220) A3 rfl rfl rfl ?_)
        refine WL_step rfl rfl (Exec.field F101_0 rfl rfl rfl ?_)
        refine WL_step rfl rfl (Exec.store_box (ds := [Value.int .i64 (x20157.To)]) (es := [Value.int .i64 (x20157.To), Value.int .i64 (x20157.To), Value.int .i64 (x20208)]) hS20220 A3 rfl rfl rfl rfl (one_cons rfl one_nil) (Nat.le_of_ble_eq_true rfl) rfl ?_)
        intro w20239 hS20240
        refine WL_step rfl rfl (Exec.field F101_1 rfl rfl rfl ?_)
        refine WL_step rfl rfl (Exec.store_box (ds := [Value.int .i64 (x20157.From)]) (es := [Value.int .i64 (x20157.To), Value.int .i64 (x20157.From), Value.int .i64 (x20208)]) hS20240 A3 rfl rfl rfl rfl (one_cons rfl one_nil) (Nat.le_of_ble_eq_true rfl) rfl ?_)
        intro w20241 hS20242
        refine WL_nil (at_normal ?_)
        have e20243 := Option.some.inj ht20232
        subst t20231
        have hS20244 := ((hS20242).f1).drop
        have hS20245 := ((hS20244).f3).f3
        have hS20246 := (hS20245).f3
        exact ⟨s20135, (PHeap.le_refl _), hS20246, p20138, p20139, p20140, p20141, rfl, p20142, p20143, x20144⟩
      · refine W_cond_f rfl hc20234 ?_
        replace hc20234 := not_true hc20234
        refine W_skip (at_normal ?_)
        have e20247 := Option.some.inj ht20232
        subst t20231
        have hS20248 := ((hS20220).f1).drop
        have hS20249 := ((hS20248).f3).f3
        have hS20250 := (hS20249).f3
        exact ⟨s20135, (PHeap.le_refl _), hS20250, p20138, p20139, p20140, p20141, rfl, p20142, p20143, x20144⟩
    · intro f20251 w20252 hM20253
      obtain ⟨z20229, z20230⟩ := t20231
      replace hm20134 := un2_eq hm20134
      obtain ⟨s20254, l20255, hS20256, p20257, p20258, p20259, p20260, p20261, p20262, p20263, p20264⟩ := hM20253
      refine (at_normal ?_)
      refine W_dl (n0 := 11) (.q 0 (.q 1 (.q 2 (.q 3 (.q 4 (.q 5 (.q 6 (.q 7 (.q 8 (.e 9 [0, 1, 2, 3, 4, 5, 6, 7] (.e 10 [0, 1, 2] .done))))))))))) hmix (by kernel_rfl) (by kernel_rfl) ?_
      have hS20338 := hS20256.drew
      refine DL_q rfl rfl (Exec.move (v := v19670) rfl p20260 ⟨rfl, ?_⟩)
      refine DL_q rfl rfl (Exec.field F101_0 rfl p20261 rfl ⟨rfl, ?_⟩)
      refine DL_q rfl rfl (Exec.load_box ((hS20338).f3) A3 rfl rfl rfl ⟨rfl, ?_⟩)
      refine DL_q rfl rfl (Exec.move (v := v19670) rfl p20260 ⟨rfl, ?_⟩)
      refine DL_q rfl rfl (Exec.field F101_0 rfl p20261 rfl ⟨rfl, ?_⟩)
      refine DL_q rfl rfl (Exec.load_box ((hS20338).f3) A3 rfl rfl rfl ⟨rfl, ?_⟩)
      obtain ⟨row20339, q20340, hm20134⟩ := bind_some hm20134
      obtain ⟨h20341, e20342, e20343, _⟩ := ((((hS20338).f2).f2).f1).rows_at q20340
      obtain ⟨g20344, c20345, e20346⟩ := (((hS20338).f2).f2).arr_at e20342
      refine DL_q rfl rfl (Exec.index_slice S99 rfl e20346 rfl (idx_some e20342).1 (idx_some e20342).2.1 ⟨rfl, ?_⟩)
      refine DL_q rfl rfl (Exec.load_arr (F := encRaw) (((hS20338).f2).f2) e20346 A102 rfl rfl rfl e20342 (Sub.refl _) ?_)
      intro v20347 q20348
      replace q20348 := (encRaw_val.1 q20348).1
      subst v20347
      refine ⟨rfl, ?_⟩
      refine DL_q rfl rfl (Exec.load_box_agg (ds := [Value.int .i64 (z20229), Value.int .i64 (z20230), Value.int .i64 (x20208)]) ((hS20338).f3) A101 rfl p20261 rfl ⟨rfl, ?_⟩)
      refine DL_e rfl rfl (Exec.buildSlice (Te := 101) (cs := [Value.int .i64 (z20229), Value.int .i64 (z20230), Value.int .i64 (x20208)]) hS20338 rfl (parts_cons (c := [Value.int .i64 (z20229), Value.int .i64 (z20230), Value.int .i64 (x20208)]) (cells_of rfl rfl) parts_nil) (fun _ => by kernel_rfl) ?_)
      intro b20349 w20350 hS20351
      refine ⟨(ag_cons (ag_r rfl rfl (Exec.move (v := v19670) rfl p20260 ⟨rfl, rfl⟩)) (ag_cons (ag_r rfl rfl (Exec.field F101_0 rfl p20261 rfl ⟨rfl, rfl⟩)) (ag_cons (ag_r rfl rfl (Exec.load_box ((hS20351).f4) A3 rfl rfl rfl ⟨rfl, rfl⟩)) (ag_cons (ag_r rfl rfl (Exec.move (v := v19670) rfl p20260 ⟨rfl, rfl⟩)) (ag_cons (ag_r rfl rfl (Exec.field F101_0 rfl p20261 rfl ⟨rfl, rfl⟩)) (ag_cons (ag_r rfl rfl (Exec.load_box ((hS20351).f4) A3 rfl rfl rfl ⟨rfl, rfl⟩)) (ag_cons (ag_r rfl rfl (Exec.index_slice S99 rfl e20346 rfl (idx_some e20342).1 (idx_some e20342).2.1 ⟨rfl, rfl⟩)) (ag_cons (ag_r rfl rfl (Exec.load_arr (F := encRaw) (((hS20351).f3).f3) e20346 A102 rfl rfl rfl e20342 (Sub.refl _) (fun _ q => ⟨rfl, (encRaw_val.1 q).1⟩))) ag_nil)))))))), ?_⟩
      have hS20352 := ((((hS20351).f3).f3).f1).rows_split e20343 (idx_some q20340).2.2
      obtain ⟨l20353, q20354, hm20134⟩ := bind_some hm20134
      have hS20355 := (hS20352).f3
      have hS20356 := (hS20355).f1
      refine DL_e rfl rfl (Exec.append_box (E := encArc) (ys := [(⟨z20229, z20230, x20208⟩ : Arc)]) hS20356 S102 Z101 rfl (by decide) rfl rfl rfl rfl ⟨[Value.int .i64 (z20229), Value.int .i64 (z20230), Value.int .i64 (x20208)], [], rfl, ⟨[Value.int .i64 (z20229)], [Value.int .i64 (z20230), Value.int .i64 (x20208)], rfl, rfl, ⟨[Value.int .i64 (z20230)], [Value.int .i64 (x20208)], rfl, rfl, rfl⟩⟩, rfl⟩ rfl q20354 ?_)
      intro v20357 w20358 hS20359
      refine ⟨(ag_cons (ag_r rfl rfl (Exec.move (v := v19670) rfl p20260 ⟨rfl, rfl⟩)) (ag_cons (ag_r rfl rfl (Exec.field F101_0 rfl p20261 rfl ⟨rfl, rfl⟩)) (ag_cons (ag_r rfl rfl (Exec.load_box ((hS20359).f4) A3 rfl rfl rfl ⟨rfl, rfl⟩)) ag_nil))), ?_⟩
      refine DL_done ?_
      refine WL_step rfl rfl (Exec.index_slice S99 rfl e20346 rfl (idx_some e20342).1 (idx_some e20342).2.1 ?_)
      obtain ⟨l20360, q20361, hm20134⟩ := bind_some hm20134
      have hS20362 := ((hS20359).f2).f2
      have hS20363 := (hS20362).f2
      refine WL_step rfl rfl (Exec.store_row hS20363 e20343 e20346 A102 rfl rfl rfl rfl q20361 ?_)
      intro hs20364 w20365 hS20366
      refine WL_nil (ib_normal (at_normal ?_))
      refine W_region ?_
      refine WL_step rfl rfl (Exec.add rfl p20264 rfl ?_)
      refine WL_step rfl rfl (Exec.move (v := Value.int .i64 (IntKind.i64.wrap ((i19674 : Int) + 1))) rfl rfl ?_)
      refine WL_nil (at_normal ?_)
      have e20367 := Option.some.inj hm20134
      subst s20129
      have hS20368 := ((hS20366).f3).drop
      have hS20369 := (hS20368).f2
      exact ⟨s20254, hs20364, (PHeap.le.trans l20136 l20255), hS20369, p20257, p20258, p20259, p20260, p20262, p20263, (Eq.trans rfl (wrap_up hi20132 (SliceRep.le a14543)))⟩
  · intro f20370 w20371 hI20372
    obtain ⟨s20373, hs19899, l20374, hS20375, p20376, p20377, p20378, p20379, p20380, p20381, x20382⟩ := hI20372
    refine W_seq ?_
    refine W_region ?_
    refine WL_step rfl rfl (Exec.lss rfl x20382 p20381 ?_)
    refine WL_nil (at_normal ?_)
    refine W_seq ?_
    refine W_false (congrArg Value.bool (decide_eq_false (by omega))) ?_
    refine W_exit (at_exit (at_exit (ib_here (at_normal ?_))))
    refine W_seq ?_
    refine W_region ?_
    refine WL_step rfl rfl (Exec.field F26_0 rfl p20378 rfl ?_)
    refine WL_step rfl rfl (Exec.load_box (hS20375) A3 rfl rfl rfl ?_)
    obtain ⟨l20388, q20389, hm⟩ := bind_some hm
    refine WL_step rfl rfl (Exec.make (E := (encInt .i64)) hS20375 S22 Z3 rfl rfl rfl rfl q20389 ?_)
    intro v20390 w20391 hS20392
    refine WL_step rfl rfl (Exec.assign (v := v20390) rfl rfl ?_)
    refine WL_nil (at_normal ?_)
    refine W_seq ?_
    refine W_seq ?_
    refine W_region ?_
    refine WL_step rfl rfl (Exec.move (v := v20390) rfl rfl ?_)
    refine WL_step rfl rfl (Exec.len_arr (hS20392) S22 rfl rfl ?_)
    refine WL_step rfl rfl (Exec.move (v := Value.int .i64 (0)) rfl rfl ?_)
    refine WL_nil (at_normal ?_)
    obtain ⟨l20415, hB20438, hm⟩ := bind_some hm
    refine W_block (W_forS (fun k' s' f' w' => (fun (l20415 : (List Int)) => ∃ (s20439 : PHeap) , PHeap.le s20373 s20439 ∧ St w0 s20439 (Res.box b19659 26 [Value.int .i64 (x14539.States), Value.int .i64 (x14539.Init), v14540, v14542, v14544] :: Res.arr encRaw 102 v19670 hs19899 :: Res.rows encArc 101 hs19899 l19898 :: Res.arr (encInt .i64) 3 v20390 l20415 :: H) w' ∧ f' 1 = v14547 ∧ f' 3 = Value.pointer (some ⟨b19659, 0, none⟩) ∧ f' 7 = v19670 ∧ f' 11 = v20390 ∧ f' 65 = Value.int .i64 ((l20388.length : Int)) ∧ f' 66 = Value.int .i64 (k' : Int)) s') hB20438 ?_ ?_ ?_)
    · have hS20440 := ((hS20392).f3).f3
      have hS20441 := (hS20440).f3
      exact ⟨s20373, (PHeap.le_refl _), hS20441, p20376, p20378, p20379, rfl, rfl, rfl⟩
    · intro i20393 l20415 s20443 f20444 w20445 hi20446 hI20447 hm20448
      obtain ⟨s20449, l20450, hS20451, p20452, p20453, p20454, p20455, p20456, x20457⟩ := hI20447
      refine W_seq ?_
      refine W_region ?_
      refine WL_step rfl rfl (Exec.lss rfl x20457 p20456 ?_)
      refine WL_nil (at_normal ?_)
      refine W_seq ?_
      refine W_true (congrArg Value.bool (decide_eq_true (by omega))) ?_
      refine W_skip (at_normal ?_)
      refine W_seq ?_
      refine W_block ?_
      refine W_seq ?_
      refine W_region ?_
      refine WL_step rfl rfl (Exec.move (v := Value.int .i64 ((i20393 : Int))) rfl x20457 ?_)
      refine WL_step rfl rfl (Exec.assign (v := Value.int .i64 ((i20393 : Int))) rfl rfl ?_)
      refine WL_nil (at_normal ?_)
      refine W_region ?_
      refine WL_step rfl rfl (Exec.move (v := v20390) rfl p20455 ?_)
      refine WL_step rfl rfl (Exec.move (v := Value.int .i64 ((i20393 : Int))) rfl rfl ?_)
      obtain ⟨x20468, q20469, hm20448⟩ := bind_some hm20448
      obtain ⟨g20470, c20471, e20472⟩ := ((hS20451).f3).arr_at q20469
      refine WL_step rfl rfl (Exec.index_slice S22 rfl e20472 rfl (idx_some q20469).1 (idx_some q20469).2.1 ?_)
      obtain ⟨l20473, q20474, hm20448⟩ := bind_some hm20448
      have hS20475 := (hS20451).f3
      refine WL_step rfl rfl (Exec.store_arr hS20475 e20472 A3 rfl rfl rfl rfl (encInt_val.2 rfl) q20474 ?_)
      intro w20476 hS20477
      refine WL_nil (ib_normal (at_normal ?_))
      refine W_region ?_
      refine WL_step rfl rfl (Exec.add rfl x20457 rfl ?_)
      refine WL_step rfl rfl (Exec.move (v := Value.int .i64 (IntKind.i64.wrap ((i20393 : Int) + 1))) rfl rfl ?_)
      refine WL_nil (at_normal ?_)
      have e20478 := Option.some.inj hm20448
      subst s20443
      have hS20479 := ((hS20477).f3).f3
      have hS20480 := (hS20479).f3
      exact ⟨s20449, l20450, hS20480, p20452, p20453, p20454, p20455, p20456, (Eq.trans rfl (wrap_up hi20446 (hS20392).arr_le))⟩
    · intro f20481 w20482 hI20483
      obtain ⟨s20484, l20485, hS20486, p20487, p20488, p20489, p20490, p20491, x20492⟩ := hI20483
      refine W_seq ?_
      refine W_region ?_
      refine WL_step rfl rfl (Exec.lss rfl x20492 p20491 ?_)
      refine WL_nil (at_normal ?_)
      refine W_seq ?_
      refine W_false (congrArg Value.bool (decide_eq_false (by omega))) ?_
      refine W_exit (at_exit (at_exit (ib_here (at_normal ?_))))
      refine W_seq ?_
      refine W_region ?_
      refine WL_step rfl rfl (Exec.field F26_0 rfl p20488 rfl ?_)
      refine WL_step rfl rfl (Exec.load_box (hS20486) A3 rfl rfl rfl ?_)
      obtain ⟨l20498, q20499, hm⟩ := bind_some hm
      refine WL_step rfl rfl (Exec.make (E := encBool) hS20486 S24 Z4 rfl rfl rfl rfl q20499 ?_)
      intro v20500 w20501 hS20502
      refine WL_step rfl rfl (Exec.assign (v := v20500) rfl rfl ?_)
      refine WL_nil (at_normal ?_)
      refine W_seq ?_
      refine W_region ?_
      refine WL_step rfl rfl (Exec.move (v := v14547) rfl p20487 ?_)
      obtain ⟨y20514, q20513, hm⟩ := bind_some hm
      refine WL_step rfl rfl (Exec.call rfl rfl Try.func36 rfl N36 (args_cons rfl args_nil) ((slices_Clone___int_int__sim q20513 hS20502 (a14548.mono (PHeap.le.trans l20374 l20485))).mono ?_))
      rintro _ w20515 ⟨v20519, rfl, ⟨s20516, _, l20517, hS20518, rfl⟩⟩
      refine ⟨_, rfl, ?_⟩
      have hS20520 := (hS20518).arr_que
      refine WL_step rfl rfl (Exec.assign (v := v20519) rfl rfl ?_)
      refine WL_nil (at_normal ?_)
      refine W_seq ?_
      refine W_seq ?_
      refine W_region ?_
      refine WL_step rfl rfl (Exec.move (v := v14547) rfl p20487 ?_)
      refine WL_step rfl rfl (Exec.len_rep S22 rfl rfl (a14548.mono (PHeap.le.trans (PHeap.le.trans l20374 l20485) l20517)) ?_)
      refine WL_step rfl rfl (Exec.move (v := Value.int .i64 (0)) rfl rfl ?_)
      refine WL_nil (at_normal ?_)
      obtain ⟨t20636, hB20637, hm⟩ := bind_some hm
      refine W_block (W_forS (fun k' s' f' w' => (un2 fun (l20577 : (List Int)) (l20578 : (List Bool)) => ∃ (s20638 : PHeap) , PHeap.le s20516 s20638 ∧ St w0 s20638 (Res.arr encRaw 102 v19670 hs19899 :: Res.rows encArc 101 hs19899 l19898 :: Res.arr (encInt .i64) 3 v20390 l20577 :: Res.arr encBool 4 v20500 l20578 :: Res.que (encInt .i64) 3 v20519 y20514 :: H) w' ∧ f' 7 = v19670 ∧ f' 11 = v20390 ∧ f' 13 = v20500 ∧ f' 14 = v20519 ∧ f' 78 = v14547 ∧ f' 79 = Value.int .i64 ((from_14546.length : Int)) ∧ f' 80 = Value.int .i64 (k' : Int)) s') hB20637 ?_ ?_ ?_)
      · have hS20639 := ((hS20520).f2).drop
        have hS20640 := (hS20639).f1
        have hS20641 := (hS20640).f4
        have hS20642 := ((hS20641).f4).f4
        exact ⟨s20516, (PHeap.le_refl _), hS20642, p20489, p20490, rfl, rfl, rfl, rfl, rfl⟩
      · intro i20521 t20650 s20644 f20645 w20646 hi20647 hI20648 hm20649
        obtain ⟨l20577, l20578⟩ := t20650
        replace hm20649 := un2_eq hm20649
        obtain ⟨s20651, l20652, hS20653, p20654, p20655, p20656, p20657, p20658, p20659, x20660⟩ := hI20648
        refine W_seq ?_
        refine W_region ?_
        refine WL_step rfl rfl (Exec.lss rfl x20660 p20659 ?_)
        refine WL_nil (at_normal ?_)
        refine W_seq ?_
        refine W_true (congrArg Value.bool (decide_eq_true (by omega))) ?_
        refine W_skip (at_normal ?_)
        refine W_seq ?_
        refine W_block ?_
        refine W_seq ?_
        refine W_region ?_
        obtain ⟨x20668, q20669, hm20649⟩ := bind_some hm20649
        refine WL_step rfl rfl (Exec.index_rep S22 rfl p20658 x20660 (a14548.mono (PHeap.le.trans (PHeap.le.trans (PHeap.le.trans l20374 l20485) l20517) l20652)) q20669 ?_)
        intro b20670 o20671 a20672
        refine WL_step rfl rfl (Exec.load_at (E := (encInt .i64)) hS20653 A3 rfl rfl rfl a20672 ?_)
        intro v20673 q20674
        obtain rfl := encInt_val.1 q20674
        refine WL_step rfl rfl (Exec.assign (v := Value.int .i64 (x20668)) rfl rfl ?_)
        refine WL_nil (at_normal ?_)
        refine W_region ?_
        refine WL_step rfl rfl (Exec.move (v := v20390) rfl p20655 ?_)
        refine WL_step rfl rfl (Exec.move (v := Value.int .i64 (x20668)) rfl rfl ?_)
        refine WL_step rfl rfl (Exec.move (v := v20500) rfl p20656 ?_)
        refine WL_step rfl rfl (Exec.move (v := Value.int .i64 (x20668)) rfl rfl ?_)
        obtain ⟨x20695, q20696, hm20649⟩ := bind_some hm20649
        obtain ⟨g20697, c20698, e20699⟩ := ((hS20653).f2).arr_at q20696
        refine WL_step rfl rfl (Exec.index_slice S22 rfl e20699 rfl (idx_some q20696).1 (idx_some q20696).2.1 ?_)
        obtain ⟨l20700, q20701, hm20649⟩ := bind_some hm20649
        have hS20702 := (hS20653).f2
        refine WL_step rfl rfl (Exec.store_arr hS20702 e20699 A3 rfl rfl rfl rfl (encInt_val.2 rfl) q20701 ?_)
        intro w20703 hS20704
        obtain ⟨x20705, q20706, hm20649⟩ := bind_some hm20649
        obtain ⟨g20707, c20708, e20709⟩ := ((hS20704).f3).arr_at q20706
        refine WL_step rfl rfl (Exec.index_slice S24 rfl e20709 rfl (idx_some q20706).1 (idx_some q20706).2.1 ?_)
        obtain ⟨l20710, q20711, hm20649⟩ := bind_some hm20649
        have hS20712 := (hS20704).f3
        refine WL_step rfl rfl (Exec.store_arr hS20712 e20709 A4 rfl rfl rfl rfl (encBool_val.2 rfl) q20711 ?_)
        intro w20713 hS20714
        refine WL_nil (ib_normal (at_normal ?_))
        refine W_region ?_
        refine WL_step rfl rfl (Exec.add rfl x20660 rfl ?_)
        refine WL_step rfl rfl (Exec.move (v := Value.int .i64 (IntKind.i64.wrap ((i20521 : Int) + 1))) rfl rfl ?_)
        refine WL_nil (at_normal ?_)
        have e20715 := Option.some.inj hm20649
        subst s20644
        have hS20716 := (hS20714).f4
        have hS20717 := (hS20716).f1
        have hS20718 := (hS20717).f2
        have hS20719 := ((hS20718).f4).f4
        exact ⟨s20651, l20652, hS20719, p20654, p20655, p20656, p20657, p20658, p20659, (Eq.trans rfl (wrap_up hi20647 (SliceRep.le (a14548.mono (PHeap.le.trans (PHeap.le.trans l20374 l20485) l20517)))))⟩
      · intro f20720 w20721 hI20722
        obtain ⟨l20577, l20578⟩ := t20636
        replace hm := un2_eq hm
        obtain ⟨s20723, l20724, hS20725, p20726, p20727, p20728, p20729, p20730, p20731, x20732⟩ := hI20722
        refine W_seq ?_
        refine W_region ?_
        refine WL_step rfl rfl (Exec.lss rfl x20732 p20731 ?_)
        refine WL_nil (at_normal ?_)
        refine W_seq ?_
        refine W_false (congrArg Value.bool (decide_eq_false (by omega))) ?_
        refine W_exit (at_exit (at_exit (ib_here (at_normal ?_))))
        refine W_seq ?_
        obtain ⟨c23716, hB23717, hr23718, hn23719, hb23720⟩ := ctl_some hm
        refine W_mid (M := fun f' w' => ∃ s', (c23716 = .next s' ∨ c23716 = .brk s') ∧ (un3 fun (l23712 : (List Int)) (l23713 : (List Bool)) (l23714 : (List Int)) => ∃ (s23722 : PHeap) (v23715 : Value), PHeap.le s20723 s23722 ∧ St w0 s23722 (Res.arr encRaw 102 v19670 hs19899 :: Res.rows encArc 101 hs19899 l19898 :: Res.arr (encInt .i64) 3 v20390 l23712 :: Res.arr encBool 4 v20500 l23713 :: Res.que (encInt .i64) 3 v23715 l23714 :: H) w' ∧ f' 7 = v19670 ∧ f' 11 = v20390 ∧ f' 13 = v20500 ∧ f' 14 = v23715) s') ?_ ?_
        · refine W_block (W_while (fun s' f' w' => (un3 fun (l21723 : (List Int)) (l21724 : (List Bool)) (l21725 : (List Int)) => ∃ (s23721 : PHeap) (v21726 : Value), PHeap.le s20723 s23721 ∧ St w0 s23721 (Res.arr encRaw 102 v19670 hs19899 :: Res.rows encArc 101 hs19899 l19898 :: Res.arr (encInt .i64) 3 v20390 l21723 :: Res.arr encBool 4 v20500 l21724 :: Res.que (encInt .i64) 3 v21726 l21725 :: H) w' ∧ f' 7 = v19670 ∧ f' 11 = v20390 ∧ f' 13 = v20500 ∧ f' 14 = v21726) s') hB23717 ?_ ?_)
          · have hS23723 := (hS20725).f4
            have hS23724 := (hS23723).f4
            have hS23725 := (hS23724).f4
            have hS23726 := ((hS23725).f4).f4
            exact ⟨s20723, v20519, (PHeap.le_refl _), hS23726, p20726, p20727, p20728, p20729⟩
          · intro t23734 c23728 f23729 w23730 hI23731 hm23732 hres23733
            obtain ⟨l21723, l21724, l21725⟩ := t23734
            replace hm23732 := un3_eq hm23732
            obtain ⟨s23735, v21726, l23736, hS23737, p23738, p23739, p23740, p23741⟩ := hI23731
            refine W_seq ?_
            refine W_seq ?_
            refine W_region ?_
            refine WL_step rfl rfl (Exec.move (v := v21726) rfl p23741 ?_)
            refine WL_step rfl rfl (Exec.len_que ((hS23737).f4) S22 rfl rfl ?_)
            refine WL_step rfl rfl (Exec.gtr rfl rfl rfl ?_)
            refine WL_nil (at_normal ?_)
            rcases ite_some hm23732 with ⟨hc23742, hm23732⟩ | ⟨hc23742, hm23732⟩
            · refine W_cond_t rfl hc23742 ?_
              refine W_skip (at_normal ?_)
              refine W_block ?_
              refine W_seq ?_
              refine W_region ?_
              refine WL_step rfl rfl (Exec.move (v := v21726) rfl p23741 ?_)
              obtain ⟨x23750, q23751, hm23732⟩ := bind_some hm23732
              refine WL_step rfl rfl (Exec.index_que ((hS23737).f4) S22 rfl rfl rfl q23751 ?_)
              intro b23752 o23753 a23754
              refine WL_step rfl rfl (Exec.load_cur (E := (encInt .i64)) a23754 A3 rfl rfl ?_)
              intro v23755 q23756
              obtain rfl := encInt_val.1 q23756
              refine WL_step rfl rfl (Exec.assign (v := Value.int .i64 (x23750)) rfl rfl ?_)
              refine WL_nil (at_normal ?_)
              refine W_seq ?_
              refine W_region ?_
              refine WL_step rfl rfl (Exec.move (v := v20500) rfl p23740 ?_)
              refine WL_step rfl rfl (Exec.move (v := Value.int .i64 (x23750)) rfl rfl ?_)
              refine WL_step rfl rfl (Exec.move (v := v21726) rfl p23741 ?_)
              obtain ⟨c23772, q23773, hm23732⟩ := bind_some hm23732
              have hS23774 := (hS23737).f4
              refine WL_step rfl rfl (Exec.slice_que hS23774 S22 rfl rfl rfl q23773 ?_)
              intro v23775 hS23776
              refine WL_step rfl rfl (Exec.assign (v := v23775) rfl rfl ?_)
              obtain ⟨x23777, q23778, hm23732⟩ := bind_some hm23732
              obtain ⟨g23779, c23780, e23781⟩ := ((hS23776).f4).arr_at q23778
              refine WL_step rfl rfl (Exec.index_slice S24 rfl e23781 rfl (idx_some q23778).1 (idx_some q23778).2.1 ?_)
              obtain ⟨l23782, q23783, hm23732⟩ := bind_some hm23732
              have hS23784 := (hS23776).f4
              refine WL_step rfl rfl (Exec.store_arr hS23784 e23781 A4 rfl rfl rfl rfl (encBool_val.2 rfl) q23783 ?_)
              intro w23785 hS23786
              refine WL_nil (at_normal ?_)
              refine W_seq ?_
              refine W_region ?_
              refine WL_step rfl rfl (Exec.move (v := v19670) rfl p23738 ?_)
              refine WL_step rfl rfl (Exec.move (v := Value.int .i64 (x23750)) rfl rfl ?_)
              obtain ⟨row23797, q23798, hm23732⟩ := bind_some hm23732
              obtain ⟨h23799, e23800, e23801, _⟩ := ((((hS23786).f3).f3).f1).rows_at q23798
              obtain ⟨g23802, c23803, e23804⟩ := (((hS23786).f3).f3).arr_at e23800
              refine WL_step rfl rfl (Exec.index_slice S99 rfl e23804 rfl (idx_some e23800).1 (idx_some e23800).2.1 ?_)
              refine WL_step rfl rfl (Exec.load_arr (F := encRaw) (((hS23786).f3).f3) e23804 A102 rfl rfl rfl e23800 (Sub.refl _) ?_)
              intro v23805 q23806
              replace q23806 := (encRaw_val.1 q23806).1
              subst v23805
              refine WL_step rfl rfl (Exec.len_arr (((((hS23786).f3).f3).f1).rows_split e23801 (idx_some q23798).2.2) S102 rfl rfl ?_)
              refine WL_step rfl rfl (Exec.move (v := Value.int .i64 (0)) rfl rfl ?_)
              refine WL_nil (at_normal ?_)
              obtain ⟨u23807, q23808, hm23732⟩ := bind_some hm23732
              obtain ⟨t24396, hB24397, hm23732⟩ := bind_some hm23732
              refine W_block (W_forS (fun k' s' f' w' => (un3 fun (l24099 : (List Int)) (l24100 : (List Bool)) (l24101 : (List Int)) => ∃ (s24398 : PHeap) (v24102 : Value), PHeap.le s23735 s24398 ∧ St w0 s24398 (Res.arr encRaw 102 v19670 hs19899 :: Res.rows encArc 101 hs19899 l19898 :: Res.arr (encInt .i64) 3 v20390 l24099 :: Res.arr encBool 4 v20500 l24100 :: Res.que (encInt .i64) 3 v24102 l24101 :: H) w' ∧ f' 7 = v19670 ∧ f' 11 = v20390 ∧ f' 13 = v20500 ∧ f' 14 = v24102 ∧ f' 17 = Value.int .i64 (x23750) ∧ f' 105 = h23799 ∧ f' 106 = Value.int .i64 ((row23797.length : Int)) ∧ f' 107 = Value.int .i64 (k' : Int)) s') hB24397 ?_ ?_ ?_)
              · have hS24399 := (hS23786).f1
                have hS24400 := (hS24399).f1
                have hS24401 := (hS24400).f4
                have hS24402 := ((hS24401).f4).f4
                exact ⟨s23735, v23775, (PHeap.le_refl _), hS24402, p23738, p23739, p23740, rfl, rfl, rfl, rfl, rfl⟩
              · intro i23809 t24410 s24404 f24405 w24406 hi24407 hI24408 hm24409
                obtain ⟨l24099, l24100, l24101⟩ := t24410
                replace hm24409 := un3_eq hm24409
                obtain ⟨s24411, v24102, l24412, hS24413, p24414, p24415, p24416, p24417, p24418, p24419, p24420, x24421⟩ := hI24408
                refine W_seq ?_
                refine W_region ?_
                refine WL_step rfl rfl (Exec.lss rfl x24421 p24420 ?_)
                refine WL_nil (at_normal ?_)
                refine W_seq ?_
                refine W_true (congrArg Value.bool (decide_eq_true (by omega))) ?_
                refine W_skip (at_normal ?_)
                refine W_seq ?_
                refine W_block ?_
                refine W_seq ?_
                refine W_region ?_
                obtain ⟨x24434, q24435, hm24409⟩ := bind_some hm24409
                obtain ⟨g24436, c24437, e24438⟩ := (((hS24413).f1).rows_split e23801 (idx_some q23798).2.2).arr_at q24435
                refine WL_step rfl rfl (Exec.index_slice S102 rfl (Eq.trans p24419 e24438) x24421 (idx_some q24435).1 (idx_some q24435).2.1 ?_)
                refine WL_step rfl rfl (Exec.load_arr (F := encArc) (((hS24413).f1).rows_split e23801 (idx_some q23798).2.2) e24438 A101 rfl rfl rfl q24435 (Sub.refl _) ?_)
                intro v24439 q24440
                obtain rfl := encArc_val.1 q24440
                refine WL_step rfl rfl (Exec.alloc (cs := [Value.int .i64 (0), Value.int .i64 (0), Value.int .i64 (0)]) hS24413 Z101 rfl rfl ?_)
                intro b24441 w24442 hS24443
                refine WL_step rfl rfl (Exec.store_box (ds := [Value.int .i64 (x24434.From), Value.int .i64 (x24434.To), Value.int .i64 (x24434.Weight)]) (es := [Value.int .i64 (x24434.From), Value.int .i64 (x24434.To), Value.int .i64 (x24434.Weight)]) hS24443 A101 rfl rfl rfl rfl (one_cons rfl (one_cons rfl (one_cons rfl one_nil))) (Nat.le_of_ble_eq_true rfl) rfl ?_)
                intro w24444 hS24445
                refine WL_nil (at_normal ?_)
                refine W_seq ?_
                refine W_seq ?_
                refine W_dl (n0 := 13) (.q 0 (.q 1 (.q 2 (.q 3 (.q 4 (.q 5 (.q 6 (.q 7 (.q 8 (.q 9 (.q 10 (.q 11 (.q 12 .done))))))))))))) hmix (by kernel_rfl) (by kernel_rfl) ?_
                have hS24491 := hS24445.drew
                refine DL_q rfl rfl (Exec.move (v := v20390) rfl p24415 ⟨rfl, ?_⟩)
                refine DL_q rfl rfl (Exec.move (v := Value.int .i64 (x23750)) rfl p24418 ⟨rfl, ?_⟩)
                obtain ⟨x24492, q24493, hm24409⟩ := bind_some hm24409
                obtain ⟨g24494, c24495, e24496⟩ := ((hS24491).f3).arr_at q24493
                refine DL_q rfl rfl (Exec.index_slice S22 rfl e24496 rfl (idx_some q24493).1 (idx_some q24493).2.1 ⟨rfl, ?_⟩)
                refine DL_q rfl rfl (Exec.load_arr (F := (encInt .i64)) ((hS24491).f3) e24496 A3 rfl rfl rfl q24493 (Sub.refl _) ?_)
                intro v24497 q24498
                obtain rfl := encInt_val.1 q24498
                refine ⟨rfl, ?_⟩
                refine DL_q rfl rfl (Exec.field F101_2 rfl rfl rfl ⟨rfl, ?_⟩)
                refine DL_q rfl rfl (Exec.load_box (hS24491) A3 rfl rfl rfl ⟨rfl, ?_⟩)
                refine DL_q rfl rfl (Exec.add rfl rfl rfl ⟨rfl, ?_⟩)
                refine DL_q rfl rfl (Exec.move (v := v20390) rfl p24415 ⟨rfl, ?_⟩)
                refine DL_q rfl rfl (Exec.field F101_1 rfl rfl rfl ⟨rfl, ?_⟩)
                refine DL_q rfl rfl (Exec.load_box (hS24491) A3 rfl rfl rfl ⟨rfl, ?_⟩)
                obtain ⟨x24499, q24500, hm24409⟩ := bind_some hm24409
                obtain ⟨g24501, c24502, e24503⟩ := ((hS24491).f3).arr_at q24500
                refine DL_q rfl rfl (Exec.index_slice S22 rfl e24503 rfl (idx_some q24500).1 (idx_some q24500).2.1 ⟨rfl, ?_⟩)
                refine DL_q rfl rfl (Exec.load_arr (F := (encInt .i64)) ((hS24491).f3) e24503 A3 rfl rfl rfl q24500 (Sub.refl _) ?_)
                intro v24504 q24505
                obtain rfl := encInt_val.1 q24505
                refine ⟨rfl, ?_⟩
                refine DL_q rfl rfl (Exec.geq rfl rfl rfl ⟨rfl, ?_⟩)
                refine DL_done ?_
                refine WL_nil (at_normal ?_)
                rcases ite_some hm24409 with ⟨hc24506, hm24409⟩ | ⟨hc24506, hm24409⟩
                · refine W_cond_t rfl hc24506 ?_
                  refine W_exit (at_exit (ib_here (at_normal ?_)))
                  refine W_region ?_
                  refine WL_step rfl rfl (Exec.add rfl x24421 rfl ?_)
                  refine WL_step rfl rfl (Exec.move (v := Value.int .i64 (IntKind.i64.wrap ((i23809 : Int) + 1))) rfl rfl ?_)
                  refine WL_nil (at_normal ?_)
                  have e24507 := Option.some.inj hm24409
                  subst s24404
                  have hS24508 := (hS24491).drop
                  have hS24509 := (hS24508).f4
                  have hS24510 := (hS24509).f4
                  have hS24511 := (hS24510).f4
                  have hS24512 := ((hS24511).f4).f4
                  exact ⟨s24411, v24102, l24412, hS24512, p24414, p24415, p24416, p24417, p24418, p24419, p24420, (Eq.trans rfl (wrap_up hi24407 (by have h := must_some q23808; simpa [maxLen] using h)))⟩
                · refine W_cond_f rfl hc24506 ?_
                  replace hc24506 := not_true hc24506
                  refine W_skip (at_normal ?_)
                  refine W_seq ?_
                  refine W_dl (n0 := 10) (.q 0 (.q 1 (.q 2 (.q 3 (.q 4 (.q 5 (.q 6 (.q 7 (.q 8 (.q 9 .done)))))))))) hmix (by kernel_rfl) (by kernel_rfl) ?_
                  have hS24539 := hS24491.drew
                  refine DL_q rfl rfl (Exec.move (v := v20390) rfl p24415 ⟨rfl, ?_⟩)
                  refine DL_q rfl rfl (Exec.field F101_1 rfl rfl rfl ⟨rfl, ?_⟩)
                  refine DL_q rfl rfl (Exec.load_box (hS24539) A3 rfl rfl rfl ⟨rfl, ?_⟩)
                  refine DL_q rfl rfl (Exec.move (v := v20390) rfl p24415 ⟨rfl, ?_⟩)
                  refine DL_q rfl rfl (Exec.move (v := Value.int .i64 (x23750)) rfl p24418 ⟨rfl, ?_⟩)
                  obtain ⟨g24540, c24541, e24542⟩ := ((hS24539).f3).arr_at q24493
                  refine DL_q rfl rfl (Exec.index_slice S22 rfl e24542 rfl (idx_some q24493).1 (idx_some q24493).2.1 ⟨rfl, ?_⟩)
                  refine DL_q rfl rfl (Exec.load_arr (F := (encInt .i64)) ((hS24539).f3) e24542 A3 rfl rfl rfl q24493 (Sub.refl _) ?_)
                  intro v24543 q24544
                  obtain rfl := encInt_val.1 q24544
                  refine ⟨rfl, ?_⟩
                  refine DL_q rfl rfl (Exec.field F101_2 rfl rfl rfl ⟨rfl, ?_⟩)
                  refine DL_q rfl rfl (Exec.load_box (hS24539) A3 rfl rfl rfl ⟨rfl, ?_⟩)
                  refine DL_q rfl rfl (Exec.add rfl rfl rfl ⟨rfl, ?_⟩)
                  refine DL_done ?_
                  obtain ⟨g24545, c24546, e24547⟩ := ((hS24539).f3).arr_at q24500
                  refine WL_step rfl rfl (Exec.index_slice S22 rfl e24547 rfl (idx_some q24500).1 (idx_some q24500).2.1 ?_)
                  obtain ⟨l24548, q24549, hm24409⟩ := bind_some hm24409
                  have hS24550 := (hS24539).f3
                  refine WL_step rfl rfl (Exec.store_arr hS24550 e24547 A3 rfl rfl rfl rfl (encInt_val.2 rfl) q24549 ?_)
                  intro w24551 hS24552
                  refine WL_nil (at_normal ?_)
                  refine W_seq ?_
                  refine W_region ?_
                  refine WL_step rfl rfl (Exec.move (v := v20500) rfl p24416 ?_)
                  refine WL_step rfl rfl (Exec.field F101_1 rfl rfl rfl ?_)
                  refine WL_step rfl rfl (Exec.load_box ((hS24552).f1) A3 rfl rfl rfl ?_)
                  obtain ⟨x24560, q24561, hm24409⟩ := bind_some hm24409
                  obtain ⟨g24562, c24563, e24564⟩ := ((hS24552).f4).arr_at q24561
                  refine WL_step rfl rfl (Exec.index_slice S24 rfl e24564 rfl (idx_some q24561).1 (idx_some q24561).2.1 ?_)
                  refine WL_step rfl rfl (Exec.load_arr (F := encBool) ((hS24552).f4) e24564 A4 rfl rfl rfl q24561 (Sub.refl _) ?_)
                  intro v24565 q24566
                  obtain rfl := encBool_val.1 q24566
                  refine WL_step rfl rfl (Exec.not rfl rfl ?_)
                  refine WL_nil (at_normal ?_)
                  obtain ⟨t24626, ht24627, hm24409⟩ := bind_some hm24409
                  refine W_mid (M := fun f' w' => (un2 fun (l24623 : (List Bool)) (l24624 : (List Int)) => ∃ (s24628 : PHeap) (v24625 : Value), PHeap.le s24411 s24628 ∧ St w0 s24628 (Res.arr encRaw 102 v19670 hs19899 :: Res.rows encArc 101 hs19899 l19898 :: Res.arr (encInt .i64) 3 v20390 l24548 :: Res.arr encBool 4 v20500 l24623 :: Res.que (encInt .i64) 3 v24625 l24624 :: H) w' ∧ f' 7 = v19670 ∧ f' 11 = v20390 ∧ f' 13 = v20500 ∧ f' 14 = v24625 ∧ f' 17 = Value.int .i64 (x23750) ∧ f' 105 = h23799 ∧ f' 106 = Value.int .i64 ((row23797.length : Int)) ∧ f' 107 = Value.int .i64 ((i23809 : Int))) t24626) ?_ ?_
                  · rcases ite_some ht24627 with ⟨hc24629, ht24627⟩ | ⟨hc24629, ht24627⟩
                    · refine W_cond_t rfl hc24629 ?_
                      refine W_dl (n0 := 9) (.q 0 (.q 1 (.q 2 (.q 3 (.q 4 (.q 5 (.e 6 [0, 1, 2, 3] (.e 7 [0, 1, 2] (.e 8 [0, 1, 2] .done))))))))) hmix (by kernel_rfl) (by kernel_rfl) ?_
                      have hS24668 := hS24552.drew
                      refine DL_q rfl rfl (Exec.move (v := v20500) rfl p24416 ⟨rfl, ?_⟩)
                      refine DL_q rfl rfl (Exec.field F101_1 rfl rfl rfl ⟨rfl, ?_⟩)
                      refine DL_q rfl rfl (Exec.load_box ((hS24668).f1) A3 rfl rfl rfl ⟨rfl, ?_⟩)
                      refine DL_q rfl rfl (Exec.move (v := v24102) rfl p24417 ⟨rfl, ?_⟩)
                      refine DL_q rfl rfl (Exec.field F101_1 rfl rfl rfl ⟨rfl, ?_⟩)
                      refine DL_q rfl rfl (Exec.load_box ((hS24668).f1) A3 rfl rfl rfl ⟨rfl, ?_⟩)
                      refine DL_e rfl rfl (Exec.buildSlice (Te := 3) (cs := [Value.int .i64 (x24434.To)]) hS24668 rfl (parts_cons (c := [Value.int .i64 (x24434.To)]) (cells_of rfl rfl) parts_nil) (fun _ => by kernel_rfl) ?_)
                      intro b24669 w24670 hS24671
                      refine ⟨(ag_cons (ag_r rfl rfl (Exec.move (v := v20500) rfl p24416 ⟨rfl, rfl⟩)) (ag_cons (ag_r rfl rfl (Exec.field F101_1 rfl rfl rfl ⟨rfl, rfl⟩)) (ag_cons (ag_r rfl rfl (Exec.load_box ((hS24671).f2) A3 rfl rfl rfl ⟨rfl, rfl⟩)) (ag_cons (ag_r rfl rfl (Exec.move (v := v24102) rfl p24417 ⟨rfl, rfl⟩)) ag_nil)))), ?_⟩
                      obtain ⟨l24672, q24673, ht24627⟩ := bind_some ht24627
                      have hS24674 := (hS24671).f6
                      refine DL_e rfl rfl (Exec.append_que (E := (encInt .i64)) (ys := [x24434.To]) hS24674 S22 Z3 rfl (by decide) rfl rfl rfl rfl ⟨[Value.int .i64 (x24434.To)], [], rfl, rfl, rfl⟩ rfl q24673 ?_)
                      intro v24675 w24676 hS24677
                      refine ⟨(ag_cons (ag_r rfl rfl (Exec.move (v := v20500) rfl p24416 ⟨rfl, rfl⟩)) (ag_cons (ag_r rfl rfl (Exec.field F101_1 rfl rfl rfl ⟨rfl, rfl⟩)) (ag_cons (ag_r rfl rfl (Exec.load_box ((hS24677).f2) A3 rfl rfl rfl ⟨rfl, rfl⟩)) ag_nil))), ?_⟩
                      refine DL_e rfl rfl (Exec.assign (v := v24675) rfl rfl ?_)
                      refine ⟨(ag_cons (ag_r rfl rfl (Exec.move (v := v20500) rfl p24416 ⟨rfl, rfl⟩)) (ag_cons (ag_r rfl rfl (Exec.field F101_1 rfl rfl rfl ⟨rfl, rfl⟩)) (ag_cons (ag_r rfl rfl (Exec.load_box ((hS24677).f2) A3 rfl rfl rfl ⟨rfl, rfl⟩)) ag_nil))), ?_⟩
                      refine DL_done ?_
                      obtain ⟨g24678, c24679, e24680⟩ := ((hS24677).f5).arr_at q24561
                      refine WL_step rfl rfl (Exec.index_slice S24 rfl e24680 rfl (idx_some q24561).1 (idx_some q24561).2.1 ?_)
                      obtain ⟨l24681, q24682, ht24627⟩ := bind_some ht24627
                      have hS24683 := (hS24677).f5
                      refine WL_step rfl rfl (Exec.store_arr hS24683 e24680 A4 rfl rfl rfl rfl (encBool_val.2 rfl) q24682 ?_)
                      intro w24684 hS24685
                      refine WL_nil (at_normal ?_)
                      have e24686 := Option.some.inj ht24627
                      subst t24626
                      have hS24687 := ((hS24685).f3).drop
                      have hS24688 := (hS24687).f1
                      have hS24689 := (hS24688).f1
                      have hS24690 := (hS24689).f2
                      have hS24691 := ((hS24690).f4).f4
                      exact ⟨s24411, v24675, (PHeap.le_refl _), hS24691, p24414, p24415, p24416, rfl, p24418, p24419, p24420, x24421⟩
                    · refine W_cond_f rfl hc24629 ?_
                      replace hc24629 := not_true hc24629
                      refine W_skip (at_normal ?_)
                      have e24692 := Option.some.inj ht24627
                      subst t24626
                      have hS24693 := ((hS24552).f1).drop
                      have hS24694 := (hS24693).f4
                      have hS24695 := (hS24694).f4
                      have hS24696 := (hS24695).f2
                      have hS24697 := ((hS24696).f4).f4
                      exact ⟨s24411, v24102, (PHeap.le_refl _), hS24697, p24414, p24415, p24416, p24417, p24418, p24419, p24420, x24421⟩
                  · intro f24698 w24699 hM24700
                    obtain ⟨l24623, l24624⟩ := t24626
                    replace hm24409 := un2_eq hm24409
                    obtain ⟨s24701, v24625, l24702, hS24703, p24704, p24705, p24706, p24707, p24708, p24709, p24710, p24711⟩ := hM24700
                    refine (ib_normal (at_normal ?_))
                    refine W_region ?_
                    refine WL_step rfl rfl (Exec.add rfl p24711 rfl ?_)
                    refine WL_step rfl rfl (Exec.move (v := Value.int .i64 (IntKind.i64.wrap ((i23809 : Int) + 1))) rfl rfl ?_)
                    refine WL_nil (at_normal ?_)
                    have e24712 := Option.some.inj hm24409
                    subst s24404
                    have hS24713 := (hS24703).f4
                    have hS24714 := (hS24713).f4
                    have hS24715 := (hS24714).f4
                    have hS24716 := ((hS24715).f4).f4
                    exact ⟨s24701, v24625, (PHeap.le.trans l24412 l24702), hS24716, p24704, p24705, p24706, p24707, p24708, p24709, p24710, (Eq.trans rfl (wrap_up hi24407 (by have h := must_some q23808; simpa [maxLen] using h)))⟩
              · intro f24717 w24718 hI24719
                obtain ⟨l24099, l24100, l24101⟩ := t24396
                replace hm23732 := un3_eq hm23732
                obtain ⟨s24720, v24102, l24721, hS24722, p24723, p24724, p24725, p24726, p24727, p24728, p24729, x24730⟩ := hI24719
                refine W_seq ?_
                refine W_region ?_
                refine WL_step rfl rfl (Exec.lss rfl x24730 p24729 ?_)
                refine WL_nil (at_normal ?_)
                refine W_seq ?_
                refine W_false (congrArg Value.bool (decide_eq_false (by omega))) ?_
                refine W_exit (at_exit (at_exit (ib_here (ib_normal (at_normal ?_)))))
                have e24731 := Option.some.inj hm23732
                subst c23728
                have hS24732 := (hS24722).f4
                have hS24733 := (hS24732).f4
                have hS24734 := (hS24733).f4
                have hS24735 := ((hS24734).f4).f4
                refine ⟨_, rfl, ?_⟩; exact ⟨s24720, v24102, (PHeap.le.trans l23736 l24721), hS24735, p24723, p24724, p24725, p24726⟩
            · refine W_cond_f rfl hc23742 ?_
              replace hc23742 := not_true hc23742
              refine W_exit (at_exit (at_exit (ib_here (at_normal ?_))))
              have e24736 := Option.some.inj hm23732
              subst c23728
              have hS24737 := (hS23737).f4
              have hS24738 := (hS24737).f4
              have hS24739 := (hS24738).f4
              have hS24740 := ((hS24739).f4).f4
              refine ⟨_, .inr (hres23733 (by intro _ h; cases h)), ?_⟩; exact ⟨s23735, v21726, l23736, hS24740, p23738, p23739, p23740, p23741⟩
        · rintro f24741 w24742 ⟨t24743, hc24744, hM24745⟩
          have hm := hc24744.elim (hn23719 _) (hb23720 _)
          clear hc24744
          obtain ⟨l23712, l23713, l23714⟩ := t24743
          replace hm := un3_eq hm
          obtain ⟨s24746, v23715, l24747, hS24748, p24749, p24750, p24751, p24752⟩ := hM24745
          refine (at_normal ?_)
          refine W_seq ?_
          refine W_region ?_
          refine WL_step rfl rfl (Exec.move (v := v20390) rfl p24750 ?_)
          refine WL_step rfl rfl (Exec.assign (v := v20390) rfl rfl ?_)
          refine WL_nil (at_normal ?_)
          refine W_ret ?_
          have e24754 := Option.some.inj hm
          subst r
          refine ⟨_, ret1 rfl, ?_⟩
          have hS24755 := (hS24748).f2
          obtain ⟨s24756, l24757, hS24758, r24759⟩ := hS24755.freezeArr
          have hS24760 := ((hS24758).drop).drop
          have hS24761 := (hS24760).drop
          have hS24762 := (hS24761).drop
          exact ⟨s24756, v20390, (PHeap.le.trans (PHeap.le.trans (PHeap.le.trans (PHeap.le.trans (PHeap.le.trans l20374 l20485) l20517) l20724) l24747) l24757), hS24762, rfl, r24759⟩

theorem N18 : (Try.f18.name == "runtime.NumGoroutine") = false := by kernel_rfl

theorem transys_Distances_sim {w0 w : World} {s : PHeap} {H : List Res} {x13976 : System} {v13977 : Value} {v13979 : Value} {v13981 : Value} {r : (List Int) × (Option Int)} (hm : transys_Distances_p x13976 = some r) (hS : St w0 s (H) w) (a13978 : SliceRep (encInt .i64) s v13977 x13976.Costs) (a13980 : SliceRep encEdge s v13979 x13976.Edges) (a13982 : SliceRep encBool s v13981 x13976.Goals) :
    Calls Try.prog 18 #[Value.agg #[Value.int .i64 (x13976.States), Value.int .i64 (x13976.Init), v13977, v13979, v13981]] w fun e w' => ∃ v, e = .returned v ∧ ((un2 fun (y24830 : (List Int)) (y24831 : (Option Int)) => ∃ (s24833 : PHeap) (v24832 : Value), PHeap.le s s24833 ∧ St w0 s24833 (H) w' ∧ v = Value.tuple #[v24832, errV 39 (y24831)] ∧ SliceRep (encInt .i64) s24833 v24832 y24830) r) := by
  unfold transys_Distances_p at hm
  refine calls_of_W Try.func18 rfl rfl ?_
  refine W_seq ?_
  refine W_region ?_
  refine WL_step rfl rfl (Exec.box (cs := [Value.int .i64 (x13976.States), Value.int .i64 (x13976.Init), v13977, v13979, v13981]) hS rfl rfl rfl ?_)
  intro b24837 w24838 hS24839
  refine WL_step rfl rfl (Exec.assign (v := Value.slice none 0 0) rfl rfl ?_)
  refine WL_step rfl rfl (Exec.assign (v := errV 39 (none)) rfl rfl ?_)
  refine WL_nil (at_normal ?_)
  refine W_seq ?_
  refine W_seq ?_
  refine W_region ?_
  refine WL_step rfl rfl (Exec.load_box_agg (ds := [Value.int .i64 (x13976.States), Value.int .i64 (x13976.Init), v13977, v13979, v13981]) (hS24839) A26 rfl rfl rfl ?_)
  obtain ⟨y24849, q24848, hm⟩ := bind_some hm
  refine WL_step rfl rfl (Exec.call rfl rfl Try.func25 rfl N25 (args_cons rfl args_nil) ((transys_Valid_sim q24848 hS24839 a13978 a13980 a13982).mono ?_))
  rintro _ w24850 ⟨_, rfl, ⟨s24851, l24852, hS24853, rfl⟩⟩
  refine ⟨_, rfl, ?_⟩
  refine WL_step rfl rfl (Exec.not rfl rfl ?_)
  refine WL_nil (at_normal ?_)
  rcases ite_some hm with ⟨hc24854, hm⟩ | ⟨hc24854, hm⟩
  · refine W_cond_t rfl hc24854 ?_
    refine W_seq ?_
    refine W_region ?_
    refine WL_step rfl rfl (Exec.makeInterface C39 rfl rfl ?_)
    refine WL_step rfl rfl (Exec.assign (v := Value.slice none 0 0) rfl rfl ?_)
    refine WL_step rfl rfl (Exec.assign (v := errV 39 (some 2)) rfl rfl ?_)
    refine WL_nil (at_normal ?_)
    refine W_ret (at_ret ?_)
    have e24856 := Option.some.inj hm
    subst r
    refine ⟨_, ret2 rfl, ?_⟩
    have hS24857 := (hS24853).drop
    exact ⟨s24851, (Value.slice none 0 0), l24852, hS24857, (tup2 rfl rfl), (SliceRep.nil _ _)⟩
  · refine W_cond_f rfl hc24854 ?_
    replace hc24854 := not_true hc24854
    refine W_skip (at_normal ?_)
    refine W_seq ?_
    refine W_dl (n0 := 4) (.q 0 (.q 1 (.e 2 [0] (.e 3 [] .done)))) hmix (by kernel_rfl) (by kernel_rfl) ?_
    have hS24915 := hS24853.drew
    refine DL_q rfl rfl (Exec.load_box_agg (ds := [Value.int .i64 (x13976.States), Value.int .i64 (x13976.Init), v13977, v13979, v13981]) (hS24915) A26 rfl rfl rfl ⟨rfl, ?_⟩)
    refine DL_q rfl rfl (Exec.load_box_agg (ds := [Value.int .i64 (x13976.States), Value.int .i64 (x13976.Init), v13977, v13979, v13981]) (hS24915) A26 rfl rfl rfl ⟨rfl, ?_⟩)
    obtain ⟨y24918, q24917, hm⟩ := bind_some hm
    refine DL_e rfl rfl (Exec.call rfl rfl Try.func43 rfl N43 (args_cons rfl args_nil) ((transys_goals_sim q24917 hS24915 (a13978.mono l24852) (a13980.mono l24852) (a13982.mono l24852)).mono ?_))
    rintro _ w24919 ⟨v24923, rfl, ⟨s24920, _, l24921, hS24922, rfl, r24924⟩⟩
    refine ⟨_, rfl, ?_⟩
    refine ⟨(ag_cons (ag_r rfl rfl (Exec.load_box_agg (ds := [Value.int .i64 (x13976.States), Value.int .i64 (x13976.Init), v13977, v13979, v13981]) (hS24922) A26 rfl rfl rfl ⟨rfl, rfl⟩)) ag_nil), ?_⟩
    obtain ⟨y24927, q24926, hm⟩ := bind_some hm
    refine DL_e rfl rfl (Exec.call rfl rfl Try.func42 rfl N42 (args_cons rfl (args_cons rfl (args_cons rfl args_nil))) ((transys_shortest_sim q24926 hS24922 (a13978.mono (PHeap.le.trans l24852 l24921)) (a13980.mono (PHeap.le.trans l24852 l24921)) (a13982.mono (PHeap.le.trans l24852 l24921)) r24924).mono ?_))
    rintro _ w24928 ⟨v24932, rfl, ⟨s24929, _, l24930, hS24931, rfl, r24933⟩⟩
    refine ⟨_, rfl, ?_⟩
    refine ⟨ag_nil, ?_⟩
    refine DL_done ?_
    refine WL_step rfl rfl (Exec.assign (v := v24932) rfl rfl ?_)
    refine WL_step rfl rfl (Exec.assign (v := errV 39 (none)) rfl rfl ?_)
    refine WL_nil (at_normal ?_)
    refine W_ret ?_
    have e24935 := Option.some.inj hm
    subst r
    refine ⟨_, ret2 rfl, ?_⟩
    have hS24936 := (hS24931).drop
    exact ⟨s24929, v24932, (PHeap.le.trans (PHeap.le.trans l24852 l24921) l24930), hS24936, (tup2 rfl rfl), r24933⟩

theorem N20 : (Try.f20.name == "runtime.NumGoroutine") = false := by kernel_rfl

theorem base_Ints_sim {w0 w : World} {s : PHeap} {H : List Res} {a24966 : (List Int)} {b24969 : (List Int)} {v24967 : Value} {v24970 : Value} {r : Bool} (hm : base_Ints_p a24966 b24969 = some r) (hS : St w0 s (H) w) (a24968 : SliceRep (encInt .i64) s v24967 a24966) (a24971 : SliceRep (encInt .i64) s v24970 b24969) :
    Calls Try.prog 20 #[v24967, v24970] w fun e w' => ∃ v, e = .returned v ∧ ((fun (y25231 : Bool) => ∃ (s25232 : PHeap) , PHeap.le s s25232 ∧ St w0 s25232 (H) w' ∧ v = Value.bool (y25231)) r) := by
  unfold base_Ints_p at hm
  refine calls_of_W Try.func20 rfl rfl ?_
  refine W_seq ?_
  refine W_region ?_
  refine WL_step rfl rfl (Exec.assign (v := Value.bool (false)) rfl rfl ?_)
  refine WL_nil (at_normal ?_)
  refine W_seq ?_
  refine W_seq ?_
  refine W_region ?_
  refine WL_step rfl rfl (Exec.move (v := v24967) rfl rfl ?_)
  refine WL_step rfl rfl (Exec.len_rep S22 rfl rfl a24968 ?_)
  refine WL_step rfl rfl (Exec.move (v := v24970) rfl rfl ?_)
  refine WL_step rfl rfl (Exec.len_rep S22 rfl rfl a24971 ?_)
  refine WL_step rfl rfl (Exec.neq rfl rfl rfl ?_)
  refine WL_nil (at_normal ?_)
  rcases ite_some hm with ⟨hc25233, hm⟩ | ⟨hc25233, hm⟩
  · refine W_cond_t rfl hc25233 ?_
    refine W_seq ?_
    refine W_region ?_
    refine WL_step rfl rfl (Exec.assign (v := Value.bool (false)) rfl rfl ?_)
    refine WL_nil (at_normal ?_)
    refine W_ret (at_ret ?_)
    have e25235 := Option.some.inj hm
    subst r
    refine ⟨_, ret1 rfl, ?_⟩
    exact ⟨s, (PHeap.le_refl _), hS, rfl⟩
  · refine W_cond_f rfl hc25233 ?_
    replace hc25233 := not_true hc25233
    refine W_skip (at_normal ?_)
    refine W_seq ?_
    refine W_seq ?_
    refine W_region ?_
    refine WL_step rfl rfl (Exec.move (v := v24967) rfl rfl ?_)
    refine WL_step rfl rfl (Exec.len_rep S22 rfl rfl a24968 ?_)
    refine WL_step rfl rfl (Exec.move (v := Value.int .i64 (0)) rfl rfl ?_)
    refine WL_nil (at_normal ?_)
    obtain ⟨c25377, hB25378, hr25379, hn25380, hb25381⟩ := ctl_some hm
    refine W_mid (M := fun f' w' => ∃ s', (c25377 = .next s' ∨ c25377 = .brk s') ∧ (fun (_ : Unit) => ∃ (s25383 : PHeap) , PHeap.le s s25383 ∧ St w0 s25383 (H) w' ∧ f' 0 = v24967 ∧ f' 1 = v24970 ∧ f' 12 = Value.int .i64 ((a24966.length : Int))) s') ?_ ?_
    · refine W_block (W_forC (fun k' s' f' w' => (fun (_ : Unit) => ∃ (s25382 : PHeap) , PHeap.le s s25382 ∧ St w0 s25382 (H) w' ∧ f' 0 = v24967 ∧ f' 1 = v24970 ∧ f' 12 = Value.int .i64 ((a24966.length : Int)) ∧ f' 13 = Value.int .i64 (k' : Int)) s') hB25378 ?_ ?_ ?_)
      · exact ⟨s, (PHeap.le_refl _), hS, rfl, rfl, rfl, rfl⟩
      · intro i25236 t25391 c25385 f25386 w25387 hi25392 hI25388 hm25389 hres25390
        obtain ⟨s25393, l25394, hS25395, p25396, p25397, p25398, x25399⟩ := hI25388
        refine W_seq ?_
        refine W_region ?_
        refine WL_step rfl rfl (Exec.lss rfl x25399 p25398 ?_)
        refine WL_nil (at_normal ?_)
        refine W_seq ?_
        refine W_true (congrArg Value.bool (decide_eq_true (by omega))) ?_
        refine W_skip (at_normal ?_)
        refine W_seq ?_
        refine W_block ?_
        refine W_seq ?_
        refine W_region ?_
        refine WL_step rfl rfl (Exec.move (v := Value.int .i64 ((i25236 : Int))) rfl x25399 ?_)
        refine WL_step rfl rfl (Exec.assign (v := Value.int .i64 ((i25236 : Int))) rfl rfl ?_)
        refine WL_nil (at_normal ?_)
        refine W_seq ?_
        refine W_dl (n0 := 9) (.q 0 (.q 1 (.q 2 (.q 3 (.q 4 (.q 5 (.q 6 (.q 7 (.q 8 .done))))))))) hmix (by kernel_rfl) (by kernel_rfl) ?_
        have hS25451 := hS25395.drew
        refine DL_q rfl rfl (Exec.move (v := v24967) rfl p25396 ⟨rfl, ?_⟩)
        refine DL_q rfl rfl (Exec.move (v := Value.int .i64 ((i25236 : Int))) rfl rfl ⟨rfl, ?_⟩)
        obtain ⟨x25452, q25453, hm25389⟩ := bind_some hm25389
        refine DL_q rfl rfl (Exec.index_repE S22 rfl rfl rfl (a24968.mono l25394) q25453 ?_)
        intro b25454 o25455 a25456 e25457
        refine ⟨rfl, ?_⟩
        refine DL_q rfl rfl (Exec.load_at (E := (encInt .i64)) hS25451 A3 rfl rfl rfl a25456 ?_)
        intro v25458 q25459
        obtain rfl := encInt_val.1 q25459
        refine ⟨rfl, ?_⟩
        refine DL_q rfl rfl (Exec.move (v := v24970) rfl p25397 ⟨rfl, ?_⟩)
        refine DL_q rfl rfl (Exec.move (v := Value.int .i64 ((i25236 : Int))) rfl rfl ⟨rfl, ?_⟩)
        obtain ⟨x25460, q25461, hm25389⟩ := bind_some hm25389
        refine DL_q rfl rfl (Exec.index_repE S22 rfl rfl rfl (a24971.mono l25394) q25461 ?_)
        intro b25462 o25463 a25464 e25465
        refine ⟨rfl, ?_⟩
        refine DL_q rfl rfl (Exec.load_at (E := (encInt .i64)) hS25451 A3 rfl rfl rfl a25464 ?_)
        intro v25466 q25467
        obtain rfl := encInt_val.1 q25467
        refine ⟨rfl, ?_⟩
        refine DL_q rfl rfl (Exec.neq rfl rfl rfl ⟨rfl, ?_⟩)
        refine DL_done ?_
        refine WL_nil (at_normal ?_)
        rcases ite_some hm25389 with ⟨hc25468, hm25389⟩ | ⟨hc25468, hm25389⟩
        · refine W_cond_t rfl hc25468 ?_
          refine W_seq ?_
          refine W_region ?_
          refine WL_step rfl rfl (Exec.assign (v := Value.bool (false)) rfl rfl ?_)
          refine WL_nil (at_normal ?_)
          refine W_ret (ib_ret (at_ret (at_ret (ib_ret (at_ret (at_ret ?_))))))
          have e25469 := Option.some.inj hm25389
          subst c25385
          have hq25470 := hr25379 _ (hres25390 (by intro _ h; cases h))
          have e25471 := Option.some.inj hq25470
          subst r
          refine ⟨_, ret1 rfl, ?_⟩
          exact ⟨s25393, l25394, hS25451, rfl⟩
        · refine W_cond_f rfl hc25468 ?_
          replace hc25468 := not_true hc25468
          refine W_skip (ib_normal (at_normal ?_))
          refine W_region ?_
          refine WL_step rfl rfl (Exec.add rfl x25399 rfl ?_)
          refine WL_step rfl rfl (Exec.move (v := Value.int .i64 (IntKind.i64.wrap ((i25236 : Int) + 1))) rfl rfl ?_)
          refine WL_nil (at_normal ?_)
          have e25472 := Option.some.inj hm25389
          subst c25385
          refine ⟨_, rfl, ?_⟩; exact ⟨s25393, l25394, hS25451, p25396, p25397, p25398, (Eq.trans rfl (wrap_up hi25392 (SliceRep.le a24968)))⟩
      · intro t25473 f25474 w25475 hI25476 hres25477
        obtain ⟨s25478, l25479, hS25480, p25481, p25482, p25483, x25484⟩ := hI25476
        refine W_seq ?_
        refine W_region ?_
        refine WL_step rfl rfl (Exec.lss rfl x25484 p25483 ?_)
        refine WL_nil (at_normal ?_)
        refine W_seq ?_
        refine W_false (congrArg Value.bool (decide_eq_false (by omega))) ?_
        refine W_exit (at_exit (at_exit (ib_here (at_normal ?_))))
        refine ⟨_, .inl hres25477, ?_⟩; exact ⟨s25478, l25479, hS25480, p25481, p25482, p25483⟩
    · rintro f25485 w25486 ⟨t25487, hc25488, hM25489⟩
      have hm := hc25488.elim (hn25380 _) (hb25381 _)
      clear hc25488
      obtain ⟨s25490, l25491, hS25492, p25493, p25494, p25495⟩ := hM25489
      refine (at_normal ?_)
      refine W_seq ?_
      refine W_region ?_
      refine WL_step rfl rfl (Exec.assign (v := Value.bool (true)) rfl rfl ?_)
      refine WL_nil (at_normal ?_)
      refine W_ret ?_
      have e25497 := Option.some.inj hm
      subst r
      refine ⟨_, ret1 rfl, ?_⟩
      exact ⟨s25490, l25491, hS25492, rfl⟩

theorem N10 : (Try.f10.name == "runtime.NumGoroutine") = false := by kernel_rfl

theorem law44_awake_sim {w0 w : World} {s : PHeap} {H : List Res}   {r : Bool} (hm : law44_awake_p  = some r) (hS : St w0 s (H) w)  :
    Calls Try.prog 10 #[] w fun e w' => ∃ v, e = .returned v ∧ ((fun (y25536 : Bool) => ∃ (s25537 : PHeap) , PHeap.le s s25537 ∧ St w0 s25537 (H) w' ∧ v = Value.bool (y25536)) r) := by
  unfold law44_awake_p at hm
  refine calls_of_W Try.func10 rfl rfl ?_
  refine W_seq ?_
  refine W_region ?_
  refine WL_step rfl rfl (Exec.assign (v := Value.bool (false)) rfl rfl ?_)
  refine WL_nil (at_normal ?_)
  refine W_seq ?_
  refine W_region ?_
  refine WL_step rfl rfl (Exec.call rfl rfl Try.func26 rfl N26 args_nil ((law44_example_sim law44_example_tot hS ).mono ?_))
  rintro _ w25577 ⟨_, rfl, ⟨s25578, v25581, v25582, v25583, l25579, hS25580, rfl, r25584, r25585, r25586⟩⟩
  refine ⟨_, rfl, ?_⟩
  refine WL_step rfl rfl (Exec.call rfl rfl Try.func26 rfl N26 args_nil ((law44_example_sim law44_example_tot hS25580 ).mono ?_))
  rintro _ w25587 ⟨_, rfl, ⟨s25588, v25591, v25592, v25593, l25589, hS25590, rfl, r25594, r25595, r25596⟩⟩
  refine ⟨_, rfl, ?_⟩
  obtain ⟨t25597, q25598, hm⟩ := bind_some hm
  obtain ⟨y25599, y25600⟩ := t25597
  replace hm := un2_eq hm
  refine WL_step rfl rfl (Exec.call rfl rfl Try.func12 rfl N12 (args_cons rfl (args_cons rfl args_nil)) ((transys_Product_sim q25598 hS25590 (r25584.mono l25589) (r25585.mono l25589) (r25586.mono l25589) r25594 r25595 r25596).mono ?_))
  rintro _ w25601 ⟨_, rfl, ⟨s25602, v25605, v25606, v25607, l25603, hS25604, rfl, r25608, r25609, r25610⟩⟩
  refine ⟨_, rfl, ?_⟩
  refine WL_step rfl rfl (Exec.move (v := Value.tuple #[Value.agg #[Value.int .i64 (y25600.States), Value.int .i64 (y25600.Init), v25605, v25606, v25607], errV 39 (y25599)]) rfl rfl ?_)
  refine WL_step rfl rfl (Exec.extract (v := Value.agg #[Value.int .i64 (y25600.States), Value.int .i64 (y25600.Init), v25605, v25606, v25607]) rfl rfl rfl ?_)
  refine WL_step rfl rfl (Exec.extract (v := errV 39 (y25599)) rfl rfl rfl ?_)
  refine WL_step rfl rfl (Exec.alloc (cs := [Value.int .i64 (0), Value.int .i64 (0), Value.slice none 0 0, Value.slice none 0 0, Value.slice none 0 0]) hS25604 Z26 rfl rfl ?_)
  intro b25611 w25612 hS25613
  refine WL_step rfl rfl (Exec.store_box (ds := [Value.int .i64 (y25600.States), Value.int .i64 (y25600.Init), v25605, v25606, v25607]) (es := [Value.int .i64 (y25600.States), Value.int .i64 (y25600.Init), v25605, v25606, v25607]) hS25613 A26 rfl rfl rfl rfl (one_cons rfl (one_cons rfl (one_cons (r25608).one (one_cons (r25609).one (one_cons (r25610).one one_nil))))) (Nat.le_of_ble_eq_true rfl) rfl ?_)
  intro w25614 hS25615
  refine WL_step rfl rfl (Exec.assign (v := errV 39 (y25599)) rfl rfl ?_)
  refine WL_nil (at_normal ?_)
  refine W_seq ?_
  refine W_seq ?_
  refine W_mid (M := fun f' w' => ∃ (s25618 : PHeap) , PHeap.le s25602 s25618 ∧ St w0 s25618 (Res.box b25611 26 [Value.int .i64 (y25600.States), Value.int .i64 (y25600.Init), v25605, v25606, v25607] :: H) w' ∧ f' 1 = Value.pointer (some ⟨b25611, 0, none⟩) ∧ f' 22 = Value.bool ((y25599.isSome || ((!decide (y25600.States = 4)) || !decide ((y25600.Edges.length : Int) = 2))))) ?_ ?_
  · refine W_region ?_
    refine WL_step rfl rfl (Exec.move (v := errV 39 (y25599)) rfl rfl ?_)
    refine WL_step rfl rfl (Exec.err_neq_nil (T := 39) Try.underlying30 rfl rfl rfl ?_)
    refine WL_step rfl rfl (Exec.move (v := Value.bool (y25599.isSome)) rfl rfl ?_)
    by_cases hc25619 : y25599.isSome = true
    · refine WL_pass rfl (yield_of rfl (congrArg Value.bool hc25619)) rfl rfl ?_
      refine WL_pass rfl (yield_of rfl (congrArg Value.bool hc25619)) rfl rfl ?_
      refine WL_pass rfl (yield_of rfl (congrArg Value.bool hc25619)) rfl rfl ?_
      refine WL_step rfl rfl (Exec.pick_t (v := Value.bool (true)) rfl (congrArg Value.bool hc25619) rfl ?_)
      refine WL_step rfl rfl (Exec.move (v := Value.bool (true)) rfl rfl ?_)
      refine WL_pass rfl (yield_of rfl rfl) rfl rfl ?_
      refine WL_pass rfl (yield_of rfl rfl) rfl rfl ?_
      refine WL_pass rfl (yield_of rfl rfl) rfl rfl ?_
      refine WL_pass rfl (yield_of rfl rfl) rfl rfl ?_
      refine WL_step rfl rfl (Exec.pick_t (v := Value.bool (true)) rfl rfl rfl ?_)
      refine WL_nil (at_normal ?_)
      exact ⟨s25602, (PHeap.le_refl _), hS25615, rfl, (congrArg Value.bool (or_t hc25619)).symm⟩
    · replace hc25619 := not_true hc25619
      refine WL_run rfl (yield_of rfl (congrArg Value.bool hc25619)) rfl (Exec.field F26_0 rfl rfl rfl ?_)
      refine WL_run rfl (yield_of rfl (congrArg Value.bool hc25619)) rfl (Exec.load_box (hS25615) A3 rfl rfl rfl ?_)
      refine WL_run rfl (yield_of rfl (congrArg Value.bool hc25619)) rfl (Exec.neq rfl rfl rfl ?_)
      refine WL_step rfl rfl (Exec.pick_f (v := Value.bool (!decide (y25600.States = 4))) rfl (congrArg Value.bool hc25619) rfl ?_)
      refine WL_step rfl rfl (Exec.move (v := Value.bool (!decide (y25600.States = 4))) rfl rfl ?_)
      by_cases hc25620 : (!decide (y25600.States = 4)) = true
      · refine WL_pass rfl (yield_of rfl (congrArg Value.bool hc25620)) rfl rfl ?_
        refine WL_pass rfl (yield_of rfl (congrArg Value.bool hc25620)) rfl rfl ?_
        refine WL_pass rfl (yield_of rfl (congrArg Value.bool hc25620)) rfl rfl ?_
        refine WL_pass rfl (yield_of rfl (congrArg Value.bool hc25620)) rfl rfl ?_
        refine WL_step rfl rfl (Exec.pick_t (v := Value.bool (true)) rfl (congrArg Value.bool hc25620) rfl ?_)
        refine WL_nil (at_normal ?_)
        exact ⟨s25602, (PHeap.le_refl _), hS25615, rfl, (congrArg Value.bool (Eq.trans (or_f hc25619) (or_t hc25620))).symm⟩
      · replace hc25620 := not_true hc25620
        refine WL_run rfl (yield_of rfl (congrArg Value.bool hc25620)) rfl (Exec.field F26_3 rfl rfl rfl ?_)
        refine WL_run rfl (yield_of rfl (congrArg Value.bool hc25620)) rfl (Exec.load_box (hS25615) A23 rfl rfl rfl ?_)
        refine WL_run rfl (yield_of rfl (congrArg Value.bool hc25620)) rfl (Exec.len_rep S23 rfl rfl r25609 ?_)
        refine WL_run rfl (yield_of rfl (congrArg Value.bool hc25620)) rfl (Exec.neq rfl rfl rfl ?_)
        refine WL_step rfl rfl (Exec.pick_f (v := Value.bool (!decide ((y25600.Edges.length : Int) = 2))) rfl (congrArg Value.bool hc25620) rfl ?_)
        refine WL_nil (at_normal ?_)
        exact ⟨s25602, (PHeap.le_refl _), hS25615, rfl, (congrArg Value.bool (Eq.trans (or_f hc25619) (or_f hc25620))).symm⟩
  · intro f25621 w25622 hM25623
    obtain ⟨s25624, l25625, hS25626, p25627, p25628⟩ := hM25623
    refine (at_normal ?_)
    rcases ite_some hm with ⟨hc25629, hm⟩ | ⟨hc25629, hm⟩
    · refine W_cond_t p25628 hc25629 ?_
      refine W_seq ?_
      refine W_region ?_
      refine WL_step rfl rfl (Exec.assign (v := Value.bool (false)) rfl rfl ?_)
      refine WL_nil (at_normal ?_)
      refine W_ret (at_ret ?_)
      have e25631 := Option.some.inj hm
      subst r
      refine ⟨_, ret1 rfl, ?_⟩
      have hS25632 := (hS25626).drop
      exact ⟨s25624, (PHeap.le.trans (PHeap.le.trans (PHeap.le.trans l25579 l25589) l25603) l25625), hS25632, rfl⟩
    · refine W_cond_f p25628 hc25629 ?_
      replace hc25629 := not_true hc25629
      refine W_skip (at_normal ?_)
      refine W_seq ?_
      refine W_region ?_
      refine WL_step rfl rfl (Exec.load_box_agg (ds := [Value.int .i64 (y25600.States), Value.int .i64 (y25600.Init), v25605, v25606, v25607]) (hS25626) A26 rfl p25627 rfl ?_)
      obtain ⟨t25643, q25644, hm⟩ := bind_some hm
      obtain ⟨y25645, y25646⟩ := t25643
      replace hm := un2_eq hm
      refine WL_step rfl rfl (Exec.call rfl rfl Try.func18 rfl N18 (args_cons rfl args_nil) ((transys_Distances_sim q25644 hS25626 (r25608.mono l25625) (r25609.mono l25625) (r25610.mono l25625)).mono ?_))
      rintro _ w25647 ⟨_, rfl, ⟨s25648, v25651, l25649, hS25650, rfl, r25652⟩⟩
      refine ⟨_, rfl, ?_⟩
      refine WL_step rfl rfl (Exec.move (v := Value.tuple #[v25651, errV 39 (y25646)]) rfl rfl ?_)
      refine WL_step rfl rfl (Exec.extract (v := v25651) rfl rfl rfl ?_)
      refine WL_step rfl rfl (Exec.extract (v := errV 39 (y25646)) rfl rfl rfl ?_)
      refine WL_step rfl rfl (Exec.assign (v := v25651) rfl rfl ?_)
      refine WL_step rfl rfl (Exec.assign (v := errV 39 (y25646)) rfl rfl ?_)
      refine WL_nil (at_normal ?_)
      refine W_seq ?_
      obtain ⟨z25669, ht25670, hm⟩ := bind_some hm
      refine W_mid (M := fun f' w' => (fun (z25669 : Bool) => ∃ (s25671 : PHeap) , PHeap.le s25648 s25671 ∧ St w0 s25671 (H) w' ∧ f' 0 = Value.bool (z25669)) z25669) ?_ ?_
      · refine W_region ?_
        refine WL_step rfl rfl (Exec.move (v := errV 39 (y25646)) rfl rfl ?_)
        refine WL_step rfl rfl (Exec.err_eql_nil (T := 39) Try.underlying30 rfl rfl rfl ?_)
        refine WL_step rfl rfl (Exec.move (v := Value.bool (y25646.isNone)) rfl rfl ?_)
        rcases ite_some ht25670 with ⟨hc25672, ht25670⟩ | ⟨hc25672, ht25670⟩
        · refine WL_run rfl (yield_of rfl (congrArg Value.bool hc25672)) rfl (Exec.move (v := v25651) rfl rfl ?_)
          refine WL_run rfl (yield_of rfl (congrArg Value.bool hc25672)) rfl (Exec.buildSlice (Te := 3) (cs := [Value.int .i64 (2), Value.int .i64 (1125899906842624), Value.int .i64 (1125899906842624), Value.int .i64 (0)]) hS25650 rfl (parts_cons (c := [Value.int .i64 (2)]) (cells_of rfl rfl) (parts_cons (c := [Value.int .i64 (1125899906842624)]) (cells_of rfl rfl) (parts_cons (c := [Value.int .i64 (1125899906842624)]) (cells_of rfl rfl) (parts_cons (c := [Value.int .i64 (0)]) (cells_of rfl rfl) parts_nil)))) (fun _ => by kernel_rfl) ?_)
          intro b25673 w25674 hS25675
          have hS25676 := St.boxArr (E := (encInt .i64)) (xs := [2, 1125899906842624, 1125899906842624, 0]) hS25675 ⟨[Value.int .i64 (2)], [Value.int .i64 (1125899906842624), Value.int .i64 (1125899906842624), Value.int .i64 (0)], rfl, rfl, ⟨[Value.int .i64 (1125899906842624)], [Value.int .i64 (1125899906842624), Value.int .i64 (0)], rfl, rfl, ⟨[Value.int .i64 (1125899906842624)], [Value.int .i64 (0)], rfl, rfl, ⟨[Value.int .i64 (0)], [], rfl, rfl, rfl⟩⟩⟩⟩ (by simp [maxLen])
          obtain ⟨s25677, l25678, hS25679, r25680⟩ := hS25676.freezeArr
          obtain ⟨y25683, q25682, ht25670⟩ := bind_some ht25670
          refine WL_run rfl (yield_of rfl (congrArg Value.bool hc25672)) rfl (Exec.call rfl rfl Try.func20 rfl N20 (args_cons rfl (args_cons rfl args_nil)) ((base_Ints_sim q25682 hS25679 (r25652.mono l25678) r25680).mono ?_))
          rintro _ w25684 ⟨_, rfl, ⟨s25685, l25686, hS25687, rfl⟩⟩
          refine ⟨_, rfl, ?_⟩
          refine WL_step rfl rfl (Exec.pick_t (v := Value.bool (y25683)) rfl (congrArg Value.bool hc25672) rfl ?_)
          refine WL_step rfl rfl (Exec.assign (v := Value.bool (y25683)) rfl rfl ?_)
          refine WL_nil (at_normal ?_)
          have e25688 := Option.some.inj ht25670
          subst z25669
          have hS25689 := (hS25687).drop
          exact ⟨s25685, (PHeap.le.trans l25678 l25686), hS25689, rfl⟩
        · replace hc25672 := not_true hc25672
          refine WL_pass rfl (yield_of rfl (congrArg Value.bool hc25672)) rfl rfl ?_
          refine WL_pass rfl (yield_of rfl (congrArg Value.bool hc25672)) rfl rfl ?_
          refine WL_pass rfl (yield_of rfl (congrArg Value.bool hc25672)) rfl rfl ?_
          refine WL_step rfl rfl (Exec.pick_f (v := Value.bool (false)) rfl (congrArg Value.bool hc25672) rfl ?_)
          refine WL_step rfl rfl (Exec.assign (v := Value.bool (false)) rfl rfl ?_)
          refine WL_nil (at_normal ?_)
          have e25690 := Option.some.inj ht25670
          subst z25669
          have hS25691 := (hS25650).drop
          exact ⟨s25648, (PHeap.le_refl _), hS25691, rfl⟩
      · intro f25692 w25693 hM25694
        obtain ⟨s25695, l25696, hS25697, p25698⟩ := hM25694
        refine (at_normal ?_)
        refine W_ret ?_
        have e25700 := Option.some.inj hm
        subst r
        refine ⟨_, ret1 rfl, ?_⟩
        exact ⟨s25695, (PHeap.le.trans (PHeap.le.trans (PHeap.le.trans (PHeap.le.trans (PHeap.le.trans l25579 l25589) l25603) l25625) l25649) l25696), hS25697, p25698⟩

theorem ZZ39 : (Try.prog.info? 39).map (·.zero) = some (some (.int .i64 0)) := by kernel_rfl

theorem N15 : (Try.f15.name == "runtime.NumGoroutine") = false := by kernel_rfl

theorem base_Num_sim {w0 w : World} {s : PHeap} {H : List Res} {e26362 : (Option Int)}  {r : Int} (hm : base_Num_p e26362 = some r) (hS : St w0 s (H) w)  :
    Calls Try.prog 15 #[errV 39 (e26362)] w fun e w' => ∃ v, e = .returned v ∧ ((fun (y26366 : Int) => ∃ (s26367 : PHeap) , PHeap.le s s26367 ∧ St w0 s26367 (H) w' ∧ v = Value.int .i64 (y26366)) r) := by
  unfold base_Num_p at hm
  refine calls_of_W Try.func15 rfl rfl ?_
  refine W_seq ?_
  refine W_region ?_
  refine WL_step rfl rfl (Exec.assign (v := Value.int .i64 (0)) rfl rfl ?_)
  refine WL_nil (at_normal ?_)
  refine W_seq ?_
  refine W_seq ?_
  refine W_region ?_
  refine WL_step rfl rfl (Exec.move (v := errV 39 (e26362)) rfl rfl ?_)
  refine WL_step rfl rfl (Exec.err_eql_nil (T := 39) Try.underlying30 rfl rfl rfl ?_)
  refine WL_nil (at_normal ?_)
  rcases ite_some hm with ⟨hc26368, hm⟩ | ⟨hc26368, hm⟩
  · refine W_cond_t rfl hc26368 ?_
    refine W_seq ?_
    refine W_region ?_
    refine WL_step rfl rfl (Exec.assign (v := Value.int .i64 (0)) rfl rfl ?_)
    refine WL_nil (at_normal ?_)
    refine W_ret (at_ret ?_)
    have e26370 := Option.some.inj hm
    subst r
    refine ⟨_, ret1 rfl, ?_⟩
    exact ⟨s, (PHeap.le_refl _), hS, rfl⟩
  · refine W_cond_f rfl hc26368 ?_
    replace hc26368 := not_true hc26368
    refine W_skip (at_normal ?_)
    refine W_seq ?_
    refine W_seq ?_
    refine W_region ?_
    refine WL_step rfl rfl (Exec.move (v := errV 39 (e26362)) rfl rfl ?_)
    refine WL_step rfl rfl (Exec.err_assert Try.underlying39 ZZ39 rfl rfl ?_)
    refine WL_step rfl rfl (Exec.move (v := Value.tuple #[Value.int .i64 (e26362.getD 0), Value.bool (e26362.isSome)]) rfl rfl ?_)
    refine WL_step rfl rfl (Exec.extract (v := Value.int .i64 (e26362.getD 0)) rfl rfl rfl ?_)
    refine WL_step rfl rfl (Exec.extract (v := Value.bool (e26362.isSome)) rfl rfl rfl ?_)
    refine WL_step rfl rfl (Exec.assign (v := Value.int .i64 (e26362.getD 0)) rfl rfl ?_)
    refine WL_step rfl rfl (Exec.assign (v := Value.bool (e26362.isSome)) rfl rfl ?_)
    refine WL_nil (at_normal ?_)
    refine W_seq ?_
    refine W_region ?_
    refine WL_step rfl rfl (Exec.move (v := Value.bool (e26362.isSome)) rfl rfl ?_)
    refine WL_nil (at_normal ?_)
    rcases ite_some hm with ⟨hc26371, hm⟩ | ⟨hc26371, hm⟩
    · refine W_cond_t rfl hc26371 ?_
      refine W_seq ?_
      refine W_region ?_
      refine WL_step rfl rfl (Exec.move (v := Value.int .i64 (e26362.getD 0)) rfl rfl ?_)
      refine WL_step rfl rfl (Exec.assign (v := Value.int .i64 (e26362.getD 0)) rfl rfl ?_)
      refine WL_nil (at_normal ?_)
      refine W_ret (at_ret ?_)
      have e26373 := Option.some.inj hm
      subst r
      refine ⟨_, ret1 rfl, ?_⟩
      exact ⟨s, (PHeap.le_refl _), hS, rfl⟩
    · refine W_cond_f rfl hc26371 ?_
      replace hc26371 := not_true hc26371
      refine W_skip (at_normal ?_)
      refine W_seq ?_
      refine W_region ?_
      refine WL_step rfl rfl (Exec.assign (v := Value.int .i64 ((-1))) rfl rfl ?_)
      refine WL_nil (at_normal ?_)
      refine W_ret ?_
      have e26375 := Option.some.inj hm
      subst r
      refine ⟨_, ret1 rfl, ?_⟩
      exact ⟨s, (PHeap.le_refl _), hS, rfl⟩

theorem N16 : (Try.f16.name == "runtime.NumGoroutine") = false := by kernel_rfl

theorem base_Is_sim {w0 w : World} {s : PHeap} {H : List Res} {e26359 : (Option Int)} {code26360 : Int}  {r : Bool} (hm : base_Is_p e26359 code26360 = some r) (hS : St w0 s (H) w)  :
    Calls Try.prog 16 #[errV 39 (e26359), Value.int .i64 (code26360)] w fun e w' => ∃ v, e = .returned v ∧ ((fun (y26394 : Bool) => ∃ (s26395 : PHeap) , PHeap.le s s26395 ∧ St w0 s26395 (H) w' ∧ v = Value.bool (y26394)) r) := by
  unfold base_Is_p at hm
  refine calls_of_W Try.func16 rfl rfl ?_
  refine W_seq ?_
  refine W_region ?_
  refine WL_step rfl rfl (Exec.assign (v := Value.bool (false)) rfl rfl ?_)
  refine WL_nil (at_normal ?_)
  refine W_seq ?_
  refine W_mid (M := fun f' w' => ∃ (s26401 : PHeap) , PHeap.le s s26401 ∧ St w0 s26401 (H) w' ∧ f' 4 = Value.bool ((e26359.isSome && decide ((base_Num_t e26359) = code26360)))) ?_ ?_
  · refine W_region ?_
    refine WL_step rfl rfl (Exec.move (v := errV 39 (e26359)) rfl rfl ?_)
    refine WL_step rfl rfl (Exec.err_neq_nil (T := 39) Try.underlying30 rfl rfl rfl ?_)
    refine WL_step rfl rfl (Exec.move (v := Value.bool (e26359.isSome)) rfl rfl ?_)
    by_cases hc26402 : e26359.isSome = true
    · refine WL_run rfl (yield_of rfl (congrArg Value.bool hc26402)) rfl (Exec.move (v := errV 39 (e26359)) rfl rfl ?_)
      refine WL_run rfl (yield_of rfl (congrArg Value.bool hc26402)) rfl (Exec.call rfl rfl Try.func15 rfl N15 (args_cons rfl args_nil) ((base_Num_sim (base_Num_tot e26359) hS ).mono ?_))
      rintro _ w26403 ⟨_, rfl, ⟨s26404, l26405, hS26406, rfl⟩⟩
      refine ⟨_, rfl, ?_⟩
      refine WL_run rfl (yield_of rfl (congrArg Value.bool hc26402)) rfl (Exec.move (v := Value.int .i64 (code26360)) rfl rfl ?_)
      refine WL_run rfl (yield_of rfl (congrArg Value.bool hc26402)) rfl (Exec.eql rfl rfl rfl ?_)
      refine WL_step rfl rfl (Exec.pick_t (v := Value.bool (decide ((base_Num_t e26359) = code26360))) rfl (congrArg Value.bool hc26402) rfl ?_)
      refine WL_step rfl rfl (Exec.assign (v := Value.bool (decide ((base_Num_t e26359) = code26360))) rfl rfl ?_)
      refine WL_nil (at_normal ?_)
      exact ⟨s26404, l26405, hS26406, (congrArg Value.bool (and_t hc26402)).symm⟩
    · replace hc26402 := not_true hc26402
      refine WL_pass rfl (yield_of rfl (congrArg Value.bool hc26402)) rfl rfl ?_
      refine WL_pass rfl (yield_of rfl (congrArg Value.bool hc26402)) rfl rfl ?_
      refine WL_pass rfl (yield_of rfl (congrArg Value.bool hc26402)) rfl rfl ?_
      refine WL_pass rfl (yield_of rfl (congrArg Value.bool hc26402)) rfl rfl ?_
      refine WL_step rfl rfl (Exec.pick_f (v := Value.bool (false)) rfl (congrArg Value.bool hc26402) rfl ?_)
      refine WL_step rfl rfl (Exec.assign (v := Value.bool (false)) rfl rfl ?_)
      refine WL_nil (at_normal ?_)
      exact ⟨s, (PHeap.le_refl _), hS, (congrArg Value.bool (and_f hc26402)).symm⟩
  · intro f26407 w26408 hM26409
    obtain ⟨s26410, l26411, hS26412, p26413⟩ := hM26409
    refine (at_normal ?_)
    refine W_ret ?_
    have e26415 := Option.some.inj hm
    subst r
    refine ⟨_, ret1 rfl, ?_⟩
    exact ⟨s26410, l26411, hS26412, p26413⟩

theorem N4 : (Try.f4.name == "runtime.NumGoroutine") = false := by kernel_rfl

end Go.Pw
