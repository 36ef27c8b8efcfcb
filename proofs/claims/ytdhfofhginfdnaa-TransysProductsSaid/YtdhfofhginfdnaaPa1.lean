/-
  The walks (printed by my generator).
-/
import Derived.Test.YtdhfofhginfdnaaPa0
import Derived.Test.YtdhfofhginfdnaaPaX
set_option maxRecDepth 100000
set_option maxHeartbeats 4000000
set_option linter.unusedVariables false
namespace Go.Pw
open Go.Proofs
theorem N12 : (Try.f12.name == "runtime.NumGoroutine") = false := by kernel_rfl

theorem transys_Product_sim {w0 w : World} {s : PHeap} {H : List Res} {a152 : System} {b159 : System} {v153 : Value} {v155 : Value} {v157 : Value} {v160 : Value} {v162 : Value} {v164 : Value} {r : (Option Int) × System} (hm : transys_Product_p a152 b159 = some r) (hS : St w0 s (H) w) (a154 : SliceRep (encInt .i64) s v153 a152.Costs) (a156 : SliceRep encEdge s v155 a152.Edges) (a158 : SliceRep encBool s v157 a152.Goals) (a161 : SliceRep (encInt .i64) s v160 b159.Costs) (a163 : SliceRep encEdge s v162 b159.Edges) (a165 : SliceRep encBool s v164 b159.Goals) :
    Calls Try.prog 12 #[Value.agg #[Value.int .i64 (a152.States), Value.int .i64 (a152.Init), v153, v155, v157], Value.agg #[Value.int .i64 (b159.States), Value.int .i64 (b159.Init), v160, v162, v164]] w fun e w' => ∃ v, e = .returned v ∧ ((un2 fun (y8679 : (Option Int)) (y8678 : System) => ∃ (s8698 : PHeap) (v8695 : Value) (v8696 : Value) (v8697 : Value), PHeap.le s s8698 ∧ St w0 s8698 (H) w' ∧ v = Value.tuple #[Value.agg #[Value.int .i64 (y8678.States), Value.int .i64 (y8678.Init), v8695, v8696, v8697], errV 39 (y8679)] ∧ SliceRep (encInt .i64) s8698 v8695 y8678.Costs ∧ SliceRep encEdge s8698 v8696 y8678.Edges ∧ SliceRep encBool s8698 v8697 y8678.Goals) r) := by
  unfold transys_Product_p at hm
  refine calls_of_W Try.func12 rfl rfl ?_
  refine W_seq ?_
  refine W_region ?_
  refine WL_step rfl rfl (Exec.box (cs := [Value.int .i64 (a152.States), Value.int .i64 (a152.Init), v153, v155, v157]) hS rfl rfl rfl ?_)
  intro b8708 w8709 hS8710
  refine WL_step rfl rfl (Exec.box (cs := [Value.int .i64 (b159.States), Value.int .i64 (b159.Init), v160, v162, v164]) hS8710 rfl rfl rfl ?_)
  intro b8711 w8712 hS8713
  refine WL_step rfl rfl (Exec.alloc (cs := [Value.int .i64 (0), Value.int .i64 (0), Value.slice none 0 0, Value.slice none 0 0, Value.slice none 0 0]) hS8713 Z26 rfl rfl ?_)
  intro b8714 w8715 hS8716
  refine WL_step rfl rfl (Exec.assign (v := errV 39 (none)) rfl rfl ?_)
  refine WL_nil (at_normal ?_)
  refine W_seq ?_
  refine W_seq ?_
  obtain ⟨z8740, ht8741, hm⟩ := bind_some hm
  refine W_mid (M := fun f' w' => (fun (z8740 : Bool) => ∃ (s8742 : PHeap) , PHeap.le s s8742 ∧ St w0 s8742 (Res.box b8708 26 [Value.int .i64 (a152.States), Value.int .i64 (a152.Init), v153, v155, v157] :: Res.box b8711 26 [Value.int .i64 (b159.States), Value.int .i64 (b159.Init), v160, v162, v164] :: Res.box b8714 26 [Value.int .i64 (0), Value.int .i64 (0), Value.slice none 0 0, Value.slice none 0 0, Value.slice none 0 0] :: H) w' ∧ f' 2 = Value.pointer (some ⟨b8708, 0, none⟩) ∧ f' 3 = Value.pointer (some ⟨b8711, 0, none⟩) ∧ f' 4 = Value.pointer (some ⟨b8714, 0, none⟩) ∧ f' 33 = Value.bool (z8740)) z8740) ?_ ?_
  · refine W_region ?_
    refine WL_step rfl rfl (Exec.load_box_agg (ds := [Value.int .i64 (a152.States), Value.int .i64 (a152.Init), v153, v155, v157]) ((hS8716).f2) A26 rfl rfl rfl ?_)
    obtain ⟨y8745, q8744, ht8741⟩ := bind_some ht8741
    refine WL_step rfl rfl (Exec.call rfl rfl Try.func25 rfl N25 (args_cons rfl args_nil) ((transys_Valid_sim q8744 hS8716 a154 a156 a158).mono ?_))
    rintro _ w8746 ⟨_, rfl, ⟨s8747, l8748, hS8749, rfl⟩⟩
    refine ⟨_, rfl, ?_⟩
    refine WL_step rfl rfl (Exec.not rfl rfl ?_)
    refine WL_step rfl rfl (Exec.move (v := Value.bool (!y8745)) rfl rfl ?_)
    rcases ite_some ht8741 with ⟨hc8750, ht8741⟩ | ⟨hc8750, ht8741⟩
    · refine WL_pass rfl (yield_of rfl (congrArg Value.bool hc8750)) rfl rfl ?_
      refine WL_pass rfl (yield_of rfl (congrArg Value.bool hc8750)) rfl rfl ?_
      refine WL_pass rfl (yield_of rfl (congrArg Value.bool hc8750)) rfl rfl ?_
      refine WL_step rfl rfl (Exec.pick_t (v := Value.bool (true)) rfl (congrArg Value.bool hc8750) rfl ?_)
      refine WL_step rfl rfl (Exec.move (v := Value.bool (true)) rfl rfl ?_)
      refine WL_pass rfl (yield_of rfl rfl) rfl rfl ?_
      refine WL_pass rfl (yield_of rfl rfl) rfl rfl ?_
      refine WL_pass rfl (yield_of rfl rfl) rfl rfl ?_
      refine WL_pass rfl (yield_of rfl rfl) rfl rfl ?_
      refine WL_pass rfl (yield_of rfl rfl) rfl rfl ?_
      refine WL_pass rfl (yield_of rfl rfl) rfl rfl ?_
      refine WL_step rfl rfl (Exec.pick_t (v := Value.bool (true)) rfl rfl rfl ?_)
      refine WL_nil (at_normal ?_)
      have e8751 := Option.some.inj ht8741
      subst z8740
      have hS8752 := (hS8749).f1
      have hS8753 := (hS8752).f2
      exact ⟨s8747, l8748, hS8753, rfl, rfl, rfl, rfl⟩
    · replace hc8750 := not_true hc8750
      refine WL_run rfl (yield_of rfl (congrArg Value.bool hc8750)) rfl (Exec.load_box_agg (ds := [Value.int .i64 (b159.States), Value.int .i64 (b159.Init), v160, v162, v164]) ((hS8749).f1) A26 rfl rfl rfl ?_)
      obtain ⟨y8756, q8755, ht8741⟩ := bind_some ht8741
      refine WL_run rfl (yield_of rfl (congrArg Value.bool hc8750)) rfl (Exec.call rfl rfl Try.func25 rfl N25 (args_cons rfl args_nil) ((transys_Valid_sim q8755 hS8749 (a161.mono l8748) (a163.mono l8748) (a165.mono l8748)).mono ?_))
      rintro _ w8757 ⟨_, rfl, ⟨s8758, l8759, hS8760, rfl⟩⟩
      refine ⟨_, rfl, ?_⟩
      refine WL_run rfl (yield_of rfl (congrArg Value.bool hc8750)) rfl (Exec.not rfl rfl ?_)
      refine WL_step rfl rfl (Exec.pick_f (v := Value.bool (!y8756)) rfl (congrArg Value.bool hc8750) rfl ?_)
      refine WL_step rfl rfl (Exec.move (v := Value.bool (!y8756)) rfl rfl ?_)
      rcases ite_some ht8741 with ⟨hc8761, ht8741⟩ | ⟨hc8761, ht8741⟩
      · refine WL_pass rfl (yield_of rfl (congrArg Value.bool hc8761)) rfl rfl ?_
        refine WL_pass rfl (yield_of rfl (congrArg Value.bool hc8761)) rfl rfl ?_
        refine WL_pass rfl (yield_of rfl (congrArg Value.bool hc8761)) rfl rfl ?_
        refine WL_pass rfl (yield_of rfl (congrArg Value.bool hc8761)) rfl rfl ?_
        refine WL_pass rfl (yield_of rfl (congrArg Value.bool hc8761)) rfl rfl ?_
        refine WL_pass rfl (yield_of rfl (congrArg Value.bool hc8761)) rfl rfl ?_
        refine WL_step rfl rfl (Exec.pick_t (v := Value.bool (true)) rfl (congrArg Value.bool hc8761) rfl ?_)
        refine WL_nil (at_normal ?_)
        have e8762 := Option.some.inj ht8741
        subst z8740
        have hS8763 := (hS8760).f1
        have hS8764 := (hS8763).f2
        exact ⟨s8758, (PHeap.le.trans l8748 l8759), hS8764, rfl, rfl, rfl, rfl⟩
      · replace hc8761 := not_true hc8761
        refine WL_run rfl (yield_of rfl (congrArg Value.bool hc8761)) rfl (Exec.field F26_2 rfl rfl rfl ?_)
        refine WL_run rfl (yield_of rfl (congrArg Value.bool hc8761)) rfl (Exec.load_box ((hS8760).f2) A22 rfl rfl rfl ?_)
        refine WL_run rfl (yield_of rfl (congrArg Value.bool hc8761)) rfl (Exec.field F26_2 rfl rfl rfl ?_)
        refine WL_run rfl (yield_of rfl (congrArg Value.bool hc8761)) rfl (Exec.load_box ((hS8760).f1) A22 rfl rfl rfl ?_)
        obtain ⟨y8767, q8766, ht8741⟩ := bind_some ht8741
        refine WL_run rfl (yield_of rfl (congrArg Value.bool hc8761)) rfl (Exec.call rfl rfl Try.func35 rfl N35 (args_cons rfl (args_cons rfl args_nil)) ((slices_Equal___int_int__sim q8766 hS8760 (a154.mono (PHeap.le.trans l8748 l8759)) (a161.mono (PHeap.le.trans l8748 l8759))).mono ?_))
        rintro _ w8768 ⟨_, rfl, ⟨s8769, l8770, hS8771, rfl⟩⟩
        refine ⟨_, rfl, ?_⟩
        refine WL_run rfl (yield_of rfl (congrArg Value.bool hc8761)) rfl (Exec.not rfl rfl ?_)
        refine WL_step rfl rfl (Exec.pick_f (v := Value.bool (!y8767)) rfl (congrArg Value.bool hc8761) rfl ?_)
        refine WL_nil (at_normal ?_)
        have e8772 := Option.some.inj ht8741
        subst z8740
        have hS8773 := (hS8771).f1
        have hS8774 := (hS8773).f2
        exact ⟨s8769, (PHeap.le.trans (PHeap.le.trans l8748 l8759) l8770), hS8774, rfl, rfl, rfl, rfl⟩
  · intro f8775 w8776 hM8777
    obtain ⟨s8778, l8779, hS8780, p8781, p8782, p8783, p8784⟩ := hM8777
    refine (at_normal ?_)
    rcases ite_some hm with ⟨hc8785, hm⟩ | ⟨hc8785, hm⟩
    · refine W_cond_t p8784 hc8785 ?_
      refine W_seq ?_
      refine W_region ?_
      refine WL_step rfl rfl (Exec.build rfl parts_nil (v := Value.agg #[Value.int .i64 (0), Value.int .i64 (0), Value.slice none 0 0, Value.slice none 0 0, Value.slice none 0 0]) (fun _ => by kernel_rfl) ?_)
      refine WL_step rfl rfl (Exec.makeInterface C39 rfl rfl ?_)
      have hS8789 := (hS8780).f2
      refine WL_step rfl rfl (Exec.store_box (ds := [Value.int .i64 (0), Value.int .i64 (0), Value.slice none 0 0, Value.slice none 0 0, Value.slice none 0 0]) (es := [Value.int .i64 (0), Value.int .i64 (0), Value.slice none 0 0, Value.slice none 0 0, Value.slice none 0 0]) hS8789 A26 rfl p8783 rfl rfl (one_cons rfl (one_cons rfl (one_cons rfl (one_cons rfl (one_cons rfl one_nil))))) (Nat.le_of_ble_eq_true rfl) rfl ?_)
      intro w8790 hS8791
      refine WL_step rfl rfl (Exec.assign (v := errV 39 (some 2)) rfl rfl ?_)
      refine WL_nil (at_normal ?_)
      refine W_ret (at_ret ?_)
      have e8793 := Option.some.inj hm
      subst r
      refine ⟨_, retG2 rfl ⟨_, _, p8783, cellRes (hS8791) A26⟩ rfl, ?_⟩
      have hS8794 := (hS8791).drop
      have hS8795 := (hS8794).drop
      have hS8796 := (hS8795).drop
      exact ⟨s8778, (Value.slice none 0 0), (Value.slice none 0 0), (Value.slice none 0 0), l8779, hS8796, (tup2 rfl rfl), (SliceRep.nil _ _), (SliceRep.nil _ _), (SliceRep.nil _ _)⟩
    · refine W_cond_f p8784 hc8785 ?_
      replace hc8785 := not_true hc8785
      refine W_skip (at_normal ?_)
      refine W_seq ?_
      refine W_seq ?_
      refine W_region ?_
      refine WL_step rfl rfl (Exec.field F26_0 rfl p8781 rfl ?_)
      refine WL_step rfl rfl (Exec.load_box (hS8780) A3 rfl rfl rfl ?_)
      refine WL_step rfl rfl (Exec.field F26_0 rfl p8782 rfl ?_)
      refine WL_step rfl rfl (Exec.load_box ((hS8780).f1) A3 rfl rfl rfl ?_)
      refine WL_step rfl rfl (Exec.mul rfl rfl rfl ?_)
      refine WL_step rfl rfl (Exec.gtr rfl rfl rfl ?_)
      refine WL_nil (at_normal ?_)
      rcases ite_some hm with ⟨hc8797, hm⟩ | ⟨hc8797, hm⟩
      · refine W_cond_t rfl hc8797 ?_
        refine W_seq ?_
        refine W_region ?_
        refine WL_step rfl rfl (Exec.build rfl parts_nil (v := Value.agg #[Value.int .i64 (0), Value.int .i64 (0), Value.slice none 0 0, Value.slice none 0 0, Value.slice none 0 0]) (fun _ => by kernel_rfl) ?_)
        refine WL_step rfl rfl (Exec.makeInterface C39 rfl rfl ?_)
        have hS8801 := (hS8780).f2
        refine WL_step rfl rfl (Exec.store_box (ds := [Value.int .i64 (0), Value.int .i64 (0), Value.slice none 0 0, Value.slice none 0 0, Value.slice none 0 0]) (es := [Value.int .i64 (0), Value.int .i64 (0), Value.slice none 0 0, Value.slice none 0 0, Value.slice none 0 0]) hS8801 A26 rfl p8783 rfl rfl (one_cons rfl (one_cons rfl (one_cons rfl (one_cons rfl (one_cons rfl one_nil))))) (Nat.le_of_ble_eq_true rfl) rfl ?_)
        intro w8802 hS8803
        refine WL_step rfl rfl (Exec.assign (v := errV 39 (some 5)) rfl rfl ?_)
        refine WL_nil (at_normal ?_)
        refine W_ret (at_ret ?_)
        have e8805 := Option.some.inj hm
        subst r
        refine ⟨_, retG2 rfl ⟨_, _, p8783, cellRes (hS8803) A26⟩ rfl, ?_⟩
        have hS8806 := (hS8803).drop
        have hS8807 := (hS8806).drop
        have hS8808 := (hS8807).drop
        exact ⟨s8778, (Value.slice none 0 0), (Value.slice none 0 0), (Value.slice none 0 0), l8779, hS8808, (tup2 rfl rfl), (SliceRep.nil _ _), (SliceRep.nil _ _), (SliceRep.nil _ _)⟩
      · refine W_cond_f rfl hc8797 ?_
        replace hc8797 := not_true hc8797
        refine W_skip (at_normal ?_)
        refine W_seq ?_
        obtain ⟨y8812, q8811, hm⟩ := bind_some hm
        refine W_mid (M := fun f' w' => ∃ (s8838 : PHeap) (b8835 : Nat) (v8837 : Value), PHeap.le s8778 s8838 ∧ St w0 s8838 (Res.box b8708 26 [Value.int .i64 (a152.States), Value.int .i64 (a152.Init), v153, v155, v157] :: Res.box b8711 26 [Value.int .i64 (b159.States), Value.int .i64 (b159.Init), v160, v162, v164] :: Res.box b8714 26 [Value.int .i64 (0), Value.int .i64 (0), Value.slice none 0 0, Value.slice none 0 0, Value.slice none 0 0] :: Res.box b8835 26 [Value.int .i64 (IntKind.i64.wrap (a152.States * b159.States)), Value.int .i64 (IntKind.i64.wrap ((IntKind.i64.wrap (a152.Init * b159.States)) + b159.Init)), v8837, Value.slice none 0 0, Value.slice none 0 0] :: Res.arr (encInt .i64) 3 v8837 y8812 :: H) w' ∧ f' 2 = Value.pointer (some ⟨b8708, 0, none⟩) ∧ f' 3 = Value.pointer (some ⟨b8711, 0, none⟩) ∧ f' 4 = Value.pointer (some ⟨b8714, 0, none⟩) ∧ f' 6 = Value.pointer (some ⟨b8835, 0, none⟩)) ?_ ?_
        · refine W_dl (n0 := 18) (.q 0 (.q 1 (.q 2 (.q 3 (.q 4 (.q 5 (.q 6 (.q 7 (.q 8 (.q 9 (.q 10 (.q 11 (.q 12 (.q 13 (.q 14 (.alt (.e 15 [0, 1, 2, 3, 4, 5, 6, 7, 8, 9, 10, 11, 12] (.q 16 (.e 17 [0, 1, 2, 3, 4, 5, 6, 7, 8, 9, 10, 11, 12, 16] .done))) (.e 17 [0, 1, 2, 3, 4, 5, 6, 7, 8, 9, 10, 11, 12, 13, 14] (.e 15 [0, 1, 2, 3, 4, 5, 6, 7, 8, 9, 10, 11, 12] (.q 16 .done))))))))))))))))))) hmix (by kernel_rfl) (by kernel_rfl) ?_
          have hS8839 := hS8780.drew
          refine DL_q rfl rfl (Exec.field F26_0 rfl p8781 rfl ⟨rfl, ?_⟩)
          refine DL_q rfl rfl (Exec.load_box (hS8839) A3 rfl rfl rfl ⟨rfl, ?_⟩)
          refine DL_q rfl rfl (Exec.field F26_0 rfl p8782 rfl ⟨rfl, ?_⟩)
          refine DL_q rfl rfl (Exec.load_box ((hS8839).f1) A3 rfl rfl rfl ⟨rfl, ?_⟩)
          refine DL_q rfl rfl (Exec.mul rfl rfl rfl ⟨rfl, ?_⟩)
          refine DL_q rfl rfl (Exec.field F26_1 rfl p8781 rfl ⟨rfl, ?_⟩)
          refine DL_q rfl rfl (Exec.load_box (hS8839) A3 rfl rfl rfl ⟨rfl, ?_⟩)
          refine DL_q rfl rfl (Exec.field F26_0 rfl p8782 rfl ⟨rfl, ?_⟩)
          refine DL_q rfl rfl (Exec.load_box ((hS8839).f1) A3 rfl rfl rfl ⟨rfl, ?_⟩)
          refine DL_q rfl rfl (Exec.mul rfl rfl rfl ⟨rfl, ?_⟩)
          refine DL_q rfl rfl (Exec.field F26_1 rfl p8782 rfl ⟨rfl, ?_⟩)
          refine DL_q rfl rfl (Exec.load_box ((hS8839).f1) A3 rfl rfl rfl ⟨rfl, ?_⟩)
          refine DL_q rfl rfl (Exec.add rfl rfl rfl ⟨rfl, ?_⟩)
          refine DL_q rfl rfl (Exec.field F26_2 rfl p8781 rfl ⟨rfl, ?_⟩)
          refine DL_q rfl rfl (Exec.load_box (hS8839) A22 rfl rfl rfl ⟨rfl, ?_⟩)
          refine DL_alt ?_ ?_
          · refine DL_e rfl rfl (Exec.call rfl rfl Try.func36 rfl N36 (args_cons rfl args_nil) ((slices_Clone___int_int__sim q8811 hS8839 (a154.mono l8779)).mono ?_))
            rintro _ w8840 ⟨v8844, rfl, ⟨s8841, _, l8842, hS8843, rfl⟩⟩
            refine ⟨_, rfl, ?_⟩
            refine ⟨(ag_cons (ag_r rfl rfl (Exec.field F26_0 rfl p8781 rfl ⟨rfl, rfl⟩)) (ag_cons (ag_r rfl rfl (Exec.load_box ((hS8843).f1) A3 rfl rfl rfl ⟨rfl, rfl⟩)) (ag_cons (ag_r rfl rfl (Exec.field F26_0 rfl p8782 rfl ⟨rfl, rfl⟩)) (ag_cons (ag_r rfl rfl (Exec.load_box ((hS8843).f2) A3 rfl rfl rfl ⟨rfl, rfl⟩)) (ag_cons (ag_r rfl rfl (Exec.mul rfl rfl rfl ⟨rfl, rfl⟩)) (ag_cons (ag_r rfl rfl (Exec.field F26_1 rfl p8781 rfl ⟨rfl, rfl⟩)) (ag_cons (ag_r rfl rfl (Exec.load_box ((hS8843).f1) A3 rfl rfl rfl ⟨rfl, rfl⟩)) (ag_cons (ag_r rfl rfl (Exec.field F26_0 rfl p8782 rfl ⟨rfl, rfl⟩)) (ag_cons (ag_r rfl rfl (Exec.load_box ((hS8843).f2) A3 rfl rfl rfl ⟨rfl, rfl⟩)) (ag_cons (ag_r rfl rfl (Exec.mul rfl rfl rfl ⟨rfl, rfl⟩)) (ag_cons (ag_r rfl rfl (Exec.field F26_1 rfl p8782 rfl ⟨rfl, rfl⟩)) (ag_cons (ag_r rfl rfl (Exec.load_box ((hS8843).f2) A3 rfl rfl rfl ⟨rfl, rfl⟩)) (ag_cons (ag_r rfl rfl (Exec.add rfl rfl rfl ⟨rfl, rfl⟩)) ag_nil))))))))))))), ?_⟩
            refine DL_q rfl rfl (Exec.build rfl (parts_cons (c := [Value.int .i64 (IntKind.i64.wrap (a152.States * b159.States))]) (cells_of rfl rfl) (parts_cons (c := [Value.int .i64 (IntKind.i64.wrap ((IntKind.i64.wrap (a152.Init * b159.States)) + b159.Init))]) (cells_of rfl rfl) (parts_cons (c := [v8844]) (cells_of rfl (cells_one (hS8843).arr_one)) parts_nil))) (v := Value.agg #[Value.int .i64 (IntKind.i64.wrap (a152.States * b159.States)), Value.int .i64 (IntKind.i64.wrap ((IntKind.i64.wrap (a152.Init * b159.States)) + b159.Init)), v8844, Value.slice none 0 0, Value.slice none 0 0]) (fun _ => by kernel_rfl) ⟨rfl, ?_⟩)
            refine DL_e rfl rfl (Exec.alloc (cs := [Value.int .i64 (0), Value.int .i64 (0), Value.slice none 0 0, Value.slice none 0 0, Value.slice none 0 0]) hS8843 Z26 rfl rfl ?_)
            intro b8845 w8846 hS8847
            refine ⟨(ag_cons (ag_r rfl rfl (Exec.field F26_0 rfl p8781 rfl ⟨rfl, rfl⟩)) (ag_cons (ag_r rfl rfl (Exec.load_box ((hS8847).f2) A3 rfl rfl rfl ⟨rfl, rfl⟩)) (ag_cons (ag_r rfl rfl (Exec.field F26_0 rfl p8782 rfl ⟨rfl, rfl⟩)) (ag_cons (ag_r rfl rfl (Exec.load_box ((hS8847).f3) A3 rfl rfl rfl ⟨rfl, rfl⟩)) (ag_cons (ag_r rfl rfl (Exec.mul rfl rfl rfl ⟨rfl, rfl⟩)) (ag_cons (ag_r rfl rfl (Exec.field F26_1 rfl p8781 rfl ⟨rfl, rfl⟩)) (ag_cons (ag_r rfl rfl (Exec.load_box ((hS8847).f2) A3 rfl rfl rfl ⟨rfl, rfl⟩)) (ag_cons (ag_r rfl rfl (Exec.field F26_0 rfl p8782 rfl ⟨rfl, rfl⟩)) (ag_cons (ag_r rfl rfl (Exec.load_box ((hS8847).f3) A3 rfl rfl rfl ⟨rfl, rfl⟩)) (ag_cons (ag_r rfl rfl (Exec.mul rfl rfl rfl ⟨rfl, rfl⟩)) (ag_cons (ag_r rfl rfl (Exec.field F26_1 rfl p8782 rfl ⟨rfl, rfl⟩)) (ag_cons (ag_r rfl rfl (Exec.load_box ((hS8847).f3) A3 rfl rfl rfl ⟨rfl, rfl⟩)) (ag_cons (ag_r rfl rfl (Exec.add rfl rfl rfl ⟨rfl, rfl⟩)) (ag_cons (ag_r rfl rfl (Exec.build rfl (parts_cons (c := [Value.int .i64 (IntKind.i64.wrap (a152.States * b159.States))]) (cells_of rfl rfl) (parts_cons (c := [Value.int .i64 (IntKind.i64.wrap ((IntKind.i64.wrap (a152.Init * b159.States)) + b159.Init))]) (cells_of rfl rfl) (parts_cons (c := [v8844]) (cells_of rfl (cells_one ((hS8847).f1).arr_one)) parts_nil))) (v := Value.agg #[Value.int .i64 (IntKind.i64.wrap (a152.States * b159.States)), Value.int .i64 (IntKind.i64.wrap ((IntKind.i64.wrap (a152.Init * b159.States)) + b159.Init)), v8844, Value.slice none 0 0, Value.slice none 0 0]) (fun _ => by kernel_rfl) ⟨rfl, rfl⟩)) ag_nil)))))))))))))), ?_⟩
            refine DL_done ?_
            refine WL_step rfl rfl (Exec.store_box (ds := [Value.int .i64 (IntKind.i64.wrap (a152.States * b159.States)), Value.int .i64 (IntKind.i64.wrap ((IntKind.i64.wrap (a152.Init * b159.States)) + b159.Init)), v8844, Value.slice none 0 0, Value.slice none 0 0]) (es := [Value.int .i64 (IntKind.i64.wrap (a152.States * b159.States)), Value.int .i64 (IntKind.i64.wrap ((IntKind.i64.wrap (a152.Init * b159.States)) + b159.Init)), v8844, Value.slice none 0 0, Value.slice none 0 0]) hS8847 A26 rfl rfl rfl rfl (one_cons rfl (one_cons rfl (one_cons ((hS8847).f1).arr_one (one_cons rfl (one_cons rfl one_nil))))) (Nat.le_of_ble_eq_true rfl) rfl ?_)
            intro w8848 hS8849
            refine WL_nil (at_normal ?_)
            have hS8850 := (hS8849).f1
            have hS8851 := (hS8850).f1
            have hS8852 := (hS8851).f4
            have hS8853 := (hS8852).f4
            have hS8854 := (hS8853).f4
            exact ⟨s8841, b8845, v8844, l8842, hS8854, p8781, p8782, p8783, rfl⟩
          refine DL_e rfl rfl (Exec.alloc (cs := [Value.int .i64 (0), Value.int .i64 (0), Value.slice none 0 0, Value.slice none 0 0, Value.slice none 0 0]) hS8839 Z26 rfl rfl ?_)
          intro b8855 w8856 hS8857
          refine ⟨(ag_cons (ag_r rfl rfl (Exec.field F26_0 rfl p8781 rfl ⟨rfl, rfl⟩)) (ag_cons (ag_r rfl rfl (Exec.load_box ((hS8857).f1) A3 rfl rfl rfl ⟨rfl, rfl⟩)) (ag_cons (ag_r rfl rfl (Exec.field F26_0 rfl p8782 rfl ⟨rfl, rfl⟩)) (ag_cons (ag_r rfl rfl (Exec.load_box ((hS8857).f2) A3 rfl rfl rfl ⟨rfl, rfl⟩)) (ag_cons (ag_r rfl rfl (Exec.mul rfl rfl rfl ⟨rfl, rfl⟩)) (ag_cons (ag_r rfl rfl (Exec.field F26_1 rfl p8781 rfl ⟨rfl, rfl⟩)) (ag_cons (ag_r rfl rfl (Exec.load_box ((hS8857).f1) A3 rfl rfl rfl ⟨rfl, rfl⟩)) (ag_cons (ag_r rfl rfl (Exec.field F26_0 rfl p8782 rfl ⟨rfl, rfl⟩)) (ag_cons (ag_r rfl rfl (Exec.load_box ((hS8857).f2) A3 rfl rfl rfl ⟨rfl, rfl⟩)) (ag_cons (ag_r rfl rfl (Exec.mul rfl rfl rfl ⟨rfl, rfl⟩)) (ag_cons (ag_r rfl rfl (Exec.field F26_1 rfl p8782 rfl ⟨rfl, rfl⟩)) (ag_cons (ag_r rfl rfl (Exec.load_box ((hS8857).f2) A3 rfl rfl rfl ⟨rfl, rfl⟩)) (ag_cons (ag_r rfl rfl (Exec.add rfl rfl rfl ⟨rfl, rfl⟩)) (ag_cons (ag_r rfl rfl (Exec.field F26_2 rfl p8781 rfl ⟨rfl, rfl⟩)) (ag_cons (ag_r rfl rfl (Exec.load_box ((hS8857).f1) A22 rfl rfl rfl ⟨rfl, rfl⟩)) ag_nil))))))))))))))), ?_⟩
          refine DL_e rfl rfl (Exec.call rfl rfl Try.func36 rfl N36 (args_cons rfl args_nil) ((slices_Clone___int_int__sim q8811 hS8857 (a154.mono l8779)).mono ?_))
          rintro _ w8858 ⟨v8862, rfl, ⟨s8859, _, l8860, hS8861, rfl⟩⟩
          refine ⟨_, rfl, ?_⟩
          refine ⟨(ag_cons (ag_r rfl rfl (Exec.field F26_0 rfl p8781 rfl ⟨rfl, rfl⟩)) (ag_cons (ag_r rfl rfl (Exec.load_box ((hS8861).f2) A3 rfl rfl rfl ⟨rfl, rfl⟩)) (ag_cons (ag_r rfl rfl (Exec.field F26_0 rfl p8782 rfl ⟨rfl, rfl⟩)) (ag_cons (ag_r rfl rfl (Exec.load_box ((hS8861).f3) A3 rfl rfl rfl ⟨rfl, rfl⟩)) (ag_cons (ag_r rfl rfl (Exec.mul rfl rfl rfl ⟨rfl, rfl⟩)) (ag_cons (ag_r rfl rfl (Exec.field F26_1 rfl p8781 rfl ⟨rfl, rfl⟩)) (ag_cons (ag_r rfl rfl (Exec.load_box ((hS8861).f2) A3 rfl rfl rfl ⟨rfl, rfl⟩)) (ag_cons (ag_r rfl rfl (Exec.field F26_0 rfl p8782 rfl ⟨rfl, rfl⟩)) (ag_cons (ag_r rfl rfl (Exec.load_box ((hS8861).f3) A3 rfl rfl rfl ⟨rfl, rfl⟩)) (ag_cons (ag_r rfl rfl (Exec.mul rfl rfl rfl ⟨rfl, rfl⟩)) (ag_cons (ag_r rfl rfl (Exec.field F26_1 rfl p8782 rfl ⟨rfl, rfl⟩)) (ag_cons (ag_r rfl rfl (Exec.load_box ((hS8861).f3) A3 rfl rfl rfl ⟨rfl, rfl⟩)) (ag_cons (ag_r rfl rfl (Exec.add rfl rfl rfl ⟨rfl, rfl⟩)) ag_nil))))))))))))), ?_⟩
          refine DL_q rfl rfl (Exec.build rfl (parts_cons (c := [Value.int .i64 (IntKind.i64.wrap (a152.States * b159.States))]) (cells_of rfl rfl) (parts_cons (c := [Value.int .i64 (IntKind.i64.wrap ((IntKind.i64.wrap (a152.Init * b159.States)) + b159.Init))]) (cells_of rfl rfl) (parts_cons (c := [v8862]) (cells_of rfl (cells_one (hS8861).arr_one)) parts_nil))) (v := Value.agg #[Value.int .i64 (IntKind.i64.wrap (a152.States * b159.States)), Value.int .i64 (IntKind.i64.wrap ((IntKind.i64.wrap (a152.Init * b159.States)) + b159.Init)), v8862, Value.slice none 0 0, Value.slice none 0 0]) (fun _ => by kernel_rfl) ⟨rfl, ?_⟩)
          refine DL_done ?_
          have hS8863 := (hS8861).f1
          refine WL_step rfl rfl (Exec.store_box (ds := [Value.int .i64 (IntKind.i64.wrap (a152.States * b159.States)), Value.int .i64 (IntKind.i64.wrap ((IntKind.i64.wrap (a152.Init * b159.States)) + b159.Init)), v8862, Value.slice none 0 0, Value.slice none 0 0]) (es := [Value.int .i64 (IntKind.i64.wrap (a152.States * b159.States)), Value.int .i64 (IntKind.i64.wrap ((IntKind.i64.wrap (a152.Init * b159.States)) + b159.Init)), v8862, Value.slice none 0 0, Value.slice none 0 0]) hS8863 A26 rfl rfl rfl rfl (one_cons rfl (one_cons rfl (one_cons ((hS8863).f1).arr_one (one_cons rfl (one_cons rfl one_nil))))) (Nat.le_of_ble_eq_true rfl) rfl ?_)
          intro w8864 hS8865
          refine WL_nil (at_normal ?_)
          have hS8866 := (hS8865).f1
          have hS8867 := (hS8866).f1
          have hS8868 := (hS8867).f4
          have hS8869 := (hS8868).f4
          have hS8870 := (hS8869).f4
          exact ⟨s8859, b8855, v8862, l8860, hS8870, p8781, p8782, p8783, rfl⟩
        · intro f8871 w8872 hM8873
          obtain ⟨s8874, b8835, v8837, l8875, hS8876, p8877, p8878, p8879, p8880⟩ := hM8873
          refine (at_normal ?_)
          refine W_seq ?_
          refine W_seq ?_
          refine W_region ?_
          refine WL_step rfl rfl (Exec.field F26_0 rfl p8877 rfl ?_)
          refine WL_step rfl rfl (Exec.load_box (hS8876) A3 rfl rfl rfl ?_)
          refine WL_step rfl rfl (Exec.move (v := Value.int .i64 (0)) rfl rfl ?_)
          refine WL_nil (at_normal ?_)
          obtain ⟨u8881, q8882, hm⟩ := bind_some hm
          obtain ⟨z9562, hB10228, hm⟩ := bind_some hm
          refine W_block (W_forS (fun k' s' f' w' => (fun (z9562 : (List Bool)) => ∃ (s10229 : PHeap) (v9563 : Value), PHeap.le s8874 s10229 ∧ St w0 s10229 (Res.box b8708 26 [Value.int .i64 (a152.States), Value.int .i64 (a152.Init), v153, v155, v157] :: Res.box b8711 26 [Value.int .i64 (b159.States), Value.int .i64 (b159.Init), v160, v162, v164] :: Res.box b8714 26 [Value.int .i64 (0), Value.int .i64 (0), Value.slice none 0 0, Value.slice none 0 0, Value.slice none 0 0] :: Res.box b8835 26 [Value.int .i64 (IntKind.i64.wrap (a152.States * b159.States)), Value.int .i64 (IntKind.i64.wrap ((IntKind.i64.wrap (a152.Init * b159.States)) + b159.Init)), v8837, Value.slice none 0 0, v9563] :: Res.arr (encInt .i64) 3 v8837 y8812 :: Res.arr encBool 4 v9563 z9562 :: H) w' ∧ f' 2 = Value.pointer (some ⟨b8708, 0, none⟩) ∧ f' 3 = Value.pointer (some ⟨b8711, 0, none⟩) ∧ f' 4 = Value.pointer (some ⟨b8714, 0, none⟩) ∧ f' 6 = Value.pointer (some ⟨b8835, 0, none⟩) ∧ f' 62 = Value.int .i64 (a152.States) ∧ f' 63 = Value.int .i64 (k' : Int)) s') hB10228 ?_ ?_ ?_)
          · have hS10230 := hS8876.nilArr encBool 4
            have hS10231 := (hS10230).f5
            have hS10232 := (hS10231).f5
            have hS10233 := (hS10232).f5
            have hS10234 := (hS10233).f5
            have hS10235 := (hS10234).f5
            exact ⟨s8874, (Value.slice none 0 0), (PHeap.le_refl _), hS10235, p8877, p8878, p8879, p8880, rfl, rfl⟩
          · intro i8883 z9562 s10237 f10238 w10239 hi10240 hI10241 hm10242
            obtain ⟨s10243, v9563, l10244, hS10245, p10246, p10247, p10248, p10249, p10250, x10251⟩ := hI10241
            refine W_seq ?_
            refine W_region ?_
            refine WL_step rfl rfl (Exec.lss rfl x10251 p10250 ?_)
            refine WL_nil (at_normal ?_)
            refine W_seq ?_
            refine W_true (congrArg Value.bool (decide_eq_true (by omega))) ?_
            refine W_skip (at_normal ?_)
            refine W_seq ?_
            refine W_block ?_
            refine W_seq ?_
            refine W_region ?_
            refine WL_step rfl rfl (Exec.move (v := Value.int .i64 ((i8883 : Int))) rfl x10251 ?_)
            refine WL_step rfl rfl (Exec.assign (v := Value.int .i64 ((i8883 : Int))) rfl rfl ?_)
            refine WL_nil (at_normal ?_)
            refine W_seq ?_
            refine W_region ?_
            refine WL_step rfl rfl (Exec.field F26_0 rfl p10247 rfl ?_)
            refine WL_step rfl rfl (Exec.load_box ((hS10245).f1) A3 rfl rfl rfl ?_)
            refine WL_step rfl rfl (Exec.move (v := Value.int .i64 (0)) rfl rfl ?_)
            refine WL_nil (at_normal ?_)
            obtain ⟨u10252, q10253, hm10242⟩ := bind_some hm10242
            obtain ⟨l10457, hB10663, hm10242⟩ := bind_some hm10242
            refine W_block (W_forS (fun k' s' f' w' => (fun (l10457 : (List Bool)) => ∃ (s10664 : PHeap) (v10458 : Value), PHeap.le s10243 s10664 ∧ St w0 s10664 (Res.box b8708 26 [Value.int .i64 (a152.States), Value.int .i64 (a152.Init), v153, v155, v157] :: Res.box b8711 26 [Value.int .i64 (b159.States), Value.int .i64 (b159.Init), v160, v162, v164] :: Res.box b8714 26 [Value.int .i64 (0), Value.int .i64 (0), Value.slice none 0 0, Value.slice none 0 0, Value.slice none 0 0] :: Res.box b8835 26 [Value.int .i64 (IntKind.i64.wrap (a152.States * b159.States)), Value.int .i64 (IntKind.i64.wrap ((IntKind.i64.wrap (a152.Init * b159.States)) + b159.Init)), v8837, Value.slice none 0 0, v10458] :: Res.arr (encInt .i64) 3 v8837 y8812 :: Res.arr encBool 4 v10458 l10457 :: H) w' ∧ f' 2 = Value.pointer (some ⟨b8708, 0, none⟩) ∧ f' 3 = Value.pointer (some ⟨b8711, 0, none⟩) ∧ f' 4 = Value.pointer (some ⟨b8714, 0, none⟩) ∧ f' 6 = Value.pointer (some ⟨b8835, 0, none⟩) ∧ f' 7 = Value.int .i64 ((i8883 : Int)) ∧ f' 62 = Value.int .i64 (a152.States) ∧ f' 63 = Value.int .i64 ((i8883 : Int)) ∧ f' 67 = Value.int .i64 (b159.States) ∧ f' 68 = Value.int .i64 (k' : Int)) s') hB10663 ?_ ?_ ?_)
            · have hS10665 := (hS10245).f5
              have hS10666 := (hS10665).f5
              have hS10667 := (hS10666).f5
              have hS10668 := (hS10667).f5
              have hS10669 := (hS10668).f5
              have hS10670 := (hS10669).f5
              exact ⟨s10243, v9563, (PHeap.le_refl _), hS10670, p10246, p10247, p10248, p10249, rfl, p10250, x10251, rfl, rfl⟩
            · intro i10254 l10457 s10672 f10673 w10674 hi10675 hI10676 hm10677
              obtain ⟨s10678, v10458, l10679, hS10680, p10681, p10682, p10683, p10684, p10685, p10686, p10687, p10688, x10689⟩ := hI10676
              refine W_seq ?_
              refine W_region ?_
              refine WL_step rfl rfl (Exec.lss rfl x10689 p10688 ?_)
              refine WL_nil (at_normal ?_)
              refine W_seq ?_
              refine W_true (congrArg Value.bool (decide_eq_true (by omega))) ?_
              refine W_skip (at_normal ?_)
              refine W_seq ?_
              refine W_block ?_
              refine W_seq ?_
              refine W_region ?_
              refine WL_step rfl rfl (Exec.move (v := Value.int .i64 ((i10254 : Int))) rfl x10689 ?_)
              refine WL_step rfl rfl (Exec.assign (v := Value.int .i64 ((i10254 : Int))) rfl rfl ?_)
              refine WL_nil (at_normal ?_)
              obtain ⟨l10774, ht10776, hm10677⟩ := bind_some hm10677
              refine W_mid (M := fun f' w' => (fun (l10774 : (List Bool)) => ∃ (s10777 : PHeap) (v10775 : Value), PHeap.le s10678 s10777 ∧ St w0 s10777 (Res.box b8708 26 [Value.int .i64 (a152.States), Value.int .i64 (a152.Init), v153, v155, v157] :: Res.box b8711 26 [Value.int .i64 (b159.States), Value.int .i64 (b159.Init), v160, v162, v164] :: Res.box b8714 26 [Value.int .i64 (0), Value.int .i64 (0), Value.slice none 0 0, Value.slice none 0 0, Value.slice none 0 0] :: Res.box b8835 26 [Value.int .i64 (IntKind.i64.wrap (a152.States * b159.States)), Value.int .i64 (IntKind.i64.wrap ((IntKind.i64.wrap (a152.Init * b159.States)) + b159.Init)), v8837, Value.slice none 0 0, v10775] :: Res.arr (encInt .i64) 3 v8837 y8812 :: Res.arr encBool 4 v10775 l10774 :: H) w' ∧ f' 2 = Value.pointer (some ⟨b8708, 0, none⟩) ∧ f' 3 = Value.pointer (some ⟨b8711, 0, none⟩) ∧ f' 4 = Value.pointer (some ⟨b8714, 0, none⟩) ∧ f' 6 = Value.pointer (some ⟨b8835, 0, none⟩) ∧ f' 7 = Value.int .i64 ((i8883 : Int)) ∧ f' 62 = Value.int .i64 (a152.States) ∧ f' 63 = Value.int .i64 ((i8883 : Int)) ∧ f' 67 = Value.int .i64 (b159.States) ∧ f' 68 = Value.int .i64 ((i10254 : Int))) l10774) ?_ ?_
              · refine W_dl (n0 := 16) (.q 0 (.q 1 (.q 2 (.q 3 (.q 4 (.q 5 (.q 6 (.q 7 (.q 8 (.q 9 (.q 10 (.q 11 (.q 12 (.q 13 (.e 14 [0, 1] (.e 15 [] .done)))))))))))))))) hmix (by kernel_rfl) (by kernel_rfl) ?_
                have hS10820 := hS10680.drew
                refine DL_q rfl rfl (Exec.field F26_4 rfl p10684 rfl ⟨rfl, ?_⟩)
                refine DL_q rfl rfl (Exec.load_box ((hS10820).f3) A24 rfl rfl rfl ⟨rfl, ?_⟩)
                refine DL_q rfl rfl (Exec.field F26_4 rfl p10681 rfl ⟨rfl, ?_⟩)
                refine DL_q rfl rfl (Exec.load_box (hS10820) A24 rfl rfl rfl ⟨rfl, ?_⟩)
                refine DL_q rfl rfl (Exec.move (v := Value.int .i64 ((i8883 : Int))) rfl p10685 ⟨rfl, ?_⟩)
                obtain ⟨x10821, q10822, ht10776⟩ := bind_some ht10776
                refine DL_q rfl rfl (Exec.index_repE S24 rfl rfl rfl (a158.mono (PHeap.le.trans (PHeap.le.trans (PHeap.le.trans l8779 l8875) l10244) l10679)) q10822 ?_)
                intro b10823 o10824 a10825 e10826
                refine ⟨rfl, ?_⟩
                refine DL_q rfl rfl (Exec.load_at (E := encBool) hS10820 A4 rfl rfl rfl a10825 ?_)
                intro v10827 q10828
                obtain rfl := encBool_val.1 q10828
                refine ⟨rfl, ?_⟩
                refine DL_q rfl rfl (Exec.move (v := Value.bool (x10821)) rfl rfl ⟨rfl, ?_⟩)
                rcases ite_some ht10776 with ⟨hc10829, ht10776⟩ | ⟨hc10829, ht10776⟩
                · refine DL_qg rfl rfl (yield_of rfl (congrArg Value.bool hc10829)) (Exec.field F26_4 rfl p10682 rfl ⟨rfl, ?_⟩)
                  refine DL_qg rfl rfl (yield_of rfl (congrArg Value.bool hc10829)) (Exec.load_box ((hS10820).f1) A24 rfl rfl rfl ⟨rfl, ?_⟩)
                  refine DL_qg rfl rfl (yield_of rfl (congrArg Value.bool hc10829)) (Exec.move (v := Value.int .i64 ((i10254 : Int))) rfl rfl ⟨rfl, ?_⟩)
                  obtain ⟨x10830, q10831, ht10776⟩ := bind_some ht10776
                  refine DL_qg rfl rfl (yield_of rfl (congrArg Value.bool hc10829)) (Exec.index_repE S24 rfl rfl rfl (a165.mono (PHeap.le.trans (PHeap.le.trans (PHeap.le.trans l8779 l8875) l10244) l10679)) q10831 ?_)
                  intro b10832 o10833 a10834 e10835
                  refine ⟨rfl, ?_⟩
                  refine DL_qg rfl rfl (yield_of rfl (congrArg Value.bool hc10829)) (Exec.load_at (E := encBool) hS10820 A4 rfl rfl rfl a10834 ?_)
                  intro v10836 q10837
                  obtain rfl := encBool_val.1 q10837
                  refine ⟨rfl, ?_⟩
                  refine DL_q rfl rfl (Exec.pick_t (v := Value.bool (x10830)) rfl (congrArg Value.bool hc10829) rfl ⟨rfl, ?_⟩)
                  refine DL_e rfl rfl (Exec.buildSlice (Te := 4) (cs := [Value.bool (x10830)]) hS10820 rfl (parts_cons (c := [Value.bool (x10830)]) (cells_of rfl rfl) parts_nil) (fun _ => by kernel_rfl) ?_)
                  intro b10838 w10839 hS10840
                  refine ⟨(ag_cons (ag_r rfl rfl (Exec.field F26_4 rfl p10684 rfl ⟨rfl, rfl⟩)) (ag_cons (ag_r rfl rfl (Exec.load_box ((hS10840).f4) A24 rfl rfl rfl ⟨rfl, rfl⟩)) ag_nil)), ?_⟩
                  obtain ⟨l10841, q10842, ht10776⟩ := bind_some ht10776
                  have hS10843 := (hS10840).f6
                  refine DL_e rfl rfl (Exec.append_box (E := encBool) (ys := [x10830]) hS10843 S24 Z4 rfl (by decide) rfl rfl rfl rfl ⟨[Value.bool (x10830)], [], rfl, rfl, rfl⟩ rfl q10842 ?_)
                  intro v10844 w10845 hS10846
                  refine ⟨ag_nil, ?_⟩
                  refine DL_done ?_
                  refine WL_step rfl rfl (Exec.field F26_4 rfl p10684 rfl ?_)
                  have hS10847 := (hS10846).f4
                  refine WL_step rfl rfl (Exec.store_box (ds := [v10844]) (es := [Value.int .i64 (IntKind.i64.wrap (a152.States * b159.States)), Value.int .i64 (IntKind.i64.wrap ((IntKind.i64.wrap (a152.Init * b159.States)) + b159.Init)), v8837, Value.slice none 0 0, v10844]) hS10847 A24 rfl rfl rfl (cells_one ((hS10847).f1).arr_one) (one_cons ((hS10847).f1).arr_one one_nil) (Nat.le_of_ble_eq_true rfl) rfl ?_)
                  intro w10848 hS10849
                  refine WL_nil (at_normal ?_)
                  have e10850 := Option.some.inj ht10776
                  subst l10774
                  have hS10851 := (hS10849).f1
                  have hS10852 := (hS10851).f5
                  have hS10853 := (hS10852).f2
                  have hS10854 := (hS10853).f5
                  have hS10855 := (hS10854).f5
                  have hS10856 := (hS10855).f5
                  exact ⟨s10678, v10844, (PHeap.le_refl _), hS10856, p10681, p10682, p10683, p10684, p10685, p10686, p10687, p10688, x10689⟩
                · replace hc10829 := not_true hc10829
                  refine DL_qp rfl rfl (yield_of rfl (congrArg Value.bool hc10829)) rfl ?_
                  refine DL_qp rfl rfl (yield_of rfl (congrArg Value.bool hc10829)) rfl ?_
                  refine DL_qp rfl rfl (yield_of rfl (congrArg Value.bool hc10829)) rfl ?_
                  refine DL_qp rfl rfl (yield_of rfl (congrArg Value.bool hc10829)) rfl ?_
                  refine DL_qp rfl rfl (yield_of rfl (congrArg Value.bool hc10829)) rfl ?_
                  refine DL_q rfl rfl (Exec.pick_f (v := Value.bool (false)) rfl (congrArg Value.bool hc10829) rfl ⟨rfl, ?_⟩)
                  refine DL_e rfl rfl (Exec.buildSlice (Te := 4) (cs := [Value.bool (false)]) hS10820 rfl (parts_cons (c := [Value.bool (false)]) (cells_of rfl rfl) parts_nil) (fun _ => by kernel_rfl) ?_)
                  intro b10857 w10858 hS10859
                  refine ⟨(ag_cons (ag_r rfl rfl (Exec.field F26_4 rfl p10684 rfl ⟨rfl, rfl⟩)) (ag_cons (ag_r rfl rfl (Exec.load_box ((hS10859).f4) A24 rfl rfl rfl ⟨rfl, rfl⟩)) ag_nil)), ?_⟩
                  obtain ⟨l10860, q10861, ht10776⟩ := bind_some ht10776
                  have hS10862 := (hS10859).f6
                  refine DL_e rfl rfl (Exec.append_box (E := encBool) (ys := [false]) hS10862 S24 Z4 rfl (by decide) rfl rfl rfl rfl ⟨[Value.bool (false)], [], rfl, rfl, rfl⟩ rfl q10861 ?_)
                  intro v10863 w10864 hS10865
                  refine ⟨ag_nil, ?_⟩
                  refine DL_done ?_
                  refine WL_step rfl rfl (Exec.field F26_4 rfl p10684 rfl ?_)
                  have hS10866 := (hS10865).f4
                  refine WL_step rfl rfl (Exec.store_box (ds := [v10863]) (es := [Value.int .i64 (IntKind.i64.wrap (a152.States * b159.States)), Value.int .i64 (IntKind.i64.wrap ((IntKind.i64.wrap (a152.Init * b159.States)) + b159.Init)), v8837, Value.slice none 0 0, v10863]) hS10866 A24 rfl rfl rfl (cells_one ((hS10866).f1).arr_one) (one_cons ((hS10866).f1).arr_one one_nil) (Nat.le_of_ble_eq_true rfl) rfl ?_)
                  intro w10867 hS10868
                  refine WL_nil (at_normal ?_)
                  have e10869 := Option.some.inj ht10776
                  subst l10774
                  have hS10870 := (hS10868).f1
                  have hS10871 := (hS10870).f5
                  have hS10872 := (hS10871).f2
                  have hS10873 := (hS10872).f5
                  have hS10874 := (hS10873).f5
                  have hS10875 := (hS10874).f5
                  exact ⟨s10678, v10863, (PHeap.le_refl _), hS10875, p10681, p10682, p10683, p10684, p10685, p10686, p10687, p10688, x10689⟩
              · intro f10876 w10877 hM10878
                obtain ⟨s10879, v10775, l10880, hS10881, p10882, p10883, p10884, p10885, p10886, p10887, p10888, p10889, p10890⟩ := hM10878
                refine (ib_normal (at_normal ?_))
                refine W_region ?_
                refine WL_step rfl rfl (Exec.add rfl p10890 rfl ?_)
                refine WL_step rfl rfl (Exec.move (v := Value.int .i64 (IntKind.i64.wrap ((i10254 : Int) + 1))) rfl rfl ?_)
                refine WL_nil (at_normal ?_)
                have e10891 := Option.some.inj hm10677
                subst s10672
                have hS10892 := (hS10881).f5
                have hS10893 := (hS10892).f5
                have hS10894 := (hS10893).f5
                have hS10895 := (hS10894).f5
                have hS10896 := (hS10895).f5
                have hS10897 := (hS10896).f5
                exact ⟨s10879, v10775, (PHeap.le.trans l10679 l10880), hS10897, p10882, p10883, p10884, p10885, p10886, p10887, p10888, p10889, (Eq.trans rfl (wrap_up hi10675 (by have h := must_some q10253; simp at h; simp only [maxLen]; omega)))⟩
            · intro f10898 w10899 hI10900
              obtain ⟨s10901, v10458, l10902, hS10903, p10904, p10905, p10906, p10907, p10908, p10909, p10910, p10911, x10912⟩ := hI10900
              refine W_seq ?_
              refine W_region ?_
              refine WL_step rfl rfl (Exec.lss rfl x10912 p10911 ?_)
              refine WL_nil (at_normal ?_)
              refine W_seq ?_
              refine W_false (congrArg Value.bool (decide_eq_false (by omega))) ?_
              refine W_exit (at_exit (at_exit (ib_here (ib_normal (at_normal ?_)))))
              refine W_region ?_
              refine WL_step rfl rfl (Exec.add rfl p10910 rfl ?_)
              refine WL_step rfl rfl (Exec.move (v := Value.int .i64 (IntKind.i64.wrap ((i8883 : Int) + 1))) rfl rfl ?_)
              refine WL_nil (at_normal ?_)
              have e10913 := Option.some.inj hm10242
              subst s10237
              have hS10914 := (hS10903).f5
              have hS10915 := (hS10914).f5
              have hS10916 := (hS10915).f5
              have hS10917 := (hS10916).f5
              have hS10918 := (hS10917).f5
              have hS10919 := (hS10918).f5
              exact ⟨s10901, v10458, (PHeap.le.trans l10244 l10902), hS10919, p10904, p10905, p10906, p10907, p10909, (Eq.trans rfl (wrap_up hi10240 (by have h := must_some q8882; simp at h; simp only [maxLen]; omega)))⟩
          · intro f10920 w10921 hI10922
            obtain ⟨s10923, v9563, l10924, hS10925, p10926, p10927, p10928, p10929, p10930, x10931⟩ := hI10922
            refine W_seq ?_
            refine W_region ?_
            refine WL_step rfl rfl (Exec.lss rfl x10931 p10930 ?_)
            refine WL_nil (at_normal ?_)
            refine W_seq ?_
            refine W_false (congrArg Value.bool (decide_eq_false (by omega))) ?_
            refine W_exit (at_exit (at_exit (ib_here (at_normal ?_))))
            refine W_seq ?_
            refine W_dl (n0 := 5) (.q 0 (.q 2 (.e 1 [2] (.e 3 [] (.q 4 .done))))) hmix (by kernel_rfl) (by kernel_rfl) ?_
            have hS10989 := hS10925.drew
            refine DL_q rfl rfl (Exec.load_box_agg (ds := [Value.int .i64 (a152.States), Value.int .i64 (a152.Init), v153, v155, v157]) (hS10989) A26 rfl p10926 rfl ⟨rfl, ?_⟩)
            refine DL_q rfl rfl (Exec.load_box_agg (ds := [Value.int .i64 (b159.States), Value.int .i64 (b159.Init), v160, v162, v164]) ((hS10989).f1) A26 rfl p10927 rfl ⟨rfl, ?_⟩)
            obtain ⟨y10992, q10991, hm⟩ := bind_some hm
            refine DL_e rfl rfl (Exec.call rfl rfl Try.func37 rfl N37 (args_cons rfl args_nil) ((transys_labelled_sim q10991 hS10989 (a154.mono (PHeap.le.trans (PHeap.le.trans l8779 l8875) l10924)) (a156.mono (PHeap.le.trans (PHeap.le.trans l8779 l8875) l10924)) (a158.mono (PHeap.le.trans (PHeap.le.trans l8779 l8875) l10924))).mono ?_))
            rintro _ w10993 ⟨v10997, rfl, ⟨s10994, _, l10995, hS10996, rfl, r10998⟩⟩
            refine ⟨_, rfl, ?_⟩
            refine ⟨(ag_cons (ag_r rfl rfl (Exec.load_box_agg (ds := [Value.int .i64 (b159.States), Value.int .i64 (b159.Init), v160, v162, v164]) ((hS10996).f1) A26 rfl p10927 rfl ⟨rfl, rfl⟩)) ag_nil), ?_⟩
            obtain ⟨y11001, q11000, hm⟩ := bind_some hm
            refine DL_e rfl rfl (Exec.call rfl rfl Try.func37 rfl N37 (args_cons rfl args_nil) ((transys_labelled_sim q11000 hS10996 (a161.mono (PHeap.le.trans (PHeap.le.trans (PHeap.le.trans l8779 l8875) l10924) l10995)) (a163.mono (PHeap.le.trans (PHeap.le.trans (PHeap.le.trans l8779 l8875) l10924) l10995)) (a165.mono (PHeap.le.trans (PHeap.le.trans (PHeap.le.trans l8779 l8875) l10924) l10995))).mono ?_))
            rintro _ w11002 ⟨v11006, rfl, ⟨s11003, _, l11004, hS11005, rfl, r11007⟩⟩
            refine ⟨_, rfl, ?_⟩
            refine ⟨ag_nil, ?_⟩
            refine DL_q rfl rfl (Exec.assign (v := v10997) rfl rfl ⟨rfl, ?_⟩)
            refine DL_done ?_
            refine WL_step rfl rfl (Exec.assign (v := v11006) rfl rfl ?_)
            refine WL_nil (at_normal ?_)
            refine W_seq ?_
            refine W_region ?_
            refine WL_step rfl rfl (Exec.assign (v := Value.int .i64 (0)) rfl rfl ?_)
            refine WL_nil (at_normal ?_)
            refine W_seq ?_
            refine W_seq ?_
            refine W_region ?_
            refine WL_step rfl rfl (Exec.move (v := v10997) rfl rfl ?_)
            refine WL_step rfl rfl (Exec.len_rep S63 rfl rfl (r10998.mono l11004) ?_)
            refine WL_step rfl rfl (Exec.move (v := Value.int .i64 (0)) rfl rfl ?_)
            refine WL_nil (at_normal ?_)
            obtain ⟨many11086, hB11165, hm⟩ := bind_some hm
            refine W_block (W_forS (fun k' s' f' w' => (fun (many11086 : Int) => ∃ (s11166 : PHeap) , PHeap.le s11003 s11166 ∧ St w0 s11166 (Res.box b8711 26 [Value.int .i64 (b159.States), Value.int .i64 (b159.Init), v160, v162, v164] :: Res.box b8714 26 [Value.int .i64 (0), Value.int .i64 (0), Value.slice none 0 0, Value.slice none 0 0, Value.slice none 0 0] :: Res.box b8835 26 [Value.int .i64 (IntKind.i64.wrap (a152.States * b159.States)), Value.int .i64 (IntKind.i64.wrap ((IntKind.i64.wrap (a152.Init * b159.States)) + b159.Init)), v8837, Value.slice none 0 0, v9563] :: Res.arr (encInt .i64) 3 v8837 y8812 :: Res.arr encBool 4 v9563 z9562 :: H) w' ∧ f' 3 = Value.pointer (some ⟨b8711, 0, none⟩) ∧ f' 4 = Value.pointer (some ⟨b8714, 0, none⟩) ∧ f' 6 = Value.pointer (some ⟨b8835, 0, none⟩) ∧ f' 9 = v10997 ∧ f' 10 = v11006 ∧ f' 11 = Value.int .i64 (many11086) ∧ f' 95 = Value.int .i64 ((y10992.length : Int)) ∧ f' 96 = Value.int .i64 (k' : Int)) s') hB11165 ?_ ?_ ?_)
            · have hS11167 := (hS11005).drop
              have hS11168 := (hS11167).f4
              have hS11169 := (hS11168).f4
              have hS11170 := (hS11169).f4
              have hS11171 := (hS11170).f4
              have hS11172 := (hS11171).f4
              exact ⟨s11003, (PHeap.le_refl _), hS11172, p10927, p10928, p10929, rfl, rfl, rfl, rfl, rfl⟩
            · intro i11008 many11086 s11174 f11175 w11176 hi11177 hI11178 hm11179
              obtain ⟨s11180, l11181, hS11182, p11183, p11184, p11185, p11186, p11187, p11188, p11189, x11190⟩ := hI11178
              refine W_seq ?_
              refine W_region ?_
              refine WL_step rfl rfl (Exec.lss rfl x11190 p11189 ?_)
              refine WL_nil (at_normal ?_)
              refine W_seq ?_
              refine W_true (congrArg Value.bool (decide_eq_true (by omega))) ?_
              refine W_skip (at_normal ?_)
              refine W_seq ?_
              refine W_block ?_
              refine W_seq ?_
              refine W_region ?_
              refine WL_step rfl rfl (Exec.move (v := Value.int .i64 ((i11008 : Int))) rfl x11190 ?_)
              refine WL_step rfl rfl (Exec.assign (v := Value.int .i64 ((i11008 : Int))) rfl rfl ?_)
              refine WL_nil (at_normal ?_)
              refine W_dl (n0 := 13) (.q 0 (.q 1 (.q 2 (.q 3 (.q 4 (.q 5 (.q 6 (.q 7 (.q 8 (.q 9 (.q 10 (.q 11 (.q 12 .done))))))))))))) hmix (by kernel_rfl) (by kernel_rfl) ?_
              have hS11248 := hS11182.drew
              refine DL_q rfl rfl (Exec.move (v := Value.int .i64 (many11086)) rfl p11188 ⟨rfl, ?_⟩)
              refine DL_q rfl rfl (Exec.move (v := v10997) rfl p11186 ⟨rfl, ?_⟩)
              refine DL_q rfl rfl (Exec.move (v := Value.int .i64 ((i11008 : Int))) rfl rfl ⟨rfl, ?_⟩)
              obtain ⟨x11249, q11250, hm11179⟩ := bind_some hm11179
              refine DL_q rfl rfl (Exec.index_repE S63 rfl rfl rfl (r10998.mono (PHeap.le.trans l11004 l11181)) q11250 ?_)
              intro b11251 o11252 a11253 e11254
              refine ⟨rfl, ?_⟩
              refine DL_q rfl rfl (Exec.load_at (E := (encSlice encEdge)) hS11248 A23 rfl rfl rfl a11253 ?_)
              intro v11255 q11256
              have r11257 := encSlice_val.1 q11256
              refine ⟨rfl, ?_⟩
              refine DL_q rfl rfl (Exec.len_rep S23 rfl rfl r11257 ⟨rfl, ?_⟩)
              refine DL_q rfl rfl (Exec.move (v := v11006) rfl p11187 ⟨rfl, ?_⟩)
              refine DL_q rfl rfl (Exec.move (v := Value.int .i64 ((i11008 : Int))) rfl rfl ⟨rfl, ?_⟩)
              obtain ⟨x11258, q11259, hm11179⟩ := bind_some hm11179
              refine DL_q rfl rfl (Exec.index_repE S63 rfl rfl rfl (r11007.mono l11181) q11259 ?_)
              intro b11260 o11261 a11262 e11263
              refine ⟨rfl, ?_⟩
              refine DL_q rfl rfl (Exec.load_at (E := (encSlice encEdge)) hS11248 A23 rfl rfl rfl a11262 ?_)
              intro v11264 q11265
              have r11266 := encSlice_val.1 q11265
              refine ⟨rfl, ?_⟩
              refine DL_q rfl rfl (Exec.len_rep S23 rfl rfl r11266 ⟨rfl, ?_⟩)
              refine DL_q rfl rfl (Exec.mul rfl rfl rfl ⟨rfl, ?_⟩)
              refine DL_q rfl rfl (Exec.add rfl rfl rfl ⟨rfl, ?_⟩)
              refine DL_done ?_
              refine WL_step rfl rfl (Exec.assign (v := Value.int .i64 (IntKind.i64.wrap (many11086 + (IntKind.i64.wrap ((x11249.length : Int) * (x11258.length : Int)))))) rfl rfl ?_)
              refine WL_nil (ib_normal (at_normal ?_))
              refine W_region ?_
              refine WL_step rfl rfl (Exec.add rfl x11190 rfl ?_)
              refine WL_step rfl rfl (Exec.move (v := Value.int .i64 (IntKind.i64.wrap ((i11008 : Int) + 1))) rfl rfl ?_)
              refine WL_nil (at_normal ?_)
              have e11267 := Option.some.inj hm11179
              subst s11174
              have hS11268 := (hS11248).f4
              have hS11269 := (hS11268).f4
              have hS11270 := (hS11269).f4
              have hS11271 := (hS11270).f4
              have hS11272 := (hS11271).f4
              exact ⟨s11180, l11181, hS11272, p11183, p11184, p11185, p11186, p11187, rfl, p11189, (Eq.trans rfl (wrap_up hi11177 (SliceRep.le (r10998.mono l11004))))⟩
            · intro f11273 w11274 hI11275
              obtain ⟨s11276, l11277, hS11278, p11279, p11280, p11281, p11282, p11283, p11284, p11285, x11286⟩ := hI11275
              refine W_seq ?_
              refine W_region ?_
              refine WL_step rfl rfl (Exec.lss rfl x11286 p11285 ?_)
              refine WL_nil (at_normal ?_)
              refine W_seq ?_
              refine W_false (congrArg Value.bool (decide_eq_false (by omega))) ?_
              refine W_exit (at_exit (at_exit (ib_here (at_normal ?_))))
              refine W_seq ?_
              refine W_seq ?_
              refine W_region ?_
              refine WL_step rfl rfl (Exec.move (v := Value.int .i64 (many11086)) rfl p11284 ?_)
              refine WL_step rfl rfl (Exec.gtr rfl rfl rfl ?_)
              refine WL_nil (at_normal ?_)
              rcases ite_some hm with ⟨hc11287, hm⟩ | ⟨hc11287, hm⟩
              · refine W_cond_t rfl hc11287 ?_
                refine W_seq ?_
                refine W_region ?_
                refine WL_step rfl rfl (Exec.build rfl parts_nil (v := Value.agg #[Value.int .i64 (0), Value.int .i64 (0), Value.slice none 0 0, Value.slice none 0 0, Value.slice none 0 0]) (fun _ => by kernel_rfl) ?_)
                refine WL_step rfl rfl (Exec.makeInterface C39 rfl rfl ?_)
                have hS11291 := (hS11278).f1
                refine WL_step rfl rfl (Exec.store_box (ds := [Value.int .i64 (0), Value.int .i64 (0), Value.slice none 0 0, Value.slice none 0 0, Value.slice none 0 0]) (es := [Value.int .i64 (0), Value.int .i64 (0), Value.slice none 0 0, Value.slice none 0 0, Value.slice none 0 0]) hS11291 A26 rfl p11280 rfl rfl (one_cons rfl (one_cons rfl (one_cons rfl (one_cons rfl (one_cons rfl one_nil))))) (Nat.le_of_ble_eq_true rfl) rfl ?_)
                intro w11292 hS11293
                refine WL_step rfl rfl (Exec.assign (v := errV 39 (some 5)) rfl rfl ?_)
                refine WL_nil (at_normal ?_)
                refine W_ret (at_ret ?_)
                have e11295 := Option.some.inj hm
                subst r
                refine ⟨_, retG2 rfl ⟨_, _, p11280, cellRes (hS11293) A26⟩ rfl, ?_⟩
                have hS11296 := (hS11293).drop
                have hS11297 := (hS11296).drop
                have hS11298 := (hS11297).drop
                have hS11299 := (hS11298).drop
                have hS11300 := (hS11299).drop
                exact ⟨s11276, (Value.slice none 0 0), (Value.slice none 0 0), (Value.slice none 0 0), (PHeap.le.trans (PHeap.le.trans (PHeap.le.trans (PHeap.le.trans (PHeap.le.trans l8779 l8875) l10924) l10995) l11004) l11277), hS11300, (tup2 rfl rfl), (SliceRep.nil _ _), (SliceRep.nil _ _), (SliceRep.nil _ _)⟩
              · refine W_cond_f rfl hc11287 ?_
                replace hc11287 := not_true hc11287
                refine W_skip (at_normal ?_)
                refine W_seq ?_
                refine W_seq ?_
                refine W_region ?_
                refine WL_step rfl rfl (Exec.move (v := v10997) rfl p11282 ?_)
                refine WL_step rfl rfl (Exec.len_rep S63 rfl rfl (r10998.mono (PHeap.le.trans l11004 l11277)) ?_)
                refine WL_step rfl rfl (Exec.move (v := Value.int .i64 (0)) rfl rfl ?_)
                refine WL_nil (at_normal ?_)
                obtain ⟨z12151, hB12998, hm⟩ := bind_some hm
                refine W_block (W_forS (fun k' s' f' w' => (fun (z12151 : (List Edge)) => ∃ (s12999 : PHeap) (v12152 : Value), PHeap.le s11276 s12999 ∧ St w0 s12999 (Res.box b8711 26 [Value.int .i64 (b159.States), Value.int .i64 (b159.Init), v160, v162, v164] :: Res.box b8714 26 [Value.int .i64 (0), Value.int .i64 (0), Value.slice none 0 0, Value.slice none 0 0, Value.slice none 0 0] :: Res.box b8835 26 [Value.int .i64 (IntKind.i64.wrap (a152.States * b159.States)), Value.int .i64 (IntKind.i64.wrap ((IntKind.i64.wrap (a152.Init * b159.States)) + b159.Init)), v8837, v12152, v9563] :: Res.arr (encInt .i64) 3 v8837 y8812 :: Res.arr encEdge 66 v12152 z12151 :: Res.arr encBool 4 v9563 z9562 :: H) w' ∧ f' 3 = Value.pointer (some ⟨b8711, 0, none⟩) ∧ f' 4 = Value.pointer (some ⟨b8714, 0, none⟩) ∧ f' 6 = Value.pointer (some ⟨b8835, 0, none⟩) ∧ f' 9 = v10997 ∧ f' 10 = v11006 ∧ f' 118 = Value.int .i64 ((y10992.length : Int)) ∧ f' 119 = Value.int .i64 (k' : Int)) s') hB12998 ?_ ?_ ?_)
                · have hS13000 := hS11278.nilArr encEdge 66
                  have hS13001 := (hS13000).f5
                  have hS13002 := (hS13001).f1
                  have hS13003 := (hS13002).f5
                  have hS13004 := (hS13003).f5
                  have hS13005 := (hS13004).f5
                  have hS13006 := (hS13005).f5
                  exact ⟨s11276, (Value.slice none 0 0), (PHeap.le_refl _), hS13006, p11279, p11280, p11281, p11282, p11283, rfl, rfl⟩
                · intro i11301 z12151 s13008 f13009 w13010 hi13011 hI13012 hm13013
                  obtain ⟨s13014, v12152, l13015, hS13016, p13017, p13018, p13019, p13020, p13021, p13022, x13023⟩ := hI13012
                  refine W_seq ?_
                  refine W_region ?_
                  refine WL_step rfl rfl (Exec.lss rfl x13023 p13022 ?_)
                  refine WL_nil (at_normal ?_)
                  refine W_seq ?_
                  refine W_true (congrArg Value.bool (decide_eq_true (by omega))) ?_
                  refine W_skip (at_normal ?_)
                  refine W_seq ?_
                  refine W_block ?_
                  refine W_seq ?_
                  refine W_region ?_
                  refine WL_step rfl rfl (Exec.move (v := Value.int .i64 ((i11301 : Int))) rfl x13023 ?_)
                  refine WL_step rfl rfl (Exec.assign (v := Value.int .i64 ((i11301 : Int))) rfl rfl ?_)
                  refine WL_nil (at_normal ?_)
                  refine W_seq ?_
                  refine W_region ?_
                  refine WL_step rfl rfl (Exec.move (v := v10997) rfl p13020 ?_)
                  refine WL_step rfl rfl (Exec.move (v := Value.int .i64 ((i11301 : Int))) rfl rfl ?_)
                  obtain ⟨x13032, q13033, hm13013⟩ := bind_some hm13013
                  refine WL_step rfl rfl (Exec.index_rep S63 rfl rfl rfl (r10998.mono (PHeap.le.trans (PHeap.le.trans l11004 l11277) l13015)) q13033 ?_)
                  intro b13034 o13035 a13036
                  refine WL_step rfl rfl (Exec.load_at (E := (encSlice encEdge)) hS13016 A23 rfl rfl rfl a13036 ?_)
                  intro v13037 q13038
                  have r13039 := encSlice_val.1 q13038
                  refine WL_step rfl rfl (Exec.len_rep S23 rfl rfl r13039 ?_)
                  refine WL_step rfl rfl (Exec.move (v := Value.int .i64 (0)) rfl rfl ?_)
                  refine WL_nil (at_normal ?_)
                  obtain ⟨l13297, hB13557, hm13013⟩ := bind_some hm13013
                  refine W_block (W_forS (fun k' s' f' w' => (fun (l13297 : (List Edge)) => ∃ (s13558 : PHeap) (v13298 : Value), PHeap.le s13014 s13558 ∧ St w0 s13558 (Res.box b8711 26 [Value.int .i64 (b159.States), Value.int .i64 (b159.Init), v160, v162, v164] :: Res.box b8714 26 [Value.int .i64 (0), Value.int .i64 (0), Value.slice none 0 0, Value.slice none 0 0, Value.slice none 0 0] :: Res.box b8835 26 [Value.int .i64 (IntKind.i64.wrap (a152.States * b159.States)), Value.int .i64 (IntKind.i64.wrap ((IntKind.i64.wrap (a152.Init * b159.States)) + b159.Init)), v8837, v13298, v9563] :: Res.arr (encInt .i64) 3 v8837 y8812 :: Res.arr encEdge 66 v13298 l13297 :: Res.arr encBool 4 v9563 z9562 :: H) w' ∧ f' 3 = Value.pointer (some ⟨b8711, 0, none⟩) ∧ f' 4 = Value.pointer (some ⟨b8714, 0, none⟩) ∧ f' 6 = Value.pointer (some ⟨b8835, 0, none⟩) ∧ f' 9 = v10997 ∧ f' 10 = v11006 ∧ f' 13 = Value.int .i64 ((i11301 : Int)) ∧ f' 118 = Value.int .i64 ((y10992.length : Int)) ∧ f' 119 = Value.int .i64 ((i11301 : Int)) ∧ f' 125 = v13037 ∧ f' 126 = Value.int .i64 ((x13032.length : Int)) ∧ f' 127 = Value.int .i64 (k' : Int)) s') hB13557 ?_ ?_ ?_)
                  · have hS13559 := (hS13016).f5
                    have hS13560 := (hS13559).f5
                    have hS13561 := (hS13560).f5
                    have hS13562 := (hS13561).f5
                    have hS13563 := (hS13562).f5
                    have hS13564 := (hS13563).f5
                    exact ⟨s13014, v12152, (PHeap.le_refl _), hS13564, p13017, p13018, p13019, p13020, p13021, rfl, p13022, x13023, rfl, rfl, rfl⟩
                  · intro i13040 l13297 s13566 f13567 w13568 hi13569 hI13570 hm13571
                    obtain ⟨s13572, v13298, l13573, hS13574, p13575, p13576, p13577, p13578, p13579, p13580, p13581, p13582, p13583, p13584, x13585⟩ := hI13570
                    refine W_seq ?_
                    refine W_region ?_
                    refine WL_step rfl rfl (Exec.lss rfl x13585 p13584 ?_)
                    refine WL_nil (at_normal ?_)
                    refine W_seq ?_
                    refine W_true (congrArg Value.bool (decide_eq_true (by omega))) ?_
                    refine W_skip (at_normal ?_)
                    refine W_seq ?_
                    refine W_block ?_
                    refine W_seq ?_
                    refine W_region ?_
                    obtain ⟨x13598, q13599, hm13571⟩ := bind_some hm13571
                    refine WL_step rfl rfl (Exec.index_rep S23 rfl p13583 x13585 (r13039.mono l13573) q13599 ?_)
                    intro b13600 o13601 a13602
                    refine WL_step rfl rfl (Exec.load_at (E := encEdge) hS13574 A66 rfl rfl rfl a13602 ?_)
                    intro v13603 q13604
                    obtain rfl := encEdge_val.1 q13604
                    refine WL_step rfl rfl (Exec.alloc (cs := [Value.int .i64 (0), Value.int .i64 (0), Value.int .i64 (0)]) hS13574 Z66 rfl rfl ?_)
                    intro b13605 w13606 hS13607
                    refine WL_step rfl rfl (Exec.store_box (ds := [Value.int .i64 (x13598.From), Value.int .i64 (x13598.Label), Value.int .i64 (x13598.To)]) (es := [Value.int .i64 (x13598.From), Value.int .i64 (x13598.Label), Value.int .i64 (x13598.To)]) hS13607 A66 rfl rfl rfl rfl (one_cons rfl (one_cons rfl (one_cons rfl one_nil))) (Nat.le_of_ble_eq_true rfl) rfl ?_)
                    intro w13608 hS13609
                    refine WL_nil (at_normal ?_)
                    refine W_seq ?_
                    refine W_region ?_
                    refine WL_step rfl rfl (Exec.move (v := v11006) rfl p13579 ?_)
                    refine WL_step rfl rfl (Exec.move (v := Value.int .i64 ((i11301 : Int))) rfl p13580 ?_)
                    obtain ⟨x13618, q13619, hm13571⟩ := bind_some hm13571
                    refine WL_step rfl rfl (Exec.index_rep S63 rfl rfl rfl (r11007.mono (PHeap.le.trans (PHeap.le.trans l11277 l13015) l13573)) q13619 ?_)
                    intro b13620 o13621 a13622
                    refine WL_step rfl rfl (Exec.load_at (E := (encSlice encEdge)) hS13609 A23 rfl rfl rfl a13622 ?_)
                    intro v13623 q13624
                    have r13625 := encSlice_val.1 q13624
                    refine WL_step rfl rfl (Exec.len_rep S23 rfl rfl r13625 ?_)
                    refine WL_step rfl rfl (Exec.move (v := Value.int .i64 (0)) rfl rfl ?_)
                    refine WL_nil (at_normal ?_)
                    obtain ⟨l13676, hB13729, hm13571⟩ := bind_some hm13571
                    refine W_block (W_forS (fun k' s' f' w' => (fun (l13676 : (List Edge)) => ∃ (s13730 : PHeap) (v13677 : Value), PHeap.le s13572 s13730 ∧ St w0 s13730 (Res.box b8711 26 [Value.int .i64 (b159.States), Value.int .i64 (b159.Init), v160, v162, v164] :: Res.box b8714 26 [Value.int .i64 (0), Value.int .i64 (0), Value.slice none 0 0, Value.slice none 0 0, Value.slice none 0 0] :: Res.box b8835 26 [Value.int .i64 (IntKind.i64.wrap (a152.States * b159.States)), Value.int .i64 (IntKind.i64.wrap ((IntKind.i64.wrap (a152.Init * b159.States)) + b159.Init)), v8837, v13677, v9563] :: Res.box b13605 66 [Value.int .i64 (x13598.From), Value.int .i64 (x13598.Label), Value.int .i64 (x13598.To)] :: Res.arr (encInt .i64) 3 v8837 y8812 :: Res.arr encEdge 66 v13677 l13676 :: Res.arr encBool 4 v9563 z9562 :: H) w' ∧ f' 3 = Value.pointer (some ⟨b8711, 0, none⟩) ∧ f' 4 = Value.pointer (some ⟨b8714, 0, none⟩) ∧ f' 6 = Value.pointer (some ⟨b8835, 0, none⟩) ∧ f' 9 = v10997 ∧ f' 10 = v11006 ∧ f' 13 = Value.int .i64 ((i11301 : Int)) ∧ f' 15 = Value.pointer (some ⟨b13605, 0, none⟩) ∧ f' 118 = Value.int .i64 ((y10992.length : Int)) ∧ f' 119 = Value.int .i64 ((i11301 : Int)) ∧ f' 125 = v13037 ∧ f' 126 = Value.int .i64 ((x13032.length : Int)) ∧ f' 127 = Value.int .i64 ((i13040 : Int)) ∧ f' 134 = v13623 ∧ f' 135 = Value.int .i64 ((x13618.length : Int)) ∧ f' 136 = Value.int .i64 (k' : Int)) s') hB13729 ?_ ?_ ?_)
                    · have hS13731 := (hS13609).f6
                      have hS13732 := (hS13731).f6
                      have hS13733 := (hS13732).f6
                      have hS13734 := (hS13733).f3
                      have hS13735 := (hS13734).f6
                      have hS13736 := (hS13735).f6
                      have hS13737 := (hS13736).f6
                      exact ⟨s13572, v13298, (PHeap.le_refl _), hS13737, p13575, p13576, p13577, p13578, p13579, p13580, rfl, p13581, p13582, p13583, p13584, x13585, rfl, rfl, rfl⟩
                    · intro i13626 l13676 s13739 f13740 w13741 hi13742 hI13743 hm13744
                      obtain ⟨s13745, v13677, l13746, hS13747, p13748, p13749, p13750, p13751, p13752, p13753, p13754, p13755, p13756, p13757, p13758, p13759, p13760, p13761, x13762⟩ := hI13743
                      refine W_seq ?_
                      refine W_region ?_
                      refine WL_step rfl rfl (Exec.lss rfl x13762 p13761 ?_)
                      refine WL_nil (at_normal ?_)
                      refine W_seq ?_
                      refine W_true (congrArg Value.bool (decide_eq_true (by omega))) ?_
                      refine W_skip (at_normal ?_)
                      refine W_seq ?_
                      refine W_block ?_
                      refine W_seq ?_
                      refine W_region ?_
                      obtain ⟨x13775, q13776, hm13744⟩ := bind_some hm13744
                      refine WL_step rfl rfl (Exec.index_rep S23 rfl p13760 x13762 (r13625.mono l13746) q13776 ?_)
                      intro b13777 o13778 a13779
                      refine WL_step rfl rfl (Exec.load_at (E := encEdge) hS13747 A66 rfl rfl rfl a13779 ?_)
                      intro v13780 q13781
                      obtain rfl := encEdge_val.1 q13781
                      refine WL_step rfl rfl (Exec.alloc (cs := [Value.int .i64 (0), Value.int .i64 (0), Value.int .i64 (0)]) hS13747 Z66 rfl rfl ?_)
                      intro b13782 w13783 hS13784
                      refine WL_step rfl rfl (Exec.store_box (ds := [Value.int .i64 (x13775.From), Value.int .i64 (x13775.Label), Value.int .i64 (x13775.To)]) (es := [Value.int .i64 (x13775.From), Value.int .i64 (x13775.Label), Value.int .i64 (x13775.To)]) hS13784 A66 rfl rfl rfl rfl (one_cons rfl (one_cons rfl (one_cons rfl one_nil))) (Nat.le_of_ble_eq_true rfl) rfl ?_)
                      intro w13785 hS13786
                      refine WL_nil (at_normal ?_)
                      refine W_region ?_
                      refine WL_step rfl rfl (Exec.field F26_3 rfl p13750 rfl ?_)
                      refine WL_step rfl rfl (Exec.load_box ((hS13786).f3) A23 rfl rfl rfl ?_)
                      refine WL_step rfl rfl (Exec.field F66_0 rfl p13754 rfl ?_)
                      refine WL_step rfl rfl (Exec.load_box ((hS13786).f4) A3 rfl rfl rfl ?_)
                      refine WL_step rfl rfl (Exec.field F26_0 rfl p13748 rfl ?_)
                      refine WL_step rfl rfl (Exec.load_box ((hS13786).f1) A3 rfl rfl rfl ?_)
                      refine WL_step rfl rfl (Exec.mul rfl rfl rfl ?_)
                      refine WL_step rfl rfl (Exec.field F66_0 rfl rfl rfl ?_)
                      refine WL_step rfl rfl (Exec.load_box (hS13786) A3 rfl rfl rfl ?_)
                      refine WL_step rfl rfl (Exec.add rfl rfl rfl ?_)
                      refine WL_step rfl rfl (Exec.move (v := Value.int .i64 ((i11301 : Int))) rfl p13753 ?_)
                      refine WL_step rfl rfl (Exec.field F66_2 rfl p13754 rfl ?_)
                      refine WL_step rfl rfl (Exec.load_box ((hS13786).f4) A3 rfl rfl rfl ?_)
                      refine WL_step rfl rfl (Exec.field F26_0 rfl p13748 rfl ?_)
                      refine WL_step rfl rfl (Exec.load_box ((hS13786).f1) A3 rfl rfl rfl ?_)
                      refine WL_step rfl rfl (Exec.mul rfl rfl rfl ?_)
                      refine WL_step rfl rfl (Exec.field F66_2 rfl rfl rfl ?_)
                      refine WL_step rfl rfl (Exec.load_box (hS13786) A3 rfl rfl rfl ?_)
                      refine WL_step rfl rfl (Exec.add rfl rfl rfl ?_)
                      refine WL_step rfl rfl (Exec.build rfl (parts_cons (c := [Value.int .i64 (IntKind.i64.wrap ((IntKind.i64.wrap (x13598.From * b159.States)) + x13775.From))]) (cells_of rfl rfl) (parts_cons (c := [Value.int .i64 ((i11301 : Int))]) (cells_of rfl rfl) (parts_cons (c := [Value.int .i64 (IntKind.i64.wrap ((IntKind.i64.wrap (x13598.To * b159.States)) + x13775.To))]) (cells_of rfl rfl) parts_nil))) (v := Value.agg #[Value.int .i64 (IntKind.i64.wrap ((IntKind.i64.wrap (x13598.From * b159.States)) + x13775.From)), Value.int .i64 ((i11301 : Int)), Value.int .i64 (IntKind.i64.wrap ((IntKind.i64.wrap (x13598.To * b159.States)) + x13775.To))]) (fun _ => by kernel_rfl) ?_)
                      refine WL_step rfl rfl (Exec.buildSlice (Te := 66) (cs := [Value.int .i64 (IntKind.i64.wrap ((IntKind.i64.wrap (x13598.From * b159.States)) + x13775.From)), Value.int .i64 ((i11301 : Int)), Value.int .i64 (IntKind.i64.wrap ((IntKind.i64.wrap (x13598.To * b159.States)) + x13775.To))]) hS13786 rfl (parts_cons (c := [Value.int .i64 (IntKind.i64.wrap ((IntKind.i64.wrap (x13598.From * b159.States)) + x13775.From)), Value.int .i64 ((i11301 : Int)), Value.int .i64 (IntKind.i64.wrap ((IntKind.i64.wrap (x13598.To * b159.States)) + x13775.To))]) (cells_of rfl rfl) parts_nil) (fun _ => by kernel_rfl) ?_)
                      intro b13799 w13800 hS13801
                      obtain ⟨l13802, q13803, hm13744⟩ := bind_some hm13744
                      have hS13804 := (hS13801).f7
                      refine WL_step rfl rfl (Exec.append_box (E := encEdge) (ys := [(⟨IntKind.i64.wrap ((IntKind.i64.wrap (x13598.From * b159.States)) + x13775.From), (i11301 : Int), IntKind.i64.wrap ((IntKind.i64.wrap (x13598.To * b159.States)) + x13775.To)⟩ : Edge)]) hS13804 S23 Z66 rfl (by decide) rfl rfl rfl rfl ⟨[Value.int .i64 (IntKind.i64.wrap ((IntKind.i64.wrap (x13598.From * b159.States)) + x13775.From)), Value.int .i64 ((i11301 : Int)), Value.int .i64 (IntKind.i64.wrap ((IntKind.i64.wrap (x13598.To * b159.States)) + x13775.To))], [], rfl, ⟨[Value.int .i64 (IntKind.i64.wrap ((IntKind.i64.wrap (x13598.From * b159.States)) + x13775.From))], [Value.int .i64 ((i11301 : Int)), Value.int .i64 (IntKind.i64.wrap ((IntKind.i64.wrap (x13598.To * b159.States)) + x13775.To))], rfl, rfl, ⟨[Value.int .i64 ((i11301 : Int))], [Value.int .i64 (IntKind.i64.wrap ((IntKind.i64.wrap (x13598.To * b159.States)) + x13775.To))], rfl, rfl, rfl⟩⟩, rfl⟩ rfl q13803 ?_)
                      intro v13805 w13806 hS13807
                      refine WL_step rfl rfl (Exec.field F26_3 rfl p13750 rfl ?_)
                      have hS13808 := (hS13807).f4
                      refine WL_step rfl rfl (Exec.store_box (ds := [v13805]) (es := [Value.int .i64 (IntKind.i64.wrap (a152.States * b159.States)), Value.int .i64 (IntKind.i64.wrap ((IntKind.i64.wrap (a152.Init * b159.States)) + b159.Init)), v8837, v13805, v9563]) hS13808 A23 rfl rfl rfl (cells_one ((hS13808).f1).arr_one) (one_cons ((hS13808).f1).arr_one one_nil) (Nat.le_of_ble_eq_true rfl) rfl ?_)
                      intro w13809 hS13810
                      refine WL_nil (ib_normal (at_normal ?_))
                      refine W_region ?_
                      refine WL_step rfl rfl (Exec.add rfl x13762 rfl ?_)
                      refine WL_step rfl rfl (Exec.move (v := Value.int .i64 (IntKind.i64.wrap ((i13626 : Int) + 1))) rfl rfl ?_)
                      refine WL_nil (at_normal ?_)
                      have e13811 := Option.some.inj hm13744
                      subst s13739
                      have hS13812 := ((hS13810).f2).drop
                      have hS13813 := (hS13812).f6
                      have hS13814 := (hS13813).f2
                      have hS13815 := (hS13814).f6
                      have hS13816 := (hS13815).f6
                      have hS13817 := (hS13816).f4
                      have hS13818 := (hS13817).f6
                      have hS13819 := (hS13818).f6
                      exact ⟨s13745, v13805, l13746, hS13819, p13748, p13749, p13750, p13751, p13752, p13753, p13754, p13755, p13756, p13757, p13758, p13759, p13760, p13761, (Eq.trans rfl (wrap_up hi13742 (SliceRep.le r13625)))⟩
                    · intro f13820 w13821 hI13822
                      obtain ⟨s13823, v13677, l13824, hS13825, p13826, p13827, p13828, p13829, p13830, p13831, p13832, p13833, p13834, p13835, p13836, p13837, p13838, p13839, x13840⟩ := hI13822
                      refine W_seq ?_
                      refine W_region ?_
                      refine WL_step rfl rfl (Exec.lss rfl x13840 p13839 ?_)
                      refine WL_nil (at_normal ?_)
                      refine W_seq ?_
                      refine W_false (congrArg Value.bool (decide_eq_false (by omega))) ?_
                      refine W_exit (at_exit (at_exit (ib_here (ib_normal (at_normal ?_)))))
                      refine W_region ?_
                      refine WL_step rfl rfl (Exec.add rfl p13837 rfl ?_)
                      refine WL_step rfl rfl (Exec.move (v := Value.int .i64 (IntKind.i64.wrap ((i13040 : Int) + 1))) rfl rfl ?_)
                      refine WL_nil (at_normal ?_)
                      have e13841 := Option.some.inj hm13571
                      subst s13566
                      have hS13842 := ((hS13825).f3).drop
                      have hS13843 := (hS13842).f5
                      have hS13844 := (hS13843).f5
                      have hS13845 := (hS13844).f5
                      have hS13846 := (hS13845).f5
                      have hS13847 := (hS13846).f5
                      have hS13848 := (hS13847).f5
                      exact ⟨s13823, v13677, (PHeap.le.trans l13573 l13824), hS13848, p13826, p13827, p13828, p13829, p13830, p13831, p13833, p13834, p13835, p13836, (Eq.trans rfl (wrap_up hi13569 (SliceRep.le r13039)))⟩
                  · intro f13849 w13850 hI13851
                    obtain ⟨s13852, v13298, l13853, hS13854, p13855, p13856, p13857, p13858, p13859, p13860, p13861, p13862, p13863, p13864, x13865⟩ := hI13851
                    refine W_seq ?_
                    refine W_region ?_
                    refine WL_step rfl rfl (Exec.lss rfl x13865 p13864 ?_)
                    refine WL_nil (at_normal ?_)
                    refine W_seq ?_
                    refine W_false (congrArg Value.bool (decide_eq_false (by omega))) ?_
                    refine W_exit (at_exit (at_exit (ib_here (ib_normal (at_normal ?_)))))
                    refine W_region ?_
                    refine WL_step rfl rfl (Exec.add rfl p13862 rfl ?_)
                    refine WL_step rfl rfl (Exec.move (v := Value.int .i64 (IntKind.i64.wrap ((i11301 : Int) + 1))) rfl rfl ?_)
                    refine WL_nil (at_normal ?_)
                    have e13866 := Option.some.inj hm13013
                    subst s13008
                    have hS13867 := (hS13854).f5
                    have hS13868 := (hS13867).f5
                    have hS13869 := (hS13868).f5
                    have hS13870 := (hS13869).f5
                    have hS13871 := (hS13870).f5
                    have hS13872 := (hS13871).f5
                    exact ⟨s13852, v13298, (PHeap.le.trans l13015 l13853), hS13872, p13855, p13856, p13857, p13858, p13859, p13861, (Eq.trans rfl (wrap_up hi13011 (SliceRep.le (r10998.mono (PHeap.le.trans l11004 l11277)))))⟩
                · intro f13873 w13874 hI13875
                  obtain ⟨s13876, v12152, l13877, hS13878, p13879, p13880, p13881, p13882, p13883, p13884, x13885⟩ := hI13875
                  refine W_seq ?_
                  refine W_region ?_
                  refine WL_step rfl rfl (Exec.lss rfl x13885 p13884 ?_)
                  refine WL_nil (at_normal ?_)
                  refine W_seq ?_
                  refine W_false (congrArg Value.bool (decide_eq_false (by omega))) ?_
                  refine W_exit (at_exit (at_exit (ib_here (at_normal ?_))))
                  refine W_seq ?_
                  refine W_region ?_
                  refine WL_step rfl rfl (Exec.field F26_3 rfl p13881 rfl ?_)
                  refine WL_step rfl rfl (Exec.load_box ((hS13878).f2) A23 rfl rfl rfl ?_)
                  obtain ⟨l13896, q13895, hm⟩ := bind_some hm
                  have hS13897 := (hS13878).f4
                  refine WL_step rfl rfl (Exec.call rfl rfl Try.func38 rfl N38 (args_cons rfl (args_cons rfl args_nil)) ((sortEdges_sim q13895 hS13897 ).mono ?_))
                  rintro _ w13898 ⟨_, rfl, ⟨s13899, l13900, hS13901, rfl⟩⟩
                  refine ⟨_, rfl, ?_⟩
                  refine WL_nil (at_normal ?_)
                  refine W_seq ?_
                  refine W_region ?_
                  refine WL_step rfl rfl (Exec.load_box_agg (ds := [Value.int .i64 (IntKind.i64.wrap (a152.States * b159.States)), Value.int .i64 (IntKind.i64.wrap ((IntKind.i64.wrap (a152.Init * b159.States)) + b159.Init)), v8837, v12152, v9563]) ((hS13901).f3) A26 rfl p13881 rfl ?_)
                  have hS13905 := (hS13901).f2
                  refine WL_step rfl rfl (Exec.store_box (ds := [Value.int .i64 (IntKind.i64.wrap (a152.States * b159.States)), Value.int .i64 (IntKind.i64.wrap ((IntKind.i64.wrap (a152.Init * b159.States)) + b159.Init)), v8837, v12152, v9563]) (es := [Value.int .i64 (IntKind.i64.wrap (a152.States * b159.States)), Value.int .i64 (IntKind.i64.wrap ((IntKind.i64.wrap (a152.Init * b159.States)) + b159.Init)), v8837, v12152, v9563]) hS13905 A26 rfl p13880 rfl rfl (one_cons rfl (one_cons rfl (one_cons ((hS13905).f4).arr_one (one_cons ((hS13905).f1).arr_one (one_cons ((hS13905).f5).arr_one one_nil))))) (Nat.le_of_ble_eq_true rfl) rfl ?_)
                  intro w13906 hS13907
                  refine WL_step rfl rfl (Exec.assign (v := errV 39 (none)) rfl rfl ?_)
                  refine WL_nil (at_normal ?_)
                  refine W_ret ?_
                  have e13909 := Option.some.inj hm
                  subst r
                  refine ⟨_, retG2 rfl ⟨_, _, p13880, cellRes (hS13907) A26⟩ rfl, ?_⟩
                  have hS13910 := (hS13907).f4
                  obtain ⟨s13911, l13912, hS13913, r13914⟩ := hS13910.freezeArr
                  have hS13915 := (hS13913).f1
                  obtain ⟨s13916, l13917, hS13918, r13919⟩ := hS13915.freezeArr
                  have hS13920 := (hS13918).f3
                  obtain ⟨s13921, l13922, hS13923, r13924⟩ := hS13920.freezeArr
                  have hS13925 := (hS13923).drop
                  have hS13926 := (hS13925).drop
                  have hS13927 := (hS13926).drop
                  exact ⟨s13921, v8837, v12152, v9563, (PHeap.le.trans (PHeap.le.trans (PHeap.le.trans (PHeap.le.trans (PHeap.le.trans (PHeap.le.trans (PHeap.le.trans (PHeap.le.trans (PHeap.le.trans (PHeap.le.trans l8779 l8875) l10924) l10995) l11004) l11277) l13877) l13900) l13912) l13917) l13922), hS13927, (tup2 rfl rfl), (r13914.mono (PHeap.le.trans l13917 l13922)), (r13919.mono l13922), r13924⟩

theorem N43 : (Try.f43.name == "runtime.NumGoroutine") = false := by kernel_rfl

theorem transys_goals_sim {w0 w : World} {s : PHeap} {H : List Res} {x14029 : System} {v14030 : Value} {v14032 : Value} {v14034 : Value} {r : (List Int)} (hm : transys_goals_p x14029 = some r) (hS : St w0 s (H) w) (a14031 : SliceRep (encInt .i64) s v14030 x14029.Costs) (a14033 : SliceRep encEdge s v14032 x14029.Edges) (a14035 : SliceRep encBool s v14034 x14029.Goals) :
    Calls Try.prog 43 #[Value.agg #[Value.int .i64 (x14029.States), Value.int .i64 (x14029.Init), v14030, v14032, v14034]] w fun e w' => ∃ v, e = .returned v ∧ ((fun (y14289 : (List Int)) => ∃ (s14295 : PHeap) (v14294 : Value), PHeap.le s s14295 ∧ St w0 s14295 (H) w' ∧ v = v14294 ∧ SliceRep (encInt .i64) s14295 v14294 y14289) r) := by
  unfold transys_goals_p at hm
  refine calls_of_W Try.func43 rfl rfl ?_
  refine W_seq ?_
  refine W_region ?_
  refine WL_step rfl rfl (Exec.box (cs := [Value.int .i64 (x14029.States), Value.int .i64 (x14029.Init), v14030, v14032, v14034]) hS rfl rfl rfl ?_)
  intro b14299 w14300 hS14301
  refine WL_step rfl rfl (Exec.assign (v := Value.slice none 0 0) rfl rfl ?_)
  refine WL_nil (at_normal ?_)
  refine W_seq ?_
  refine W_region ?_
  refine WL_step rfl rfl (Exec.assign (v := Value.slice none 0 0) rfl rfl ?_)
  refine WL_nil (at_normal ?_)
  refine W_seq ?_
  refine W_seq ?_
  refine W_region ?_
  refine WL_step rfl rfl (Exec.field F26_4 rfl rfl rfl ?_)
  refine WL_step rfl rfl (Exec.load_box (hS14301) A24 rfl rfl rfl ?_)
  refine WL_step rfl rfl (Exec.len_rep S24 rfl rfl a14035 ?_)
  refine WL_step rfl rfl (Exec.move (v := Value.int .i64 (0)) rfl rfl ?_)
  refine WL_nil (at_normal ?_)
  obtain ⟨out14380, hB14452, hm⟩ := bind_some hm
  refine W_block (W_forS (fun k' s' f' w' => (fun (out14380 : (List Int)) => ∃ (s14453 : PHeap) (v14381 : Value), PHeap.le s s14453 ∧ St w0 s14453 (Res.arr (encInt .i64) 3 v14381 out14380 :: H) w' ∧ f' 3 = v14381 ∧ f' 7 = v14034 ∧ f' 8 = Value.int .i64 ((x14029.Goals.length : Int)) ∧ f' 9 = Value.int .i64 (k' : Int)) s') hB14452 ?_ ?_ ?_)
  · have hS14454 := hS14301.nilArr (encInt .i64) 3
    have hS14455 := ((hS14454).f1).drop
    exact ⟨s, (Value.slice none 0 0), (PHeap.le_refl _), hS14455, rfl, rfl, rfl, rfl⟩
  · intro i14302 out14380 s14457 f14458 w14459 hi14460 hI14461 hm14462
    obtain ⟨s14463, v14381, l14464, hS14465, p14466, p14467, p14468, x14469⟩ := hI14461
    refine W_seq ?_
    refine W_region ?_
    refine WL_step rfl rfl (Exec.lss rfl x14469 p14468 ?_)
    refine WL_nil (at_normal ?_)
    refine W_seq ?_
    refine W_true (congrArg Value.bool (decide_eq_true (by omega))) ?_
    refine W_skip (at_normal ?_)
    refine W_seq ?_
    refine W_block ?_
    refine W_seq ?_
    refine W_region ?_
    refine WL_step rfl rfl (Exec.move (v := Value.int .i64 ((i14302 : Int))) rfl x14469 ?_)
    obtain ⟨x14477, q14478, hm14462⟩ := bind_some hm14462
    refine WL_step rfl rfl (Exec.index_rep S24 rfl p14467 x14469 (a14035.mono l14464) q14478 ?_)
    intro b14479 o14480 a14481
    refine WL_step rfl rfl (Exec.load_at (E := encBool) hS14465 A4 rfl rfl rfl a14481 ?_)
    intro v14482 q14483
    obtain rfl := encBool_val.1 q14483
    refine WL_step rfl rfl (Exec.assign (v := Value.int .i64 ((i14302 : Int))) rfl rfl ?_)
    refine WL_step rfl rfl (Exec.assign (v := Value.bool (x14477)) rfl rfl ?_)
    refine WL_nil (at_normal ?_)
    refine W_seq ?_
    refine W_region ?_
    refine WL_step rfl rfl (Exec.move (v := Value.bool (x14477)) rfl rfl ?_)
    refine WL_nil (at_normal ?_)
    obtain ⟨l14502, ht14504, hm14462⟩ := bind_some hm14462
    refine W_mid (M := fun f' w' => (fun (l14502 : (List Int)) => ∃ (s14505 : PHeap) (v14503 : Value), PHeap.le s14463 s14505 ∧ St w0 s14505 (Res.arr (encInt .i64) 3 v14503 l14502 :: H) w' ∧ f' 3 = v14503 ∧ f' 7 = v14034 ∧ f' 8 = Value.int .i64 ((x14029.Goals.length : Int)) ∧ f' 9 = Value.int .i64 ((i14302 : Int))) l14502) ?_ ?_
    · rcases ite_some ht14504 with ⟨hc14506, ht14504⟩ | ⟨hc14506, ht14504⟩
      · refine W_cond_t rfl hc14506 ?_
        refine W_region ?_
        refine WL_step rfl rfl (Exec.move (v := v14381) rfl p14466 ?_)
        refine WL_step rfl rfl (Exec.move (v := Value.int .i64 ((i14302 : Int))) rfl rfl ?_)
        refine WL_step rfl rfl (Exec.buildSlice (Te := 3) (cs := [Value.int .i64 ((i14302 : Int))]) hS14465 rfl (parts_cons (c := [Value.int .i64 ((i14302 : Int))]) (cells_of rfl rfl) parts_nil) (fun _ => by kernel_rfl) ?_)
        intro b14516 w14517 hS14518
        obtain ⟨l14519, q14520, ht14504⟩ := bind_some ht14504
        have hS14521 := (hS14518).f1
        refine WL_step rfl rfl (Exec.append_box (E := (encInt .i64)) (ys := [(i14302 : Int)]) hS14521 S22 Z3 rfl (by decide) rfl rfl rfl rfl ⟨[Value.int .i64 ((i14302 : Int))], [], rfl, rfl, rfl⟩ rfl q14520 ?_)
        intro v14522 w14523 hS14524
        refine WL_step rfl rfl (Exec.assign (v := v14522) rfl rfl ?_)
        refine WL_nil (at_normal ?_)
        have e14525 := Option.some.inj ht14504
        subst l14502
        exact ⟨s14463, v14522, (PHeap.le_refl _), hS14524, rfl, p14467, p14468, x14469⟩
      · refine W_cond_f rfl hc14506 ?_
        replace hc14506 := not_true hc14506
        refine W_skip (at_normal ?_)
        have e14526 := Option.some.inj ht14504
        subst l14502
        exact ⟨s14463, v14381, (PHeap.le_refl _), hS14465, p14466, p14467, p14468, x14469⟩
    · intro f14527 w14528 hM14529
      obtain ⟨s14530, v14503, l14531, hS14532, p14533, p14534, p14535, p14536⟩ := hM14529
      refine (ib_normal (at_normal ?_))
      refine W_region ?_
      refine WL_step rfl rfl (Exec.add rfl p14536 rfl ?_)
      refine WL_step rfl rfl (Exec.move (v := Value.int .i64 (IntKind.i64.wrap ((i14302 : Int) + 1))) rfl rfl ?_)
      refine WL_nil (at_normal ?_)
      have e14537 := Option.some.inj hm14462
      subst s14457
      exact ⟨s14530, v14503, (PHeap.le.trans l14464 l14531), hS14532, p14533, p14534, p14535, (Eq.trans rfl (wrap_up hi14460 (SliceRep.le a14035)))⟩
  · intro f14538 w14539 hI14540
    obtain ⟨s14541, v14381, l14542, hS14543, p14544, p14545, p14546, x14547⟩ := hI14540
    refine W_seq ?_
    refine W_region ?_
    refine WL_step rfl rfl (Exec.lss rfl x14547 p14546 ?_)
    refine WL_nil (at_normal ?_)
    refine W_seq ?_
    refine W_false (congrArg Value.bool (decide_eq_false (by omega))) ?_
    refine W_exit (at_exit (at_exit (ib_here (at_normal ?_))))
    refine W_seq ?_
    refine W_region ?_
    refine WL_step rfl rfl (Exec.move (v := v14381) rfl p14544 ?_)
    refine WL_step rfl rfl (Exec.assign (v := v14381) rfl rfl ?_)
    refine WL_nil (at_normal ?_)
    refine W_ret ?_
    have e14549 := Option.some.inj hm
    subst r
    refine ⟨_, ret1 rfl, ?_⟩
    obtain ⟨s14550, l14551, hS14552, r14553⟩ := hS14543.freezeArr
    exact ⟨s14550, v14381, (PHeap.le.trans l14542 l14551), hS14552, rfl, r14553⟩

theorem S99 : tySlice Try.prog 99 = some (102, 1, 24) := by kernel_rfl

theorem Z102 : tyZero Try.prog 102 = some (Value.slice none 0 0) := by kernel_rfl

theorem Z101 : tyZero Try.prog 101 = some (Value.agg #[Value.int .i64 (0), Value.int .i64 (0), Value.int .i64 (0)]) := by kernel_rfl

theorem A101 : tyAgg Try.prog 101 = some (true, 3) := by kernel_rfl

theorem F101_1 : tyField Try.prog 101 1 = some 1 := by kernel_rfl

theorem F101_0 : tyField Try.prog 101 0 = some 0 := by kernel_rfl

theorem A102 : tyAgg Try.prog 102 = some (false, 1) := by kernel_rfl

theorem S102 : tySlice Try.prog 102 = some (101, 3, 24) := by kernel_rfl

theorem F101_2 : tyField Try.prog 101 2 = some 2 := by kernel_rfl

theorem N42 : (Try.f42.name == "runtime.NumGoroutine") = false := by kernel_rfl

theorem transys_shortest_sim {w0 w : World} {s : PHeap} {H : List Res} {x14563 : System} {from_14570 : (List Int)} {back14573 : Bool} {v14564 : Value} {v14566 : Value} {v14568 : Value} {v14571 : Value} {r : (List Int)} (hm : transys_shortest_p x14563 from_14570 back14573 = some r) (hS : St w0 s (H) w) (a14565 : SliceRep (encInt .i64) s v14564 x14563.Costs) (a14567 : SliceRep encEdge s v14566 x14563.Edges) (a14569 : SliceRep encBool s v14568 x14563.Goals) (a14572 : SliceRep (encInt .i64) s v14571 from_14570) :
    Calls Try.prog 42 #[Value.agg #[Value.int .i64 (x14563.States), Value.int .i64 (x14563.Init), v14564, v14566, v14568], v14571, Value.bool (back14573)] w fun e w' => ∃ v, e = .returned v ∧ ((fun (y19672 : (List Int)) => ∃ (s19679 : PHeap) (v19678 : Value), PHeap.le s s19679 ∧ St w0 s19679 (H) w' ∧ v = v19678 ∧ SliceRep (encInt .i64) s19679 v19678 y19672) r) := by
  unfold transys_shortest_p at hm
  refine calls_of_W Try.func42 rfl rfl ?_
  refine W_seq ?_
  refine W_region ?_
  refine WL_step rfl rfl (Exec.box (cs := [Value.int .i64 (x14563.States), Value.int .i64 (x14563.Init), v14564, v14566, v14568]) hS rfl rfl rfl ?_)
  intro b19683 w19684 hS19685
  refine WL_step rfl rfl (Exec.assign (v := Value.slice none 0 0) rfl rfl ?_)
  refine WL_nil (at_normal ?_)
  refine W_seq ?_
  refine W_region ?_
  refine WL_step rfl rfl (Exec.field F26_0 rfl rfl rfl ?_)
  refine WL_step rfl rfl (Exec.load_box (hS19685) A3 rfl rfl rfl ?_)
  obtain ⟨l19692, q19693, hm⟩ := bind_some hm
  refine WL_step rfl rfl (Exec.make_grid (F := encArc) (T2 := 101) hS19685 S99 Z102 rfl rfl rfl q19693 ?_)
  intro v19694 hs19695 w19696 hS19697
  refine WL_step rfl rfl (Exec.assign (v := v19694) rfl rfl ?_)
  refine WL_nil (at_normal ?_)
  refine W_seq ?_
  refine W_seq ?_
  refine W_region ?_
  refine WL_step rfl rfl (Exec.field F26_3 rfl rfl rfl ?_)
  refine WL_step rfl rfl (Exec.load_box ((hS19697).f2) A23 rfl rfl rfl ?_)
  refine WL_step rfl rfl (Exec.len_rep S23 rfl rfl a14567 ?_)
  refine WL_step rfl rfl (Exec.move (v := Value.int .i64 (0)) rfl rfl ?_)
  refine WL_nil (at_normal ?_)
  obtain ⟨l19922, hB20149, hm⟩ := bind_some hm
  refine W_block (W_forS (fun k' s' f' w' => (fun (l19922 : (List (List Arc))) => ∃ (s20150 : PHeap) (hs19923 : List Value), PHeap.le s s20150 ∧ St w0 s20150 (Res.box b19683 26 [Value.int .i64 (x14563.States), Value.int .i64 (x14563.Init), v14564, v14566, v14568] :: Res.arr encRaw 102 v19694 hs19923 :: Res.rows encArc 101 hs19923 l19922 :: H) w' ∧ f' 1 = v14571 ∧ f' 2 = Value.bool (back14573) ∧ f' 3 = Value.pointer (some ⟨b19683, 0, none⟩) ∧ f' 7 = v19694 ∧ f' 24 = v14566 ∧ f' 25 = Value.int .i64 ((x14563.Edges.length : Int)) ∧ f' 26 = Value.int .i64 (k' : Int)) s') hB20149 ?_ ?_ ?_)
  · have hS20151 := (hS19697).f2
    exact ⟨s, hs19695, (PHeap.le_refl _), hS20151, rfl, rfl, rfl, rfl, rfl, rfl, rfl⟩
  · intro i19698 l19922 s20153 f20154 w20155 hi20156 hI20157 hm20158
    obtain ⟨s20159, hs19923, l20160, hS20161, p20162, p20163, p20164, p20165, p20166, p20167, x20168⟩ := hI20157
    refine W_seq ?_
    refine W_region ?_
    refine WL_step rfl rfl (Exec.lss rfl x20168 p20167 ?_)
    refine WL_nil (at_normal ?_)
    refine W_seq ?_
    refine W_true (congrArg Value.bool (decide_eq_true (by omega))) ?_
    refine W_skip (at_normal ?_)
    refine W_seq ?_
    refine W_block ?_
    refine W_seq ?_
    refine W_region ?_
    obtain ⟨x20181, q20182, hm20158⟩ := bind_some hm20158
    refine WL_step rfl rfl (Exec.index_rep S23 rfl p20166 x20168 (a14567.mono l20160) q20182 ?_)
    intro b20183 o20184 a20185
    refine WL_step rfl rfl (Exec.load_at (E := encEdge) hS20161 A66 rfl rfl rfl a20185 ?_)
    intro v20186 q20187
    obtain rfl := encEdge_val.1 q20187
    refine WL_step rfl rfl (Exec.alloc (cs := [Value.int .i64 (0), Value.int .i64 (0), Value.int .i64 (0)]) hS20161 Z66 rfl rfl ?_)
    intro b20188 w20189 hS20190
    refine WL_step rfl rfl (Exec.store_box (ds := [Value.int .i64 (x20181.From), Value.int .i64 (x20181.Label), Value.int .i64 (x20181.To)]) (es := [Value.int .i64 (x20181.From), Value.int .i64 (x20181.Label), Value.int .i64 (x20181.To)]) hS20190 A66 rfl rfl rfl rfl (one_cons rfl (one_cons rfl (one_cons rfl one_nil))) (Nat.le_of_ble_eq_true rfl) rfl ?_)
    intro w20191 hS20192
    refine WL_nil (at_normal ?_)
    refine W_seq ?_
    refine W_dl (n0 := 12) (.q 0 (.q 1 (.q 2 (.q 3 (.q 4 (.q 5 (.q 6 (.q 7 (.q 8 (.q 9 (.q 10 (.e 11 [0, 1, 2, 3, 4, 5, 6, 7, 8, 9, 10] .done)))))))))))) hmix (by kernel_rfl) (by kernel_rfl) ?_
    have hS20231 := hS20192.drew
    refine DL_q rfl rfl (Exec.field F66_0 rfl rfl rfl ⟨rfl, ?_⟩)
    refine DL_q rfl rfl (Exec.load_box (hS20231) A3 rfl rfl rfl ⟨rfl, ?_⟩)
    refine DL_q rfl rfl (Exec.field F66_2 rfl rfl rfl ⟨rfl, ?_⟩)
    refine DL_q rfl rfl (Exec.load_box (hS20231) A3 rfl rfl rfl ⟨rfl, ?_⟩)
    refine DL_q rfl rfl (Exec.field F26_2 rfl p20164 rfl ⟨rfl, ?_⟩)
    refine DL_q rfl rfl (Exec.load_box ((hS20231).f1) A22 rfl rfl rfl ⟨rfl, ?_⟩)
    refine DL_q rfl rfl (Exec.field F66_1 rfl rfl rfl ⟨rfl, ?_⟩)
    refine DL_q rfl rfl (Exec.load_box (hS20231) A3 rfl rfl rfl ⟨rfl, ?_⟩)
    obtain ⟨x20232, q20233, hm20158⟩ := bind_some hm20158
    refine DL_q rfl rfl (Exec.index_repE S22 rfl rfl rfl (a14565.mono l20160) q20233 ?_)
    intro b20234 o20235 a20236 e20237
    refine ⟨rfl, ?_⟩
    refine DL_q rfl rfl (Exec.load_at (E := (encInt .i64)) hS20231 A3 rfl rfl rfl a20236 ?_)
    intro v20238 q20239
    obtain rfl := encInt_val.1 q20239
    refine ⟨rfl, ?_⟩
    refine DL_q rfl rfl (Exec.build rfl (parts_cons (c := [Value.int .i64 (x20181.From)]) (cells_of rfl rfl) (parts_cons (c := [Value.int .i64 (x20181.To)]) (cells_of rfl rfl) (parts_cons (c := [Value.int .i64 (x20232)]) (cells_of rfl rfl) parts_nil))) (v := Value.agg #[Value.int .i64 (x20181.From), Value.int .i64 (x20181.To), Value.int .i64 (x20232)]) (fun _ => by kernel_rfl) ⟨rfl, ?_⟩)
    refine DL_e rfl rfl (Exec.alloc (cs := [Value.int .i64 (0), Value.int .i64 (0), Value.int .i64 (0)]) hS20231 Z101 rfl rfl ?_)
    intro b20240 w20241 hS20242
    refine ⟨(ag_cons (ag_r rfl rfl (Exec.field F66_0 rfl rfl rfl ⟨rfl, rfl⟩)) (ag_cons (ag_r rfl rfl (Exec.load_box ((hS20242).f1) A3 rfl rfl rfl ⟨rfl, rfl⟩)) (ag_cons (ag_r rfl rfl (Exec.field F66_2 rfl rfl rfl ⟨rfl, rfl⟩)) (ag_cons (ag_r rfl rfl (Exec.load_box ((hS20242).f1) A3 rfl rfl rfl ⟨rfl, rfl⟩)) (ag_cons (ag_r rfl rfl (Exec.field F26_2 rfl p20164 rfl ⟨rfl, rfl⟩)) (ag_cons (ag_r rfl rfl (Exec.load_box ((hS20242).f2) A22 rfl rfl rfl ⟨rfl, rfl⟩)) (ag_cons (ag_r rfl rfl (Exec.field F66_1 rfl rfl rfl ⟨rfl, rfl⟩)) (ag_cons (ag_r rfl rfl (Exec.load_box ((hS20242).f1) A3 rfl rfl rfl ⟨rfl, rfl⟩)) (ag_cons (ag_r rfl rfl (Exec.index_run rfl rfl rfl e20237 ⟨rfl, rfl⟩)) (ag_cons (ag_r rfl rfl (Exec.load_at (E := (encInt .i64)) hS20242 A3 rfl rfl rfl a20236 (fun _ q => ⟨rfl, encInt_val.1 q⟩))) (ag_cons (ag_r rfl rfl (Exec.build rfl (parts_cons (c := [Value.int .i64 (x20181.From)]) (cells_of rfl rfl) (parts_cons (c := [Value.int .i64 (x20181.To)]) (cells_of rfl rfl) (parts_cons (c := [Value.int .i64 (x20232)]) (cells_of rfl rfl) parts_nil))) (v := Value.agg #[Value.int .i64 (x20181.From), Value.int .i64 (x20181.To), Value.int .i64 (x20232)]) (fun _ => by kernel_rfl) ⟨rfl, rfl⟩)) ag_nil))))))))))), ?_⟩
    refine DL_done ?_
    refine WL_step rfl rfl (Exec.store_box (ds := [Value.int .i64 (x20181.From), Value.int .i64 (x20181.To), Value.int .i64 (x20232)]) (es := [Value.int .i64 (x20181.From), Value.int .i64 (x20181.To), Value.int .i64 (x20232)]) hS20242 A101 rfl rfl rfl rfl (one_cons rfl (one_cons rfl (one_cons rfl one_nil))) (Nat.le_of_ble_eq_true rfl) rfl ?_)
    intro w20243 hS20244
    refine WL_nil (at_normal ?_)
    refine W_seq ?_
    refine W_seq ?_
    refine W_region ?_
    refine WL_step rfl rfl (Exec.move (v := Value.bool (back14573)) rfl p20163 ?_)
    refine WL_nil (at_normal ?_)
    obtain ⟨t20255, ht20256, hm20158⟩ := bind_some hm20158
    refine W_mid (M := fun f' w' => (un2 fun (z20253 : Int) (z20254 : Int) => ∃ (s20257 : PHeap) , PHeap.le s20159 s20257 ∧ St w0 s20257 (Res.box b19683 26 [Value.int .i64 (x14563.States), Value.int .i64 (x14563.Init), v14564, v14566, v14568] :: Res.arr encRaw 102 v19694 hs19923 :: Res.rows encArc 101 hs19923 l19922 :: Res.box b20240 101 [Value.int .i64 (z20253), Value.int .i64 (z20254), Value.int .i64 (x20232)] :: H) w' ∧ f' 1 = v14571 ∧ f' 2 = Value.bool (back14573) ∧ f' 3 = Value.pointer (some ⟨b19683, 0, none⟩) ∧ f' 7 = v19694 ∧ f' 10 = Value.pointer (some ⟨b20240, 0, none⟩) ∧ f' 24 = v14566 ∧ f' 25 = Value.int .i64 ((x14563.Edges.length : Int)) ∧ f' 26 = Value.int .i64 ((i19698 : Int))) t20255) ?_ ?_
    · rcases ite_some ht20256 with ⟨hc20258, ht20256⟩ | ⟨hc20258, ht20256⟩
      · refine W_cond_t rfl hc20258 ?_
        refine W_region ?_
        refine WL_step rfl rfl (Exec.field F101_1 rfl rfl rfl ?_)
        refine WL_step rfl rfl (Exec.load_box (hS20244) A3 rfl rfl rfl ?_)
        refine WL_step rfl rfl (Exec.field F101_0 rfl rfl rfl ?_)
        refine WL_step rfl rfl (Exec.load_box (hS20244) A3 rfl rfl rfl ?_)
        refine WL_step rfl rfl (Exec.field F101_0 rfl rfl rfl ?_)
        refine WL_step rfl rfl (Exec.store_box (ds := [Value.int .i64 (x20181.To)]) (es := [Value.int .i64 (x20181.To), Value.int .i64 (x20181.To), Value.int .i64 (x20232)]) hS20244 A3 rfl rfl rfl rfl (one_cons rfl one_nil) (Nat.le_of_ble_eq_true rfl) rfl ?_)
        intro w20263 hS20264
        refine WL_step rfl rfl (Exec.field F101_1 rfl rfl rfl ?_)
        refine WL_step rfl rfl (Exec.store_box (ds := [Value.int .i64 (x20181.From)]) (es := [Value.int .i64 (x20181.To), Value.int .i64 (x20181.From), Value.int .i64 (x20232)]) hS20264 A3 rfl rfl rfl rfl (one_cons rfl one_nil) (Nat.le_of_ble_eq_true rfl) rfl ?_)
        intro w20265 hS20266
        refine WL_nil (at_normal ?_)
        have e20267 := Option.some.inj ht20256
        subst t20255
        have hS20268 := ((hS20266).f1).drop
        have hS20269 := ((hS20268).f3).f3
        have hS20270 := (hS20269).f3
        exact ⟨s20159, (PHeap.le_refl _), hS20270, p20162, p20163, p20164, p20165, rfl, p20166, p20167, x20168⟩
      · refine W_cond_f rfl hc20258 ?_
        replace hc20258 := not_true hc20258
        refine W_skip (at_normal ?_)
        have e20271 := Option.some.inj ht20256
        subst t20255
        have hS20272 := ((hS20244).f1).drop
        have hS20273 := ((hS20272).f3).f3
        have hS20274 := (hS20273).f3
        exact ⟨s20159, (PHeap.le_refl _), hS20274, p20162, p20163, p20164, p20165, rfl, p20166, p20167, x20168⟩
    · intro f20275 w20276 hM20277
      obtain ⟨z20253, z20254⟩ := t20255
      replace hm20158 := un2_eq hm20158
      obtain ⟨s20278, l20279, hS20280, p20281, p20282, p20283, p20284, p20285, p20286, p20287, p20288⟩ := hM20277
      refine (at_normal ?_)
      refine W_dl (n0 := 11) (.q 0 (.q 1 (.q 2 (.q 3 (.q 4 (.q 5 (.q 6 (.q 7 (.q 8 (.e 9 [0, 1, 2, 3, 4, 5, 6, 7] (.e 10 [0, 1, 2] .done))))))))))) hmix (by kernel_rfl) (by kernel_rfl) ?_
      have hS20362 := hS20280.drew
      refine DL_q rfl rfl (Exec.move (v := v19694) rfl p20284 ⟨rfl, ?_⟩)
      refine DL_q rfl rfl (Exec.field F101_0 rfl p20285 rfl ⟨rfl, ?_⟩)
      refine DL_q rfl rfl (Exec.load_box ((hS20362).f3) A3 rfl rfl rfl ⟨rfl, ?_⟩)
      refine DL_q rfl rfl (Exec.move (v := v19694) rfl p20284 ⟨rfl, ?_⟩)
      refine DL_q rfl rfl (Exec.field F101_0 rfl p20285 rfl ⟨rfl, ?_⟩)
      refine DL_q rfl rfl (Exec.load_box ((hS20362).f3) A3 rfl rfl rfl ⟨rfl, ?_⟩)
      obtain ⟨row20363, q20364, hm20158⟩ := bind_some hm20158
      obtain ⟨h20365, e20366, e20367, _⟩ := ((((hS20362).f2).f2).f1).rows_at q20364
      obtain ⟨g20368, c20369, e20370⟩ := (((hS20362).f2).f2).arr_at e20366
      refine DL_q rfl rfl (Exec.index_slice S99 rfl e20370 rfl (idx_some e20366).1 (idx_some e20366).2.1 ⟨rfl, ?_⟩)
      refine DL_q rfl rfl (Exec.load_arr (F := encRaw) (((hS20362).f2).f2) e20370 A102 rfl rfl rfl e20366 (Sub.refl _) ?_)
      intro v20371 q20372
      replace q20372 := (encRaw_val.1 q20372).1
      subst v20371
      refine ⟨rfl, ?_⟩
      refine DL_q rfl rfl (Exec.load_box_agg (ds := [Value.int .i64 (z20253), Value.int .i64 (z20254), Value.int .i64 (x20232)]) ((hS20362).f3) A101 rfl p20285 rfl ⟨rfl, ?_⟩)
      refine DL_e rfl rfl (Exec.buildSlice (Te := 101) (cs := [Value.int .i64 (z20253), Value.int .i64 (z20254), Value.int .i64 (x20232)]) hS20362 rfl (parts_cons (c := [Value.int .i64 (z20253), Value.int .i64 (z20254), Value.int .i64 (x20232)]) (cells_of rfl rfl) parts_nil) (fun _ => by kernel_rfl) ?_)
      intro b20373 w20374 hS20375
      refine ⟨(ag_cons (ag_r rfl rfl (Exec.move (v := v19694) rfl p20284 ⟨rfl, rfl⟩)) (ag_cons (ag_r rfl rfl (Exec.field F101_0 rfl p20285 rfl ⟨rfl, rfl⟩)) (ag_cons (ag_r rfl rfl (Exec.load_box ((hS20375).f4) A3 rfl rfl rfl ⟨rfl, rfl⟩)) (ag_cons (ag_r rfl rfl (Exec.move (v := v19694) rfl p20284 ⟨rfl, rfl⟩)) (ag_cons (ag_r rfl rfl (Exec.field F101_0 rfl p20285 rfl ⟨rfl, rfl⟩)) (ag_cons (ag_r rfl rfl (Exec.load_box ((hS20375).f4) A3 rfl rfl rfl ⟨rfl, rfl⟩)) (ag_cons (ag_r rfl rfl (Exec.index_slice S99 rfl e20370 rfl (idx_some e20366).1 (idx_some e20366).2.1 ⟨rfl, rfl⟩)) (ag_cons (ag_r rfl rfl (Exec.load_arr (F := encRaw) (((hS20375).f3).f3) e20370 A102 rfl rfl rfl e20366 (Sub.refl _) (fun _ q => ⟨rfl, (encRaw_val.1 q).1⟩))) ag_nil)))))))), ?_⟩
      have hS20376 := ((((hS20375).f3).f3).f1).rows_split e20367 (idx_some q20364).2.2
      obtain ⟨l20377, q20378, hm20158⟩ := bind_some hm20158
      have hS20379 := (hS20376).f3
      have hS20380 := (hS20379).f1
      refine DL_e rfl rfl (Exec.append_box (E := encArc) (ys := [(⟨z20253, z20254, x20232⟩ : Arc)]) hS20380 S102 Z101 rfl (by decide) rfl rfl rfl rfl ⟨[Value.int .i64 (z20253), Value.int .i64 (z20254), Value.int .i64 (x20232)], [], rfl, ⟨[Value.int .i64 (z20253)], [Value.int .i64 (z20254), Value.int .i64 (x20232)], rfl, rfl, ⟨[Value.int .i64 (z20254)], [Value.int .i64 (x20232)], rfl, rfl, rfl⟩⟩, rfl⟩ rfl q20378 ?_)
      intro v20381 w20382 hS20383
      refine ⟨(ag_cons (ag_r rfl rfl (Exec.move (v := v19694) rfl p20284 ⟨rfl, rfl⟩)) (ag_cons (ag_r rfl rfl (Exec.field F101_0 rfl p20285 rfl ⟨rfl, rfl⟩)) (ag_cons (ag_r rfl rfl (Exec.load_box ((hS20383).f4) A3 rfl rfl rfl ⟨rfl, rfl⟩)) ag_nil))), ?_⟩
      refine DL_done ?_
      refine WL_step rfl rfl (Exec.index_slice S99 rfl e20370 rfl (idx_some e20366).1 (idx_some e20366).2.1 ?_)
      obtain ⟨l20384, q20385, hm20158⟩ := bind_some hm20158
      have hS20386 := ((hS20383).f2).f2
      have hS20387 := (hS20386).f2
      refine WL_step rfl rfl (Exec.store_row hS20387 e20367 e20370 A102 rfl rfl rfl rfl q20385 ?_)
      intro hs20388 w20389 hS20390
      refine WL_nil (ib_normal (at_normal ?_))
      refine W_region ?_
      refine WL_step rfl rfl (Exec.add rfl p20288 rfl ?_)
      refine WL_step rfl rfl (Exec.move (v := Value.int .i64 (IntKind.i64.wrap ((i19698 : Int) + 1))) rfl rfl ?_)
      refine WL_nil (at_normal ?_)
      have e20391 := Option.some.inj hm20158
      subst s20153
      have hS20392 := ((hS20390).f3).drop
      have hS20393 := (hS20392).f2
      exact ⟨s20278, hs20388, (PHeap.le.trans l20160 l20279), hS20393, p20281, p20282, p20283, p20284, p20286, p20287, (Eq.trans rfl (wrap_up hi20156 (SliceRep.le a14567)))⟩
  · intro f20394 w20395 hI20396
    obtain ⟨s20397, hs19923, l20398, hS20399, p20400, p20401, p20402, p20403, p20404, p20405, x20406⟩ := hI20396
    refine W_seq ?_
    refine W_region ?_
    refine WL_step rfl rfl (Exec.lss rfl x20406 p20405 ?_)
    refine WL_nil (at_normal ?_)
    refine W_seq ?_
    refine W_false (congrArg Value.bool (decide_eq_false (by omega))) ?_
    refine W_exit (at_exit (at_exit (ib_here (at_normal ?_))))
    refine W_seq ?_
    refine W_region ?_
    refine WL_step rfl rfl (Exec.field F26_0 rfl p20402 rfl ?_)
    refine WL_step rfl rfl (Exec.load_box (hS20399) A3 rfl rfl rfl ?_)
    obtain ⟨l20412, q20413, hm⟩ := bind_some hm
    refine WL_step rfl rfl (Exec.make (E := (encInt .i64)) hS20399 S22 Z3 rfl rfl rfl rfl q20413 ?_)
    intro v20414 w20415 hS20416
    refine WL_step rfl rfl (Exec.assign (v := v20414) rfl rfl ?_)
    refine WL_nil (at_normal ?_)
    refine W_seq ?_
    refine W_seq ?_
    refine W_region ?_
    refine WL_step rfl rfl (Exec.move (v := v20414) rfl rfl ?_)
    refine WL_step rfl rfl (Exec.len_arr (hS20416) S22 rfl rfl ?_)
    refine WL_step rfl rfl (Exec.move (v := Value.int .i64 (0)) rfl rfl ?_)
    refine WL_nil (at_normal ?_)
    obtain ⟨l20439, hB20462, hm⟩ := bind_some hm
    refine W_block (W_forS (fun k' s' f' w' => (fun (l20439 : (List Int)) => ∃ (s20463 : PHeap) , PHeap.le s20397 s20463 ∧ St w0 s20463 (Res.box b19683 26 [Value.int .i64 (x14563.States), Value.int .i64 (x14563.Init), v14564, v14566, v14568] :: Res.arr encRaw 102 v19694 hs19923 :: Res.rows encArc 101 hs19923 l19922 :: Res.arr (encInt .i64) 3 v20414 l20439 :: H) w' ∧ f' 1 = v14571 ∧ f' 3 = Value.pointer (some ⟨b19683, 0, none⟩) ∧ f' 7 = v19694 ∧ f' 11 = v20414 ∧ f' 65 = Value.int .i64 ((l20412.length : Int)) ∧ f' 66 = Value.int .i64 (k' : Int)) s') hB20462 ?_ ?_ ?_)
    · have hS20464 := ((hS20416).f3).f3
      have hS20465 := (hS20464).f3
      exact ⟨s20397, (PHeap.le_refl _), hS20465, p20400, p20402, p20403, rfl, rfl, rfl⟩
    · intro i20417 l20439 s20467 f20468 w20469 hi20470 hI20471 hm20472
      obtain ⟨s20473, l20474, hS20475, p20476, p20477, p20478, p20479, p20480, x20481⟩ := hI20471
      refine W_seq ?_
      refine W_region ?_
      refine WL_step rfl rfl (Exec.lss rfl x20481 p20480 ?_)
      refine WL_nil (at_normal ?_)
      refine W_seq ?_
      refine W_true (congrArg Value.bool (decide_eq_true (by omega))) ?_
      refine W_skip (at_normal ?_)
      refine W_seq ?_
      refine W_block ?_
      refine W_seq ?_
      refine W_region ?_
      refine WL_step rfl rfl (Exec.move (v := Value.int .i64 ((i20417 : Int))) rfl x20481 ?_)
      refine WL_step rfl rfl (Exec.assign (v := Value.int .i64 ((i20417 : Int))) rfl rfl ?_)
      refine WL_nil (at_normal ?_)
      refine W_region ?_
      refine WL_step rfl rfl (Exec.move (v := v20414) rfl p20479 ?_)
      refine WL_step rfl rfl (Exec.move (v := Value.int .i64 ((i20417 : Int))) rfl rfl ?_)
      obtain ⟨x20492, q20493, hm20472⟩ := bind_some hm20472
      obtain ⟨g20494, c20495, e20496⟩ := ((hS20475).f3).arr_at q20493
      refine WL_step rfl rfl (Exec.index_slice S22 rfl e20496 rfl (idx_some q20493).1 (idx_some q20493).2.1 ?_)
      obtain ⟨l20497, q20498, hm20472⟩ := bind_some hm20472
      have hS20499 := (hS20475).f3
      refine WL_step rfl rfl (Exec.store_arr hS20499 e20496 A3 rfl rfl rfl rfl (encInt_val.2 rfl) q20498 ?_)
      intro w20500 hS20501
      refine WL_nil (ib_normal (at_normal ?_))
      refine W_region ?_
      refine WL_step rfl rfl (Exec.add rfl x20481 rfl ?_)
      refine WL_step rfl rfl (Exec.move (v := Value.int .i64 (IntKind.i64.wrap ((i20417 : Int) + 1))) rfl rfl ?_)
      refine WL_nil (at_normal ?_)
      have e20502 := Option.some.inj hm20472
      subst s20467
      have hS20503 := ((hS20501).f3).f3
      have hS20504 := (hS20503).f3
      exact ⟨s20473, l20474, hS20504, p20476, p20477, p20478, p20479, p20480, (Eq.trans rfl (wrap_up hi20470 (hS20416).arr_le))⟩
    · intro f20505 w20506 hI20507
      obtain ⟨s20508, l20509, hS20510, p20511, p20512, p20513, p20514, p20515, x20516⟩ := hI20507
      refine W_seq ?_
      refine W_region ?_
      refine WL_step rfl rfl (Exec.lss rfl x20516 p20515 ?_)
      refine WL_nil (at_normal ?_)
      refine W_seq ?_
      refine W_false (congrArg Value.bool (decide_eq_false (by omega))) ?_
      refine W_exit (at_exit (at_exit (ib_here (at_normal ?_))))
      refine W_seq ?_
      refine W_region ?_
      refine WL_step rfl rfl (Exec.field F26_0 rfl p20512 rfl ?_)
      refine WL_step rfl rfl (Exec.load_box (hS20510) A3 rfl rfl rfl ?_)
      obtain ⟨l20522, q20523, hm⟩ := bind_some hm
      refine WL_step rfl rfl (Exec.make (E := encBool) hS20510 S24 Z4 rfl rfl rfl rfl q20523 ?_)
      intro v20524 w20525 hS20526
      refine WL_step rfl rfl (Exec.assign (v := v20524) rfl rfl ?_)
      refine WL_nil (at_normal ?_)
      refine W_seq ?_
      refine W_region ?_
      refine WL_step rfl rfl (Exec.move (v := v14571) rfl p20511 ?_)
      obtain ⟨y20538, q20537, hm⟩ := bind_some hm
      refine WL_step rfl rfl (Exec.call rfl rfl Try.func36 rfl N36 (args_cons rfl args_nil) ((slices_Clone___int_int__sim q20537 hS20526 (a14572.mono (PHeap.le.trans l20398 l20509))).mono ?_))
      rintro _ w20539 ⟨v20543, rfl, ⟨s20540, _, l20541, hS20542, rfl⟩⟩
      refine ⟨_, rfl, ?_⟩
      have hS20544 := (hS20542).arr_que
      refine WL_step rfl rfl (Exec.assign (v := v20543) rfl rfl ?_)
      refine WL_nil (at_normal ?_)
      refine W_seq ?_
      refine W_seq ?_
      refine W_region ?_
      refine WL_step rfl rfl (Exec.move (v := v14571) rfl p20511 ?_)
      refine WL_step rfl rfl (Exec.len_rep S22 rfl rfl (a14572.mono (PHeap.le.trans (PHeap.le.trans l20398 l20509) l20541)) ?_)
      refine WL_step rfl rfl (Exec.move (v := Value.int .i64 (0)) rfl rfl ?_)
      refine WL_nil (at_normal ?_)
      obtain ⟨t20660, hB20661, hm⟩ := bind_some hm
      refine W_block (W_forS (fun k' s' f' w' => (un2 fun (l20601 : (List Int)) (l20602 : (List Bool)) => ∃ (s20662 : PHeap) , PHeap.le s20540 s20662 ∧ St w0 s20662 (Res.arr encRaw 102 v19694 hs19923 :: Res.rows encArc 101 hs19923 l19922 :: Res.arr (encInt .i64) 3 v20414 l20601 :: Res.arr encBool 4 v20524 l20602 :: Res.que (encInt .i64) 3 v20543 y20538 :: H) w' ∧ f' 7 = v19694 ∧ f' 11 = v20414 ∧ f' 13 = v20524 ∧ f' 14 = v20543 ∧ f' 78 = v14571 ∧ f' 79 = Value.int .i64 ((from_14570.length : Int)) ∧ f' 80 = Value.int .i64 (k' : Int)) s') hB20661 ?_ ?_ ?_)
      · have hS20663 := ((hS20544).f2).drop
        have hS20664 := (hS20663).f1
        have hS20665 := (hS20664).f4
        have hS20666 := ((hS20665).f4).f4
        exact ⟨s20540, (PHeap.le_refl _), hS20666, p20513, p20514, rfl, rfl, rfl, rfl, rfl⟩
      · intro i20545 t20674 s20668 f20669 w20670 hi20671 hI20672 hm20673
        obtain ⟨l20601, l20602⟩ := t20674
        replace hm20673 := un2_eq hm20673
        obtain ⟨s20675, l20676, hS20677, p20678, p20679, p20680, p20681, p20682, p20683, x20684⟩ := hI20672
        refine W_seq ?_
        refine W_region ?_
        refine WL_step rfl rfl (Exec.lss rfl x20684 p20683 ?_)
        refine WL_nil (at_normal ?_)
        refine W_seq ?_
        refine W_true (congrArg Value.bool (decide_eq_true (by omega))) ?_
        refine W_skip (at_normal ?_)
        refine W_seq ?_
        refine W_block ?_
        refine W_seq ?_
        refine W_region ?_
        obtain ⟨x20692, q20693, hm20673⟩ := bind_some hm20673
        refine WL_step rfl rfl (Exec.index_rep S22 rfl p20682 x20684 (a14572.mono (PHeap.le.trans (PHeap.le.trans (PHeap.le.trans l20398 l20509) l20541) l20676)) q20693 ?_)
        intro b20694 o20695 a20696
        refine WL_step rfl rfl (Exec.load_at (E := (encInt .i64)) hS20677 A3 rfl rfl rfl a20696 ?_)
        intro v20697 q20698
        obtain rfl := encInt_val.1 q20698
        refine WL_step rfl rfl (Exec.assign (v := Value.int .i64 (x20692)) rfl rfl ?_)
        refine WL_nil (at_normal ?_)
        refine W_region ?_
        refine WL_step rfl rfl (Exec.move (v := v20414) rfl p20679 ?_)
        refine WL_step rfl rfl (Exec.move (v := Value.int .i64 (x20692)) rfl rfl ?_)
        refine WL_step rfl rfl (Exec.move (v := v20524) rfl p20680 ?_)
        refine WL_step rfl rfl (Exec.move (v := Value.int .i64 (x20692)) rfl rfl ?_)
        obtain ⟨x20719, q20720, hm20673⟩ := bind_some hm20673
        obtain ⟨g20721, c20722, e20723⟩ := ((hS20677).f2).arr_at q20720
        refine WL_step rfl rfl (Exec.index_slice S22 rfl e20723 rfl (idx_some q20720).1 (idx_some q20720).2.1 ?_)
        obtain ⟨l20724, q20725, hm20673⟩ := bind_some hm20673
        have hS20726 := (hS20677).f2
        refine WL_step rfl rfl (Exec.store_arr hS20726 e20723 A3 rfl rfl rfl rfl (encInt_val.2 rfl) q20725 ?_)
        intro w20727 hS20728
        obtain ⟨x20729, q20730, hm20673⟩ := bind_some hm20673
        obtain ⟨g20731, c20732, e20733⟩ := ((hS20728).f3).arr_at q20730
        refine WL_step rfl rfl (Exec.index_slice S24 rfl e20733 rfl (idx_some q20730).1 (idx_some q20730).2.1 ?_)
        obtain ⟨l20734, q20735, hm20673⟩ := bind_some hm20673
        have hS20736 := (hS20728).f3
        refine WL_step rfl rfl (Exec.store_arr hS20736 e20733 A4 rfl rfl rfl rfl (encBool_val.2 rfl) q20735 ?_)
        intro w20737 hS20738
        refine WL_nil (ib_normal (at_normal ?_))
        refine W_region ?_
        refine WL_step rfl rfl (Exec.add rfl x20684 rfl ?_)
        refine WL_step rfl rfl (Exec.move (v := Value.int .i64 (IntKind.i64.wrap ((i20545 : Int) + 1))) rfl rfl ?_)
        refine WL_nil (at_normal ?_)
        have e20739 := Option.some.inj hm20673
        subst s20668
        have hS20740 := (hS20738).f4
        have hS20741 := (hS20740).f1
        have hS20742 := (hS20741).f2
        have hS20743 := ((hS20742).f4).f4
        exact ⟨s20675, l20676, hS20743, p20678, p20679, p20680, p20681, p20682, p20683, (Eq.trans rfl (wrap_up hi20671 (SliceRep.le (a14572.mono (PHeap.le.trans (PHeap.le.trans l20398 l20509) l20541)))))⟩
      · intro f20744 w20745 hI20746
        obtain ⟨l20601, l20602⟩ := t20660
        replace hm := un2_eq hm
        obtain ⟨s20747, l20748, hS20749, p20750, p20751, p20752, p20753, p20754, p20755, x20756⟩ := hI20746
        refine W_seq ?_
        refine W_region ?_
        refine WL_step rfl rfl (Exec.lss rfl x20756 p20755 ?_)
        refine WL_nil (at_normal ?_)
        refine W_seq ?_
        refine W_false (congrArg Value.bool (decide_eq_false (by omega))) ?_
        refine W_exit (at_exit (at_exit (ib_here (at_normal ?_))))
        refine W_seq ?_
        obtain ⟨c23740, hB23741, hr23742, hn23743, hb23744⟩ := ctl_some hm
        refine W_mid (M := fun f' w' => ∃ s', (c23740 = .next s' ∨ c23740 = .brk s') ∧ (un3 fun (l23736 : (List Int)) (l23737 : (List Bool)) (l23738 : (List Int)) => ∃ (s23746 : PHeap) (v23739 : Value), PHeap.le s20747 s23746 ∧ St w0 s23746 (Res.arr encRaw 102 v19694 hs19923 :: Res.rows encArc 101 hs19923 l19922 :: Res.arr (encInt .i64) 3 v20414 l23736 :: Res.arr encBool 4 v20524 l23737 :: Res.que (encInt .i64) 3 v23739 l23738 :: H) w' ∧ f' 7 = v19694 ∧ f' 11 = v20414 ∧ f' 13 = v20524 ∧ f' 14 = v23739) s') ?_ ?_
        · refine W_block (W_while (fun s' f' w' => (un3 fun (l21747 : (List Int)) (l21748 : (List Bool)) (l21749 : (List Int)) => ∃ (s23745 : PHeap) (v21750 : Value), PHeap.le s20747 s23745 ∧ St w0 s23745 (Res.arr encRaw 102 v19694 hs19923 :: Res.rows encArc 101 hs19923 l19922 :: Res.arr (encInt .i64) 3 v20414 l21747 :: Res.arr encBool 4 v20524 l21748 :: Res.que (encInt .i64) 3 v21750 l21749 :: H) w' ∧ f' 7 = v19694 ∧ f' 11 = v20414 ∧ f' 13 = v20524 ∧ f' 14 = v21750) s') hB23741 ?_ ?_)
          · have hS23747 := (hS20749).f4
            have hS23748 := (hS23747).f4
            have hS23749 := (hS23748).f4
            have hS23750 := ((hS23749).f4).f4
            exact ⟨s20747, v20543, (PHeap.le_refl _), hS23750, p20750, p20751, p20752, p20753⟩
          · intro t23758 c23752 f23753 w23754 hI23755 hm23756 hres23757
            obtain ⟨l21747, l21748, l21749⟩ := t23758
            replace hm23756 := un3_eq hm23756
            obtain ⟨s23759, v21750, l23760, hS23761, p23762, p23763, p23764, p23765⟩ := hI23755
            refine W_seq ?_
            refine W_seq ?_
            refine W_region ?_
            refine WL_step rfl rfl (Exec.move (v := v21750) rfl p23765 ?_)
            refine WL_step rfl rfl (Exec.len_que ((hS23761).f4) S22 rfl rfl ?_)
            refine WL_step rfl rfl (Exec.gtr rfl rfl rfl ?_)
            refine WL_nil (at_normal ?_)
            rcases ite_some hm23756 with ⟨hc23766, hm23756⟩ | ⟨hc23766, hm23756⟩
            · refine W_cond_t rfl hc23766 ?_
              refine W_skip (at_normal ?_)
              refine W_block ?_
              refine W_seq ?_
              refine W_region ?_
              refine WL_step rfl rfl (Exec.move (v := v21750) rfl p23765 ?_)
              obtain ⟨x23774, q23775, hm23756⟩ := bind_some hm23756
              refine WL_step rfl rfl (Exec.index_que ((hS23761).f4) S22 rfl rfl rfl q23775 ?_)
              intro b23776 o23777 a23778
              refine WL_step rfl rfl (Exec.load_cur (E := (encInt .i64)) a23778 A3 rfl rfl ?_)
              intro v23779 q23780
              obtain rfl := encInt_val.1 q23780
              refine WL_step rfl rfl (Exec.assign (v := Value.int .i64 (x23774)) rfl rfl ?_)
              refine WL_nil (at_normal ?_)
              refine W_seq ?_
              refine W_region ?_
              refine WL_step rfl rfl (Exec.move (v := v20524) rfl p23764 ?_)
              refine WL_step rfl rfl (Exec.move (v := Value.int .i64 (x23774)) rfl rfl ?_)
              refine WL_step rfl rfl (Exec.move (v := v21750) rfl p23765 ?_)
              obtain ⟨c23796, q23797, hm23756⟩ := bind_some hm23756
              have hS23798 := (hS23761).f4
              refine WL_step rfl rfl (Exec.slice_que hS23798 S22 rfl rfl rfl q23797 ?_)
              intro v23799 hS23800
              refine WL_step rfl rfl (Exec.assign (v := v23799) rfl rfl ?_)
              obtain ⟨x23801, q23802, hm23756⟩ := bind_some hm23756
              obtain ⟨g23803, c23804, e23805⟩ := ((hS23800).f4).arr_at q23802
              refine WL_step rfl rfl (Exec.index_slice S24 rfl e23805 rfl (idx_some q23802).1 (idx_some q23802).2.1 ?_)
              obtain ⟨l23806, q23807, hm23756⟩ := bind_some hm23756
              have hS23808 := (hS23800).f4
              refine WL_step rfl rfl (Exec.store_arr hS23808 e23805 A4 rfl rfl rfl rfl (encBool_val.2 rfl) q23807 ?_)
              intro w23809 hS23810
              refine WL_nil (at_normal ?_)
              refine W_seq ?_
              refine W_region ?_
              refine WL_step rfl rfl (Exec.move (v := v19694) rfl p23762 ?_)
              refine WL_step rfl rfl (Exec.move (v := Value.int .i64 (x23774)) rfl rfl ?_)
              obtain ⟨row23821, q23822, hm23756⟩ := bind_some hm23756
              obtain ⟨h23823, e23824, e23825, _⟩ := ((((hS23810).f3).f3).f1).rows_at q23822
              obtain ⟨g23826, c23827, e23828⟩ := (((hS23810).f3).f3).arr_at e23824
              refine WL_step rfl rfl (Exec.index_slice S99 rfl e23828 rfl (idx_some e23824).1 (idx_some e23824).2.1 ?_)
              refine WL_step rfl rfl (Exec.load_arr (F := encRaw) (((hS23810).f3).f3) e23828 A102 rfl rfl rfl e23824 (Sub.refl _) ?_)
              intro v23829 q23830
              replace q23830 := (encRaw_val.1 q23830).1
              subst v23829
              refine WL_step rfl rfl (Exec.len_arr (((((hS23810).f3).f3).f1).rows_split e23825 (idx_some q23822).2.2) S102 rfl rfl ?_)
              refine WL_step rfl rfl (Exec.move (v := Value.int .i64 (0)) rfl rfl ?_)
              refine WL_nil (at_normal ?_)
              obtain ⟨u23831, q23832, hm23756⟩ := bind_some hm23756
              obtain ⟨t24420, hB24421, hm23756⟩ := bind_some hm23756
              refine W_block (W_forS (fun k' s' f' w' => (un3 fun (l24123 : (List Int)) (l24124 : (List Bool)) (l24125 : (List Int)) => ∃ (s24422 : PHeap) (v24126 : Value), PHeap.le s23759 s24422 ∧ St w0 s24422 (Res.arr encRaw 102 v19694 hs19923 :: Res.rows encArc 101 hs19923 l19922 :: Res.arr (encInt .i64) 3 v20414 l24123 :: Res.arr encBool 4 v20524 l24124 :: Res.que (encInt .i64) 3 v24126 l24125 :: H) w' ∧ f' 7 = v19694 ∧ f' 11 = v20414 ∧ f' 13 = v20524 ∧ f' 14 = v24126 ∧ f' 17 = Value.int .i64 (x23774) ∧ f' 105 = h23823 ∧ f' 106 = Value.int .i64 ((row23821.length : Int)) ∧ f' 107 = Value.int .i64 (k' : Int)) s') hB24421 ?_ ?_ ?_)
              · have hS24423 := (hS23810).f1
                have hS24424 := (hS24423).f1
                have hS24425 := (hS24424).f4
                have hS24426 := ((hS24425).f4).f4
                exact ⟨s23759, v23799, (PHeap.le_refl _), hS24426, p23762, p23763, p23764, rfl, rfl, rfl, rfl, rfl⟩
              · intro i23833 t24434 s24428 f24429 w24430 hi24431 hI24432 hm24433
                obtain ⟨l24123, l24124, l24125⟩ := t24434
                replace hm24433 := un3_eq hm24433
                obtain ⟨s24435, v24126, l24436, hS24437, p24438, p24439, p24440, p24441, p24442, p24443, p24444, x24445⟩ := hI24432
                refine W_seq ?_
                refine W_region ?_
                refine WL_step rfl rfl (Exec.lss rfl x24445 p24444 ?_)
                refine WL_nil (at_normal ?_)
                refine W_seq ?_
                refine W_true (congrArg Value.bool (decide_eq_true (by omega))) ?_
                refine W_skip (at_normal ?_)
                refine W_seq ?_
                refine W_block ?_
                refine W_seq ?_
                refine W_region ?_
                obtain ⟨x24458, q24459, hm24433⟩ := bind_some hm24433
                obtain ⟨g24460, c24461, e24462⟩ := (((hS24437).f1).rows_split e23825 (idx_some q23822).2.2).arr_at q24459
                refine WL_step rfl rfl (Exec.index_slice S102 rfl (Eq.trans p24443 e24462) x24445 (idx_some q24459).1 (idx_some q24459).2.1 ?_)
                refine WL_step rfl rfl (Exec.load_arr (F := encArc) (((hS24437).f1).rows_split e23825 (idx_some q23822).2.2) e24462 A101 rfl rfl rfl q24459 (Sub.refl _) ?_)
                intro v24463 q24464
                obtain rfl := encArc_val.1 q24464
                refine WL_step rfl rfl (Exec.alloc (cs := [Value.int .i64 (0), Value.int .i64 (0), Value.int .i64 (0)]) hS24437 Z101 rfl rfl ?_)
                intro b24465 w24466 hS24467
                refine WL_step rfl rfl (Exec.store_box (ds := [Value.int .i64 (x24458.From), Value.int .i64 (x24458.To), Value.int .i64 (x24458.Weight)]) (es := [Value.int .i64 (x24458.From), Value.int .i64 (x24458.To), Value.int .i64 (x24458.Weight)]) hS24467 A101 rfl rfl rfl rfl (one_cons rfl (one_cons rfl (one_cons rfl one_nil))) (Nat.le_of_ble_eq_true rfl) rfl ?_)
                intro w24468 hS24469
                refine WL_nil (at_normal ?_)
                refine W_seq ?_
                refine W_seq ?_
                refine W_dl (n0 := 13) (.q 0 (.q 1 (.q 2 (.q 3 (.q 4 (.q 5 (.q 6 (.q 7 (.q 8 (.q 9 (.q 10 (.q 11 (.q 12 .done))))))))))))) hmix (by kernel_rfl) (by kernel_rfl) ?_
                have hS24515 := hS24469.drew
                refine DL_q rfl rfl (Exec.move (v := v20414) rfl p24439 ⟨rfl, ?_⟩)
                refine DL_q rfl rfl (Exec.move (v := Value.int .i64 (x23774)) rfl p24442 ⟨rfl, ?_⟩)
                obtain ⟨x24516, q24517, hm24433⟩ := bind_some hm24433
                obtain ⟨g24518, c24519, e24520⟩ := ((hS24515).f3).arr_at q24517
                refine DL_q rfl rfl (Exec.index_slice S22 rfl e24520 rfl (idx_some q24517).1 (idx_some q24517).2.1 ⟨rfl, ?_⟩)
                refine DL_q rfl rfl (Exec.load_arr (F := (encInt .i64)) ((hS24515).f3) e24520 A3 rfl rfl rfl q24517 (Sub.refl _) ?_)
                intro v24521 q24522
                obtain rfl := encInt_val.1 q24522
                refine ⟨rfl, ?_⟩
                refine DL_q rfl rfl (Exec.field F101_2 rfl rfl rfl ⟨rfl, ?_⟩)
                refine DL_q rfl rfl (Exec.load_box (hS24515) A3 rfl rfl rfl ⟨rfl, ?_⟩)
                refine DL_q rfl rfl (Exec.add rfl rfl rfl ⟨rfl, ?_⟩)
                refine DL_q rfl rfl (Exec.move (v := v20414) rfl p24439 ⟨rfl, ?_⟩)
                refine DL_q rfl rfl (Exec.field F101_1 rfl rfl rfl ⟨rfl, ?_⟩)
                refine DL_q rfl rfl (Exec.load_box (hS24515) A3 rfl rfl rfl ⟨rfl, ?_⟩)
                obtain ⟨x24523, q24524, hm24433⟩ := bind_some hm24433
                obtain ⟨g24525, c24526, e24527⟩ := ((hS24515).f3).arr_at q24524
                refine DL_q rfl rfl (Exec.index_slice S22 rfl e24527 rfl (idx_some q24524).1 (idx_some q24524).2.1 ⟨rfl, ?_⟩)
                refine DL_q rfl rfl (Exec.load_arr (F := (encInt .i64)) ((hS24515).f3) e24527 A3 rfl rfl rfl q24524 (Sub.refl _) ?_)
                intro v24528 q24529
                obtain rfl := encInt_val.1 q24529
                refine ⟨rfl, ?_⟩
                refine DL_q rfl rfl (Exec.geq rfl rfl rfl ⟨rfl, ?_⟩)
                refine DL_done ?_
                refine WL_nil (at_normal ?_)
                rcases ite_some hm24433 with ⟨hc24530, hm24433⟩ | ⟨hc24530, hm24433⟩
                · refine W_cond_t rfl hc24530 ?_
                  refine W_exit (at_exit (ib_here (at_normal ?_)))
                  refine W_region ?_
                  refine WL_step rfl rfl (Exec.add rfl x24445 rfl ?_)
                  refine WL_step rfl rfl (Exec.move (v := Value.int .i64 (IntKind.i64.wrap ((i23833 : Int) + 1))) rfl rfl ?_)
                  refine WL_nil (at_normal ?_)
                  have e24531 := Option.some.inj hm24433
                  subst s24428
                  have hS24532 := (hS24515).drop
                  have hS24533 := (hS24532).f4
                  have hS24534 := (hS24533).f4
                  have hS24535 := (hS24534).f4
                  have hS24536 := ((hS24535).f4).f4
                  exact ⟨s24435, v24126, l24436, hS24536, p24438, p24439, p24440, p24441, p24442, p24443, p24444, (Eq.trans rfl (wrap_up hi24431 (by have h := must_some q23832; simpa [maxLen] using h)))⟩
                · refine W_cond_f rfl hc24530 ?_
                  replace hc24530 := not_true hc24530
                  refine W_skip (at_normal ?_)
                  refine W_seq ?_
                  refine W_dl (n0 := 10) (.q 0 (.q 1 (.q 2 (.q 3 (.q 4 (.q 5 (.q 6 (.q 7 (.q 8 (.q 9 .done)))))))))) hmix (by kernel_rfl) (by kernel_rfl) ?_
                  have hS24563 := hS24515.drew
                  refine DL_q rfl rfl (Exec.move (v := v20414) rfl p24439 ⟨rfl, ?_⟩)
                  refine DL_q rfl rfl (Exec.field F101_1 rfl rfl rfl ⟨rfl, ?_⟩)
                  refine DL_q rfl rfl (Exec.load_box (hS24563) A3 rfl rfl rfl ⟨rfl, ?_⟩)
                  refine DL_q rfl rfl (Exec.move (v := v20414) rfl p24439 ⟨rfl, ?_⟩)
                  refine DL_q rfl rfl (Exec.move (v := Value.int .i64 (x23774)) rfl p24442 ⟨rfl, ?_⟩)
                  obtain ⟨g24564, c24565, e24566⟩ := ((hS24563).f3).arr_at q24517
                  refine DL_q rfl rfl (Exec.index_slice S22 rfl e24566 rfl (idx_some q24517).1 (idx_some q24517).2.1 ⟨rfl, ?_⟩)
                  refine DL_q rfl rfl (Exec.load_arr (F := (encInt .i64)) ((hS24563).f3) e24566 A3 rfl rfl rfl q24517 (Sub.refl _) ?_)
                  intro v24567 q24568
                  obtain rfl := encInt_val.1 q24568
                  refine ⟨rfl, ?_⟩
                  refine DL_q rfl rfl (Exec.field F101_2 rfl rfl rfl ⟨rfl, ?_⟩)
                  refine DL_q rfl rfl (Exec.load_box (hS24563) A3 rfl rfl rfl ⟨rfl, ?_⟩)
                  refine DL_q rfl rfl (Exec.add rfl rfl rfl ⟨rfl, ?_⟩)
                  refine DL_done ?_
                  obtain ⟨g24569, c24570, e24571⟩ := ((hS24563).f3).arr_at q24524
                  refine WL_step rfl rfl (Exec.index_slice S22 rfl e24571 rfl (idx_some q24524).1 (idx_some q24524).2.1 ?_)
                  obtain ⟨l24572, q24573, hm24433⟩ := bind_some hm24433
                  have hS24574 := (hS24563).f3
                  refine WL_step rfl rfl (Exec.store_arr hS24574 e24571 A3 rfl rfl rfl rfl (encInt_val.2 rfl) q24573 ?_)
                  intro w24575 hS24576
                  refine WL_nil (at_normal ?_)
                  refine W_seq ?_
                  refine W_region ?_
                  refine WL_step rfl rfl (Exec.move (v := v20524) rfl p24440 ?_)
                  refine WL_step rfl rfl (Exec.field F101_1 rfl rfl rfl ?_)
                  refine WL_step rfl rfl (Exec.load_box ((hS24576).f1) A3 rfl rfl rfl ?_)
                  obtain ⟨x24584, q24585, hm24433⟩ := bind_some hm24433
                  obtain ⟨g24586, c24587, e24588⟩ := ((hS24576).f4).arr_at q24585
                  refine WL_step rfl rfl (Exec.index_slice S24 rfl e24588 rfl (idx_some q24585).1 (idx_some q24585).2.1 ?_)
                  refine WL_step rfl rfl (Exec.load_arr (F := encBool) ((hS24576).f4) e24588 A4 rfl rfl rfl q24585 (Sub.refl _) ?_)
                  intro v24589 q24590
                  obtain rfl := encBool_val.1 q24590
                  refine WL_step rfl rfl (Exec.not rfl rfl ?_)
                  refine WL_nil (at_normal ?_)
                  obtain ⟨t24650, ht24651, hm24433⟩ := bind_some hm24433
                  refine W_mid (M := fun f' w' => (un2 fun (l24647 : (List Bool)) (l24648 : (List Int)) => ∃ (s24652 : PHeap) (v24649 : Value), PHeap.le s24435 s24652 ∧ St w0 s24652 (Res.arr encRaw 102 v19694 hs19923 :: Res.rows encArc 101 hs19923 l19922 :: Res.arr (encInt .i64) 3 v20414 l24572 :: Res.arr encBool 4 v20524 l24647 :: Res.que (encInt .i64) 3 v24649 l24648 :: H) w' ∧ f' 7 = v19694 ∧ f' 11 = v20414 ∧ f' 13 = v20524 ∧ f' 14 = v24649 ∧ f' 17 = Value.int .i64 (x23774) ∧ f' 105 = h23823 ∧ f' 106 = Value.int .i64 ((row23821.length : Int)) ∧ f' 107 = Value.int .i64 ((i23833 : Int))) t24650) ?_ ?_
                  · rcases ite_some ht24651 with ⟨hc24653, ht24651⟩ | ⟨hc24653, ht24651⟩
                    · refine W_cond_t rfl hc24653 ?_
                      refine W_dl (n0 := 9) (.q 0 (.q 1 (.q 2 (.q 3 (.q 4 (.q 5 (.e 6 [0, 1, 2, 3] (.e 7 [0, 1, 2] (.e 8 [0, 1, 2] .done))))))))) hmix (by kernel_rfl) (by kernel_rfl) ?_
                      have hS24692 := hS24576.drew
                      refine DL_q rfl rfl (Exec.move (v := v20524) rfl p24440 ⟨rfl, ?_⟩)
                      refine DL_q rfl rfl (Exec.field F101_1 rfl rfl rfl ⟨rfl, ?_⟩)
                      refine DL_q rfl rfl (Exec.load_box ((hS24692).f1) A3 rfl rfl rfl ⟨rfl, ?_⟩)
                      refine DL_q rfl rfl (Exec.move (v := v24126) rfl p24441 ⟨rfl, ?_⟩)
                      refine DL_q rfl rfl (Exec.field F101_1 rfl rfl rfl ⟨rfl, ?_⟩)
                      refine DL_q rfl rfl (Exec.load_box ((hS24692).f1) A3 rfl rfl rfl ⟨rfl, ?_⟩)
                      refine DL_e rfl rfl (Exec.buildSlice (Te := 3) (cs := [Value.int .i64 (x24458.To)]) hS24692 rfl (parts_cons (c := [Value.int .i64 (x24458.To)]) (cells_of rfl rfl) parts_nil) (fun _ => by kernel_rfl) ?_)
                      intro b24693 w24694 hS24695
                      refine ⟨(ag_cons (ag_r rfl rfl (Exec.move (v := v20524) rfl p24440 ⟨rfl, rfl⟩)) (ag_cons (ag_r rfl rfl (Exec.field F101_1 rfl rfl rfl ⟨rfl, rfl⟩)) (ag_cons (ag_r rfl rfl (Exec.load_box ((hS24695).f2) A3 rfl rfl rfl ⟨rfl, rfl⟩)) (ag_cons (ag_r rfl rfl (Exec.move (v := v24126) rfl p24441 ⟨rfl, rfl⟩)) ag_nil)))), ?_⟩
                      obtain ⟨l24696, q24697, ht24651⟩ := bind_some ht24651
                      have hS24698 := (hS24695).f6
                      refine DL_e rfl rfl (Exec.append_que (E := (encInt .i64)) (ys := [x24458.To]) hS24698 S22 Z3 rfl (by decide) rfl rfl rfl rfl ⟨[Value.int .i64 (x24458.To)], [], rfl, rfl, rfl⟩ rfl q24697 ?_)
                      intro v24699 w24700 hS24701
                      refine ⟨(ag_cons (ag_r rfl rfl (Exec.move (v := v20524) rfl p24440 ⟨rfl, rfl⟩)) (ag_cons (ag_r rfl rfl (Exec.field F101_1 rfl rfl rfl ⟨rfl, rfl⟩)) (ag_cons (ag_r rfl rfl (Exec.load_box ((hS24701).f2) A3 rfl rfl rfl ⟨rfl, rfl⟩)) ag_nil))), ?_⟩
                      refine DL_e rfl rfl (Exec.assign (v := v24699) rfl rfl ?_)
                      refine ⟨(ag_cons (ag_r rfl rfl (Exec.move (v := v20524) rfl p24440 ⟨rfl, rfl⟩)) (ag_cons (ag_r rfl rfl (Exec.field F101_1 rfl rfl rfl ⟨rfl, rfl⟩)) (ag_cons (ag_r rfl rfl (Exec.load_box ((hS24701).f2) A3 rfl rfl rfl ⟨rfl, rfl⟩)) ag_nil))), ?_⟩
                      refine DL_done ?_
                      obtain ⟨g24702, c24703, e24704⟩ := ((hS24701).f5).arr_at q24585
                      refine WL_step rfl rfl (Exec.index_slice S24 rfl e24704 rfl (idx_some q24585).1 (idx_some q24585).2.1 ?_)
                      obtain ⟨l24705, q24706, ht24651⟩ := bind_some ht24651
                      have hS24707 := (hS24701).f5
                      refine WL_step rfl rfl (Exec.store_arr hS24707 e24704 A4 rfl rfl rfl rfl (encBool_val.2 rfl) q24706 ?_)
                      intro w24708 hS24709
                      refine WL_nil (at_normal ?_)
                      have e24710 := Option.some.inj ht24651
                      subst t24650
                      have hS24711 := ((hS24709).f3).drop
                      have hS24712 := (hS24711).f1
                      have hS24713 := (hS24712).f1
                      have hS24714 := (hS24713).f2
                      have hS24715 := ((hS24714).f4).f4
                      exact ⟨s24435, v24699, (PHeap.le_refl _), hS24715, p24438, p24439, p24440, rfl, p24442, p24443, p24444, x24445⟩
                    · refine W_cond_f rfl hc24653 ?_
                      replace hc24653 := not_true hc24653
                      refine W_skip (at_normal ?_)
                      have e24716 := Option.some.inj ht24651
                      subst t24650
                      have hS24717 := ((hS24576).f1).drop
                      have hS24718 := (hS24717).f4
                      have hS24719 := (hS24718).f4
                      have hS24720 := (hS24719).f2
                      have hS24721 := ((hS24720).f4).f4
                      exact ⟨s24435, v24126, (PHeap.le_refl _), hS24721, p24438, p24439, p24440, p24441, p24442, p24443, p24444, x24445⟩
                  · intro f24722 w24723 hM24724
                    obtain ⟨l24647, l24648⟩ := t24650
                    replace hm24433 := un2_eq hm24433
                    obtain ⟨s24725, v24649, l24726, hS24727, p24728, p24729, p24730, p24731, p24732, p24733, p24734, p24735⟩ := hM24724
                    refine (ib_normal (at_normal ?_))
                    refine W_region ?_
                    refine WL_step rfl rfl (Exec.add rfl p24735 rfl ?_)
                    refine WL_step rfl rfl (Exec.move (v := Value.int .i64 (IntKind.i64.wrap ((i23833 : Int) + 1))) rfl rfl ?_)
                    refine WL_nil (at_normal ?_)
                    have e24736 := Option.some.inj hm24433
                    subst s24428
                    have hS24737 := (hS24727).f4
                    have hS24738 := (hS24737).f4
                    have hS24739 := (hS24738).f4
                    have hS24740 := ((hS24739).f4).f4
                    exact ⟨s24725, v24649, (PHeap.le.trans l24436 l24726), hS24740, p24728, p24729, p24730, p24731, p24732, p24733, p24734, (Eq.trans rfl (wrap_up hi24431 (by have h := must_some q23832; simpa [maxLen] using h)))⟩
              · intro f24741 w24742 hI24743
                obtain ⟨l24123, l24124, l24125⟩ := t24420
                replace hm23756 := un3_eq hm23756
                obtain ⟨s24744, v24126, l24745, hS24746, p24747, p24748, p24749, p24750, p24751, p24752, p24753, x24754⟩ := hI24743
                refine W_seq ?_
                refine W_region ?_
                refine WL_step rfl rfl (Exec.lss rfl x24754 p24753 ?_)
                refine WL_nil (at_normal ?_)
                refine W_seq ?_
                refine W_false (congrArg Value.bool (decide_eq_false (by omega))) ?_
                refine W_exit (at_exit (at_exit (ib_here (ib_normal (at_normal ?_)))))
                have e24755 := Option.some.inj hm23756
                subst c23752
                have hS24756 := (hS24746).f4
                have hS24757 := (hS24756).f4
                have hS24758 := (hS24757).f4
                have hS24759 := ((hS24758).f4).f4
                refine ⟨_, rfl, ?_⟩; exact ⟨s24744, v24126, (PHeap.le.trans l23760 l24745), hS24759, p24747, p24748, p24749, p24750⟩
            · refine W_cond_f rfl hc23766 ?_
              replace hc23766 := not_true hc23766
              refine W_exit (at_exit (at_exit (ib_here (at_normal ?_))))
              have e24760 := Option.some.inj hm23756
              subst c23752
              have hS24761 := (hS23761).f4
              have hS24762 := (hS24761).f4
              have hS24763 := (hS24762).f4
              have hS24764 := ((hS24763).f4).f4
              refine ⟨_, .inr (hres23757 (by intro _ h; cases h)), ?_⟩; exact ⟨s23759, v21750, l23760, hS24764, p23762, p23763, p23764, p23765⟩
        · rintro f24765 w24766 ⟨t24767, hc24768, hM24769⟩
          have hm := hc24768.elim (hn23743 _) (hb23744 _)
          clear hc24768
          obtain ⟨l23736, l23737, l23738⟩ := t24767
          replace hm := un3_eq hm
          obtain ⟨s24770, v23739, l24771, hS24772, p24773, p24774, p24775, p24776⟩ := hM24769
          refine (at_normal ?_)
          refine W_seq ?_
          refine W_region ?_
          refine WL_step rfl rfl (Exec.move (v := v20414) rfl p24774 ?_)
          refine WL_step rfl rfl (Exec.assign (v := v20414) rfl rfl ?_)
          refine WL_nil (at_normal ?_)
          refine W_ret ?_
          have e24778 := Option.some.inj hm
          subst r
          refine ⟨_, ret1 rfl, ?_⟩
          have hS24779 := (hS24772).f2
          obtain ⟨s24780, l24781, hS24782, r24783⟩ := hS24779.freezeArr
          have hS24784 := ((hS24782).drop).drop
          have hS24785 := (hS24784).drop
          have hS24786 := (hS24785).drop
          exact ⟨s24780, v20414, (PHeap.le.trans (PHeap.le.trans (PHeap.le.trans (PHeap.le.trans (PHeap.le.trans l20398 l20509) l20541) l20748) l24771) l24781), hS24786, rfl, r24783⟩

theorem N18 : (Try.f18.name == "runtime.NumGoroutine") = false := by kernel_rfl

theorem transys_Distances_sim {w0 w : World} {s : PHeap} {H : List Res} {x14000 : System} {v14001 : Value} {v14003 : Value} {v14005 : Value} {r : (List Int) × (Option Int)} (hm : transys_Distances_p x14000 = some r) (hS : St w0 s (H) w) (a14002 : SliceRep (encInt .i64) s v14001 x14000.Costs) (a14004 : SliceRep encEdge s v14003 x14000.Edges) (a14006 : SliceRep encBool s v14005 x14000.Goals) :
    Calls Try.prog 18 #[Value.agg #[Value.int .i64 (x14000.States), Value.int .i64 (x14000.Init), v14001, v14003, v14005]] w fun e w' => ∃ v, e = .returned v ∧ ((un2 fun (y24854 : (List Int)) (y24855 : (Option Int)) => ∃ (s24857 : PHeap) (v24856 : Value), PHeap.le s s24857 ∧ St w0 s24857 (H) w' ∧ v = Value.tuple #[v24856, errV 39 (y24855)] ∧ SliceRep (encInt .i64) s24857 v24856 y24854) r) := by
  unfold transys_Distances_p at hm
  refine calls_of_W Try.func18 rfl rfl ?_
  refine W_seq ?_
  refine W_region ?_
  refine WL_step rfl rfl (Exec.box (cs := [Value.int .i64 (x14000.States), Value.int .i64 (x14000.Init), v14001, v14003, v14005]) hS rfl rfl rfl ?_)
  intro b24861 w24862 hS24863
  refine WL_step rfl rfl (Exec.assign (v := Value.slice none 0 0) rfl rfl ?_)
  refine WL_step rfl rfl (Exec.assign (v := errV 39 (none)) rfl rfl ?_)
  refine WL_nil (at_normal ?_)
  refine W_seq ?_
  refine W_seq ?_
  refine W_region ?_
  refine WL_step rfl rfl (Exec.load_box_agg (ds := [Value.int .i64 (x14000.States), Value.int .i64 (x14000.Init), v14001, v14003, v14005]) (hS24863) A26 rfl rfl rfl ?_)
  obtain ⟨y24873, q24872, hm⟩ := bind_some hm
  refine WL_step rfl rfl (Exec.call rfl rfl Try.func25 rfl N25 (args_cons rfl args_nil) ((transys_Valid_sim q24872 hS24863 a14002 a14004 a14006).mono ?_))
  rintro _ w24874 ⟨_, rfl, ⟨s24875, l24876, hS24877, rfl⟩⟩
  refine ⟨_, rfl, ?_⟩
  refine WL_step rfl rfl (Exec.not rfl rfl ?_)
  refine WL_nil (at_normal ?_)
  rcases ite_some hm with ⟨hc24878, hm⟩ | ⟨hc24878, hm⟩
  · refine W_cond_t rfl hc24878 ?_
    refine W_seq ?_
    refine W_region ?_
    refine WL_step rfl rfl (Exec.makeInterface C39 rfl rfl ?_)
    refine WL_step rfl rfl (Exec.assign (v := Value.slice none 0 0) rfl rfl ?_)
    refine WL_step rfl rfl (Exec.assign (v := errV 39 (some 2)) rfl rfl ?_)
    refine WL_nil (at_normal ?_)
    refine W_ret (at_ret ?_)
    have e24880 := Option.some.inj hm
    subst r
    refine ⟨_, ret2 rfl, ?_⟩
    have hS24881 := (hS24877).drop
    exact ⟨s24875, (Value.slice none 0 0), l24876, hS24881, (tup2 rfl rfl), (SliceRep.nil _ _)⟩
  · refine W_cond_f rfl hc24878 ?_
    replace hc24878 := not_true hc24878
    refine W_skip (at_normal ?_)
    refine W_seq ?_
    refine W_dl (n0 := 4) (.q 0 (.q 1 (.e 2 [0] (.e 3 [] .done)))) hmix (by kernel_rfl) (by kernel_rfl) ?_
    have hS24939 := hS24877.drew
    refine DL_q rfl rfl (Exec.load_box_agg (ds := [Value.int .i64 (x14000.States), Value.int .i64 (x14000.Init), v14001, v14003, v14005]) (hS24939) A26 rfl rfl rfl ⟨rfl, ?_⟩)
    refine DL_q rfl rfl (Exec.load_box_agg (ds := [Value.int .i64 (x14000.States), Value.int .i64 (x14000.Init), v14001, v14003, v14005]) (hS24939) A26 rfl rfl rfl ⟨rfl, ?_⟩)
    obtain ⟨y24942, q24941, hm⟩ := bind_some hm
    refine DL_e rfl rfl (Exec.call rfl rfl Try.func43 rfl N43 (args_cons rfl args_nil) ((transys_goals_sim q24941 hS24939 (a14002.mono l24876) (a14004.mono l24876) (a14006.mono l24876)).mono ?_))
    rintro _ w24943 ⟨v24947, rfl, ⟨s24944, _, l24945, hS24946, rfl, r24948⟩⟩
    refine ⟨_, rfl, ?_⟩
    refine ⟨(ag_cons (ag_r rfl rfl (Exec.load_box_agg (ds := [Value.int .i64 (x14000.States), Value.int .i64 (x14000.Init), v14001, v14003, v14005]) (hS24946) A26 rfl rfl rfl ⟨rfl, rfl⟩)) ag_nil), ?_⟩
    obtain ⟨y24951, q24950, hm⟩ := bind_some hm
    refine DL_e rfl rfl (Exec.call rfl rfl Try.func42 rfl N42 (args_cons rfl (args_cons rfl (args_cons rfl args_nil))) ((transys_shortest_sim q24950 hS24946 (a14002.mono (PHeap.le.trans l24876 l24945)) (a14004.mono (PHeap.le.trans l24876 l24945)) (a14006.mono (PHeap.le.trans l24876 l24945)) r24948).mono ?_))
    rintro _ w24952 ⟨v24956, rfl, ⟨s24953, _, l24954, hS24955, rfl, r24957⟩⟩
    refine ⟨_, rfl, ?_⟩
    refine ⟨ag_nil, ?_⟩
    refine DL_done ?_
    refine WL_step rfl rfl (Exec.assign (v := v24956) rfl rfl ?_)
    refine WL_step rfl rfl (Exec.assign (v := errV 39 (none)) rfl rfl ?_)
    refine WL_nil (at_normal ?_)
    refine W_ret ?_
    have e24959 := Option.some.inj hm
    subst r
    refine ⟨_, ret2 rfl, ?_⟩
    have hS24960 := (hS24955).drop
    exact ⟨s24953, v24956, (PHeap.le.trans (PHeap.le.trans l24876 l24945) l24954), hS24960, (tup2 rfl rfl), r24957⟩

theorem N20 : (Try.f20.name == "runtime.NumGoroutine") = false := by kernel_rfl

theorem base_Ints_sim {w0 w : World} {s : PHeap} {H : List Res} {a24990 : (List Int)} {b24993 : (List Int)} {v24991 : Value} {v24994 : Value} {r : Bool} (hm : base_Ints_p a24990 b24993 = some r) (hS : St w0 s (H) w) (a24992 : SliceRep (encInt .i64) s v24991 a24990) (a24995 : SliceRep (encInt .i64) s v24994 b24993) :
    Calls Try.prog 20 #[v24991, v24994] w fun e w' => ∃ v, e = .returned v ∧ ((fun (y25255 : Bool) => ∃ (s25256 : PHeap) , PHeap.le s s25256 ∧ St w0 s25256 (H) w' ∧ v = Value.bool (y25255)) r) := by
  unfold base_Ints_p at hm
  refine calls_of_W Try.func20 rfl rfl ?_
  refine W_seq ?_
  refine W_region ?_
  refine WL_step rfl rfl (Exec.assign (v := Value.bool (false)) rfl rfl ?_)
  refine WL_nil (at_normal ?_)
  refine W_seq ?_
  refine W_seq ?_
  refine W_region ?_
  refine WL_step rfl rfl (Exec.move (v := v24991) rfl rfl ?_)
  refine WL_step rfl rfl (Exec.len_rep S22 rfl rfl a24992 ?_)
  refine WL_step rfl rfl (Exec.move (v := v24994) rfl rfl ?_)
  refine WL_step rfl rfl (Exec.len_rep S22 rfl rfl a24995 ?_)
  refine WL_step rfl rfl (Exec.neq rfl rfl rfl ?_)
  refine WL_nil (at_normal ?_)
  rcases ite_some hm with ⟨hc25257, hm⟩ | ⟨hc25257, hm⟩
  · refine W_cond_t rfl hc25257 ?_
    refine W_seq ?_
    refine W_region ?_
    refine WL_step rfl rfl (Exec.assign (v := Value.bool (false)) rfl rfl ?_)
    refine WL_nil (at_normal ?_)
    refine W_ret (at_ret ?_)
    have e25259 := Option.some.inj hm
    subst r
    refine ⟨_, ret1 rfl, ?_⟩
    exact ⟨s, (PHeap.le_refl _), hS, rfl⟩
  · refine W_cond_f rfl hc25257 ?_
    replace hc25257 := not_true hc25257
    refine W_skip (at_normal ?_)
    refine W_seq ?_
    refine W_seq ?_
    refine W_region ?_
    refine WL_step rfl rfl (Exec.move (v := v24991) rfl rfl ?_)
    refine WL_step rfl rfl (Exec.len_rep S22 rfl rfl a24992 ?_)
    refine WL_step rfl rfl (Exec.move (v := Value.int .i64 (0)) rfl rfl ?_)
    refine WL_nil (at_normal ?_)
    obtain ⟨c25401, hB25402, hr25403, hn25404, hb25405⟩ := ctl_some hm
    refine W_mid (M := fun f' w' => ∃ s', (c25401 = .next s' ∨ c25401 = .brk s') ∧ (fun (_ : Unit) => ∃ (s25407 : PHeap) , PHeap.le s s25407 ∧ St w0 s25407 (H) w' ∧ f' 0 = v24991 ∧ f' 1 = v24994 ∧ f' 12 = Value.int .i64 ((a24990.length : Int))) s') ?_ ?_
    · refine W_block (W_forC (fun k' s' f' w' => (fun (_ : Unit) => ∃ (s25406 : PHeap) , PHeap.le s s25406 ∧ St w0 s25406 (H) w' ∧ f' 0 = v24991 ∧ f' 1 = v24994 ∧ f' 12 = Value.int .i64 ((a24990.length : Int)) ∧ f' 13 = Value.int .i64 (k' : Int)) s') hB25402 ?_ ?_ ?_)
      · exact ⟨s, (PHeap.le_refl _), hS, rfl, rfl, rfl, rfl⟩
      · intro i25260 t25415 c25409 f25410 w25411 hi25416 hI25412 hm25413 hres25414
        obtain ⟨s25417, l25418, hS25419, p25420, p25421, p25422, x25423⟩ := hI25412
        refine W_seq ?_
        refine W_region ?_
        refine WL_step rfl rfl (Exec.lss rfl x25423 p25422 ?_)
        refine WL_nil (at_normal ?_)
        refine W_seq ?_
        refine W_true (congrArg Value.bool (decide_eq_true (by omega))) ?_
        refine W_skip (at_normal ?_)
        refine W_seq ?_
        refine W_block ?_
        refine W_seq ?_
        refine W_region ?_
        refine WL_step rfl rfl (Exec.move (v := Value.int .i64 ((i25260 : Int))) rfl x25423 ?_)
        refine WL_step rfl rfl (Exec.assign (v := Value.int .i64 ((i25260 : Int))) rfl rfl ?_)
        refine WL_nil (at_normal ?_)
        refine W_seq ?_
        refine W_dl (n0 := 9) (.q 0 (.q 1 (.q 2 (.q 3 (.q 4 (.q 5 (.q 6 (.q 7 (.q 8 .done))))))))) hmix (by kernel_rfl) (by kernel_rfl) ?_
        have hS25475 := hS25419.drew
        refine DL_q rfl rfl (Exec.move (v := v24991) rfl p25420 ⟨rfl, ?_⟩)
        refine DL_q rfl rfl (Exec.move (v := Value.int .i64 ((i25260 : Int))) rfl rfl ⟨rfl, ?_⟩)
        obtain ⟨x25476, q25477, hm25413⟩ := bind_some hm25413
        refine DL_q rfl rfl (Exec.index_repE S22 rfl rfl rfl (a24992.mono l25418) q25477 ?_)
        intro b25478 o25479 a25480 e25481
        refine ⟨rfl, ?_⟩
        refine DL_q rfl rfl (Exec.load_at (E := (encInt .i64)) hS25475 A3 rfl rfl rfl a25480 ?_)
        intro v25482 q25483
        obtain rfl := encInt_val.1 q25483
        refine ⟨rfl, ?_⟩
        refine DL_q rfl rfl (Exec.move (v := v24994) rfl p25421 ⟨rfl, ?_⟩)
        refine DL_q rfl rfl (Exec.move (v := Value.int .i64 ((i25260 : Int))) rfl rfl ⟨rfl, ?_⟩)
        obtain ⟨x25484, q25485, hm25413⟩ := bind_some hm25413
        refine DL_q rfl rfl (Exec.index_repE S22 rfl rfl rfl (a24995.mono l25418) q25485 ?_)
        intro b25486 o25487 a25488 e25489
        refine ⟨rfl, ?_⟩
        refine DL_q rfl rfl (Exec.load_at (E := (encInt .i64)) hS25475 A3 rfl rfl rfl a25488 ?_)
        intro v25490 q25491
        obtain rfl := encInt_val.1 q25491
        refine ⟨rfl, ?_⟩
        refine DL_q rfl rfl (Exec.neq rfl rfl rfl ⟨rfl, ?_⟩)
        refine DL_done ?_
        refine WL_nil (at_normal ?_)
        rcases ite_some hm25413 with ⟨hc25492, hm25413⟩ | ⟨hc25492, hm25413⟩
        · refine W_cond_t rfl hc25492 ?_
          refine W_seq ?_
          refine W_region ?_
          refine WL_step rfl rfl (Exec.assign (v := Value.bool (false)) rfl rfl ?_)
          refine WL_nil (at_normal ?_)
          refine W_ret (ib_ret (at_ret (at_ret (ib_ret (at_ret (at_ret ?_))))))
          have e25493 := Option.some.inj hm25413
          subst c25409
          have hq25494 := hr25403 _ (hres25414 (by intro _ h; cases h))
          have e25495 := Option.some.inj hq25494
          subst r
          refine ⟨_, ret1 rfl, ?_⟩
          exact ⟨s25417, l25418, hS25475, rfl⟩
        · refine W_cond_f rfl hc25492 ?_
          replace hc25492 := not_true hc25492
          refine W_skip (ib_normal (at_normal ?_))
          refine W_region ?_
          refine WL_step rfl rfl (Exec.add rfl x25423 rfl ?_)
          refine WL_step rfl rfl (Exec.move (v := Value.int .i64 (IntKind.i64.wrap ((i25260 : Int) + 1))) rfl rfl ?_)
          refine WL_nil (at_normal ?_)
          have e25496 := Option.some.inj hm25413
          subst c25409
          refine ⟨_, rfl, ?_⟩; exact ⟨s25417, l25418, hS25475, p25420, p25421, p25422, (Eq.trans rfl (wrap_up hi25416 (SliceRep.le a24992)))⟩
      · intro t25497 f25498 w25499 hI25500 hres25501
        obtain ⟨s25502, l25503, hS25504, p25505, p25506, p25507, x25508⟩ := hI25500
        refine W_seq ?_
        refine W_region ?_
        refine WL_step rfl rfl (Exec.lss rfl x25508 p25507 ?_)
        refine WL_nil (at_normal ?_)
        refine W_seq ?_
        refine W_false (congrArg Value.bool (decide_eq_false (by omega))) ?_
        refine W_exit (at_exit (at_exit (ib_here (at_normal ?_))))
        refine ⟨_, .inl hres25501, ?_⟩; exact ⟨s25502, l25503, hS25504, p25505, p25506, p25507⟩
    · rintro f25509 w25510 ⟨t25511, hc25512, hM25513⟩
      have hm := hc25512.elim (hn25404 _) (hb25405 _)
      clear hc25512
      obtain ⟨s25514, l25515, hS25516, p25517, p25518, p25519⟩ := hM25513
      refine (at_normal ?_)
      refine W_seq ?_
      refine W_region ?_
      refine WL_step rfl rfl (Exec.assign (v := Value.bool (true)) rfl rfl ?_)
      refine WL_nil (at_normal ?_)
      refine W_ret ?_
      have e25521 := Option.some.inj hm
      subst r
      refine ⟨_, ret1 rfl, ?_⟩
      exact ⟨s25514, l25515, hS25516, rfl⟩

theorem N10 : (Try.f10.name == "runtime.NumGoroutine") = false := by kernel_rfl

theorem law44_awake_sim {w0 w : World} {s : PHeap} {H : List Res}   {r : Bool} (hm : law44_awake_p  = some r) (hS : St w0 s (H) w)  :
    Calls Try.prog 10 #[] w fun e w' => ∃ v, e = .returned v ∧ ((fun (y25560 : Bool) => ∃ (s25561 : PHeap) , PHeap.le s s25561 ∧ St w0 s25561 (H) w' ∧ v = Value.bool (y25560)) r) := by
  unfold law44_awake_p at hm
  refine calls_of_W Try.func10 rfl rfl ?_
  refine W_seq ?_
  refine W_region ?_
  refine WL_step rfl rfl (Exec.assign (v := Value.bool (false)) rfl rfl ?_)
  refine WL_nil (at_normal ?_)
  refine W_seq ?_
  refine W_region ?_
  refine WL_step rfl rfl (Exec.call rfl rfl Try.func26 rfl N26 args_nil ((law44_example_sim law44_example_tot hS ).mono ?_))
  rintro _ w25601 ⟨_, rfl, ⟨s25602, v25605, v25606, v25607, l25603, hS25604, rfl, r25608, r25609, r25610⟩⟩
  refine ⟨_, rfl, ?_⟩
  refine WL_step rfl rfl (Exec.call rfl rfl Try.func26 rfl N26 args_nil ((law44_example_sim law44_example_tot hS25604 ).mono ?_))
  rintro _ w25611 ⟨_, rfl, ⟨s25612, v25615, v25616, v25617, l25613, hS25614, rfl, r25618, r25619, r25620⟩⟩
  refine ⟨_, rfl, ?_⟩
  obtain ⟨t25621, q25622, hm⟩ := bind_some hm
  obtain ⟨y25623, y25624⟩ := t25621
  replace hm := un2_eq hm
  refine WL_step rfl rfl (Exec.call rfl rfl Try.func12 rfl N12 (args_cons rfl (args_cons rfl args_nil)) ((transys_Product_sim q25622 hS25614 (r25608.mono l25613) (r25609.mono l25613) (r25610.mono l25613) r25618 r25619 r25620).mono ?_))
  rintro _ w25625 ⟨_, rfl, ⟨s25626, v25629, v25630, v25631, l25627, hS25628, rfl, r25632, r25633, r25634⟩⟩
  refine ⟨_, rfl, ?_⟩
  refine WL_step rfl rfl (Exec.move (v := Value.tuple #[Value.agg #[Value.int .i64 (y25624.States), Value.int .i64 (y25624.Init), v25629, v25630, v25631], errV 39 (y25623)]) rfl rfl ?_)
  refine WL_step rfl rfl (Exec.extract (v := Value.agg #[Value.int .i64 (y25624.States), Value.int .i64 (y25624.Init), v25629, v25630, v25631]) rfl rfl rfl ?_)
  refine WL_step rfl rfl (Exec.extract (v := errV 39 (y25623)) rfl rfl rfl ?_)
  refine WL_step rfl rfl (Exec.alloc (cs := [Value.int .i64 (0), Value.int .i64 (0), Value.slice none 0 0, Value.slice none 0 0, Value.slice none 0 0]) hS25628 Z26 rfl rfl ?_)
  intro b25635 w25636 hS25637
  refine WL_step rfl rfl (Exec.store_box (ds := [Value.int .i64 (y25624.States), Value.int .i64 (y25624.Init), v25629, v25630, v25631]) (es := [Value.int .i64 (y25624.States), Value.int .i64 (y25624.Init), v25629, v25630, v25631]) hS25637 A26 rfl rfl rfl rfl (one_cons rfl (one_cons rfl (one_cons (r25632).one (one_cons (r25633).one (one_cons (r25634).one one_nil))))) (Nat.le_of_ble_eq_true rfl) rfl ?_)
  intro w25638 hS25639
  refine WL_step rfl rfl (Exec.assign (v := errV 39 (y25623)) rfl rfl ?_)
  refine WL_nil (at_normal ?_)
  refine W_seq ?_
  refine W_seq ?_
  refine W_mid (M := fun f' w' => ∃ (s25642 : PHeap) , PHeap.le s25626 s25642 ∧ St w0 s25642 (Res.box b25635 26 [Value.int .i64 (y25624.States), Value.int .i64 (y25624.Init), v25629, v25630, v25631] :: H) w' ∧ f' 1 = Value.pointer (some ⟨b25635, 0, none⟩) ∧ f' 22 = Value.bool ((y25623.isSome || ((!decide (y25624.States = 4)) || !decide ((y25624.Edges.length : Int) = 2))))) ?_ ?_
  · refine W_region ?_
    refine WL_step rfl rfl (Exec.move (v := errV 39 (y25623)) rfl rfl ?_)
    refine WL_step rfl rfl (Exec.err_neq_nil (T := 39) Try.underlying30 rfl rfl rfl ?_)
    refine WL_step rfl rfl (Exec.move (v := Value.bool (y25623.isSome)) rfl rfl ?_)
    by_cases hc25643 : y25623.isSome = true
    · refine WL_pass rfl (yield_of rfl (congrArg Value.bool hc25643)) rfl rfl ?_
      refine WL_pass rfl (yield_of rfl (congrArg Value.bool hc25643)) rfl rfl ?_
      refine WL_pass rfl (yield_of rfl (congrArg Value.bool hc25643)) rfl rfl ?_
      refine WL_step rfl rfl (Exec.pick_t (v := Value.bool (true)) rfl (congrArg Value.bool hc25643) rfl ?_)
      refine WL_step rfl rfl (Exec.move (v := Value.bool (true)) rfl rfl ?_)
      refine WL_pass rfl (yield_of rfl rfl) rfl rfl ?_
      refine WL_pass rfl (yield_of rfl rfl) rfl rfl ?_
      refine WL_pass rfl (yield_of rfl rfl) rfl rfl ?_
      refine WL_pass rfl (yield_of rfl rfl) rfl rfl ?_
      refine WL_step rfl rfl (Exec.pick_t (v := Value.bool (true)) rfl rfl rfl ?_)
      refine WL_nil (at_normal ?_)
      exact ⟨s25626, (PHeap.le_refl _), hS25639, rfl, (congrArg Value.bool (or_t hc25643)).symm⟩
    · replace hc25643 := not_true hc25643
      refine WL_run rfl (yield_of rfl (congrArg Value.bool hc25643)) rfl (Exec.field F26_0 rfl rfl rfl ?_)
      refine WL_run rfl (yield_of rfl (congrArg Value.bool hc25643)) rfl (Exec.load_box (hS25639) A3 rfl rfl rfl ?_)
      refine WL_run rfl (yield_of rfl (congrArg Value.bool hc25643)) rfl (Exec.neq rfl rfl rfl ?_)
      refine WL_step rfl rfl (Exec.pick_f (v := Value.bool (!decide (y25624.States = 4))) rfl (congrArg Value.bool hc25643) rfl ?_)
      refine WL_step rfl rfl (Exec.move (v := Value.bool (!decide (y25624.States = 4))) rfl rfl ?_)
      by_cases hc25644 : (!decide (y25624.States = 4)) = true
      · refine WL_pass rfl (yield_of rfl (congrArg Value.bool hc25644)) rfl rfl ?_
        refine WL_pass rfl (yield_of rfl (congrArg Value.bool hc25644)) rfl rfl ?_
        refine WL_pass rfl (yield_of rfl (congrArg Value.bool hc25644)) rfl rfl ?_
        refine WL_pass rfl (yield_of rfl (congrArg Value.bool hc25644)) rfl rfl ?_
        refine WL_step rfl rfl (Exec.pick_t (v := Value.bool (true)) rfl (congrArg Value.bool hc25644) rfl ?_)
        refine WL_nil (at_normal ?_)
        exact ⟨s25626, (PHeap.le_refl _), hS25639, rfl, (congrArg Value.bool (Eq.trans (or_f hc25643) (or_t hc25644))).symm⟩
      · replace hc25644 := not_true hc25644
        refine WL_run rfl (yield_of rfl (congrArg Value.bool hc25644)) rfl (Exec.field F26_3 rfl rfl rfl ?_)
        refine WL_run rfl (yield_of rfl (congrArg Value.bool hc25644)) rfl (Exec.load_box (hS25639) A23 rfl rfl rfl ?_)
        refine WL_run rfl (yield_of rfl (congrArg Value.bool hc25644)) rfl (Exec.len_rep S23 rfl rfl r25633 ?_)
        refine WL_run rfl (yield_of rfl (congrArg Value.bool hc25644)) rfl (Exec.neq rfl rfl rfl ?_)
        refine WL_step rfl rfl (Exec.pick_f (v := Value.bool (!decide ((y25624.Edges.length : Int) = 2))) rfl (congrArg Value.bool hc25644) rfl ?_)
        refine WL_nil (at_normal ?_)
        exact ⟨s25626, (PHeap.le_refl _), hS25639, rfl, (congrArg Value.bool (Eq.trans (or_f hc25643) (or_f hc25644))).symm⟩
  · intro f25645 w25646 hM25647
    obtain ⟨s25648, l25649, hS25650, p25651, p25652⟩ := hM25647
    refine (at_normal ?_)
    rcases ite_some hm with ⟨hc25653, hm⟩ | ⟨hc25653, hm⟩
    · refine W_cond_t p25652 hc25653 ?_
      refine W_seq ?_
      refine W_region ?_
      refine WL_step rfl rfl (Exec.assign (v := Value.bool (false)) rfl rfl ?_)
      refine WL_nil (at_normal ?_)
      refine W_ret (at_ret ?_)
      have e25655 := Option.some.inj hm
      subst r
      refine ⟨_, ret1 rfl, ?_⟩
      have hS25656 := (hS25650).drop
      exact ⟨s25648, (PHeap.le.trans (PHeap.le.trans (PHeap.le.trans l25603 l25613) l25627) l25649), hS25656, rfl⟩
    · refine W_cond_f p25652 hc25653 ?_
      replace hc25653 := not_true hc25653
      refine W_skip (at_normal ?_)
      refine W_seq ?_
      refine W_region ?_
      refine WL_step rfl rfl (Exec.load_box_agg (ds := [Value.int .i64 (y25624.States), Value.int .i64 (y25624.Init), v25629, v25630, v25631]) (hS25650) A26 rfl p25651 rfl ?_)
      obtain ⟨t25667, q25668, hm⟩ := bind_some hm
      obtain ⟨y25669, y25670⟩ := t25667
      replace hm := un2_eq hm
      refine WL_step rfl rfl (Exec.call rfl rfl Try.func18 rfl N18 (args_cons rfl args_nil) ((transys_Distances_sim q25668 hS25650 (r25632.mono l25649) (r25633.mono l25649) (r25634.mono l25649)).mono ?_))
      rintro _ w25671 ⟨_, rfl, ⟨s25672, v25675, l25673, hS25674, rfl, r25676⟩⟩
      refine ⟨_, rfl, ?_⟩
      refine WL_step rfl rfl (Exec.move (v := Value.tuple #[v25675, errV 39 (y25670)]) rfl rfl ?_)
      refine WL_step rfl rfl (Exec.extract (v := v25675) rfl rfl rfl ?_)
      refine WL_step rfl rfl (Exec.extract (v := errV 39 (y25670)) rfl rfl rfl ?_)
      refine WL_step rfl rfl (Exec.assign (v := v25675) rfl rfl ?_)
      refine WL_step rfl rfl (Exec.assign (v := errV 39 (y25670)) rfl rfl ?_)
      refine WL_nil (at_normal ?_)
      refine W_seq ?_
      obtain ⟨z25693, ht25694, hm⟩ := bind_some hm
      refine W_mid (M := fun f' w' => (fun (z25693 : Bool) => ∃ (s25695 : PHeap) , PHeap.le s25672 s25695 ∧ St w0 s25695 (H) w' ∧ f' 0 = Value.bool (z25693)) z25693) ?_ ?_
      · refine W_region ?_
        refine WL_step rfl rfl (Exec.move (v := errV 39 (y25670)) rfl rfl ?_)
        refine WL_step rfl rfl (Exec.err_eql_nil (T := 39) Try.underlying30 rfl rfl rfl ?_)
        refine WL_step rfl rfl (Exec.move (v := Value.bool (y25670.isNone)) rfl rfl ?_)
        rcases ite_some ht25694 with ⟨hc25696, ht25694⟩ | ⟨hc25696, ht25694⟩
        · refine WL_run rfl (yield_of rfl (congrArg Value.bool hc25696)) rfl (Exec.move (v := v25675) rfl rfl ?_)
          refine WL_run rfl (yield_of rfl (congrArg Value.bool hc25696)) rfl (Exec.buildSlice (Te := 3) (cs := [Value.int .i64 (2), Value.int .i64 (1125899906842624), Value.int .i64 (1125899906842624), Value.int .i64 (0)]) hS25674 rfl (parts_cons (c := [Value.int .i64 (2)]) (cells_of rfl rfl) (parts_cons (c := [Value.int .i64 (1125899906842624)]) (cells_of rfl rfl) (parts_cons (c := [Value.int .i64 (1125899906842624)]) (cells_of rfl rfl) (parts_cons (c := [Value.int .i64 (0)]) (cells_of rfl rfl) parts_nil)))) (fun _ => by kernel_rfl) ?_)
          intro b25697 w25698 hS25699
          have hS25700 := St.boxArr (E := (encInt .i64)) (xs := [2, 1125899906842624, 1125899906842624, 0]) hS25699 ⟨[Value.int .i64 (2)], [Value.int .i64 (1125899906842624), Value.int .i64 (1125899906842624), Value.int .i64 (0)], rfl, rfl, ⟨[Value.int .i64 (1125899906842624)], [Value.int .i64 (1125899906842624), Value.int .i64 (0)], rfl, rfl, ⟨[Value.int .i64 (1125899906842624)], [Value.int .i64 (0)], rfl, rfl, ⟨[Value.int .i64 (0)], [], rfl, rfl, rfl⟩⟩⟩⟩ (by simp [maxLen])
          obtain ⟨s25701, l25702, hS25703, r25704⟩ := hS25700.freezeArr
          obtain ⟨y25707, q25706, ht25694⟩ := bind_some ht25694
          refine WL_run rfl (yield_of rfl (congrArg Value.bool hc25696)) rfl (Exec.call rfl rfl Try.func20 rfl N20 (args_cons rfl (args_cons rfl args_nil)) ((base_Ints_sim q25706 hS25703 (r25676.mono l25702) r25704).mono ?_))
          rintro _ w25708 ⟨_, rfl, ⟨s25709, l25710, hS25711, rfl⟩⟩
          refine ⟨_, rfl, ?_⟩
          refine WL_step rfl rfl (Exec.pick_t (v := Value.bool (y25707)) rfl (congrArg Value.bool hc25696) rfl ?_)
          refine WL_step rfl rfl (Exec.assign (v := Value.bool (y25707)) rfl rfl ?_)
          refine WL_nil (at_normal ?_)
          have e25712 := Option.some.inj ht25694
          subst z25693
          have hS25713 := (hS25711).drop
          exact ⟨s25709, (PHeap.le.trans l25702 l25710), hS25713, rfl⟩
        · replace hc25696 := not_true hc25696
          refine WL_pass rfl (yield_of rfl (congrArg Value.bool hc25696)) rfl rfl ?_
          refine WL_pass rfl (yield_of rfl (congrArg Value.bool hc25696)) rfl rfl ?_
          refine WL_pass rfl (yield_of rfl (congrArg Value.bool hc25696)) rfl rfl ?_
          refine WL_step rfl rfl (Exec.pick_f (v := Value.bool (false)) rfl (congrArg Value.bool hc25696) rfl ?_)
          refine WL_step rfl rfl (Exec.assign (v := Value.bool (false)) rfl rfl ?_)
          refine WL_nil (at_normal ?_)
          have e25714 := Option.some.inj ht25694
          subst z25693
          have hS25715 := (hS25674).drop
          exact ⟨s25672, (PHeap.le_refl _), hS25715, rfl⟩
      · intro f25716 w25717 hM25718
        obtain ⟨s25719, l25720, hS25721, p25722⟩ := hM25718
        refine (at_normal ?_)
        refine W_ret ?_
        have e25724 := Option.some.inj hm
        subst r
        refine ⟨_, ret1 rfl, ?_⟩
        exact ⟨s25719, (PHeap.le.trans (PHeap.le.trans (PHeap.le.trans (PHeap.le.trans (PHeap.le.trans l25603 l25613) l25627) l25649) l25673) l25720), hS25721, p25722⟩

theorem N41 : (Try.f41.name == "runtime.NumGoroutine") = false := by kernel_rfl

theorem ref44_Before_sim {w0 w : World} {s : PHeap} {H : List Res} {a25961 : Edge} {b25962 : Edge}  {r : Bool} (hm : ref44_Before_p a25961 b25962 = some r) (hS : St w0 s (H) w)  :
    Calls Try.prog 41 #[Value.agg #[Value.int .i64 (a25961.From), Value.int .i64 (a25961.Label), Value.int .i64 (a25961.To)], Value.agg #[Value.int .i64 (b25962.From), Value.int .i64 (b25962.Label), Value.int .i64 (b25962.To)]] w fun e w' => ∃ v, e = .returned v ∧ ((fun (y25978 : Bool) => ∃ (s25979 : PHeap) , PHeap.le s s25979 ∧ St w0 s25979 (H) w' ∧ v = Value.bool (y25978)) r) := by
  unfold ref44_Before_p at hm
  refine calls_of_W Try.func41 rfl rfl ?_
  refine W_seq ?_
  refine W_region ?_
  refine WL_step rfl rfl (Exec.box (cs := [Value.int .i64 (a25961.From), Value.int .i64 (a25961.Label), Value.int .i64 (a25961.To)]) hS rfl rfl rfl ?_)
  intro b25986 w25987 hS25988
  refine WL_step rfl rfl (Exec.box (cs := [Value.int .i64 (b25962.From), Value.int .i64 (b25962.Label), Value.int .i64 (b25962.To)]) hS25988 rfl rfl rfl ?_)
  intro b25989 w25990 hS25991
  refine WL_step rfl rfl (Exec.assign (v := Value.bool (false)) rfl rfl ?_)
  refine WL_nil (at_normal ?_)
  refine W_seq ?_
  refine W_seq ?_
  refine W_region ?_
  refine WL_step rfl rfl (Exec.field F66_0 rfl rfl rfl ?_)
  refine WL_step rfl rfl (Exec.load_box ((hS25991).f1) A3 rfl rfl rfl ?_)
  refine WL_step rfl rfl (Exec.field F66_0 rfl rfl rfl ?_)
  refine WL_step rfl rfl (Exec.load_box (hS25991) A3 rfl rfl rfl ?_)
  refine WL_step rfl rfl (Exec.neq rfl rfl rfl ?_)
  refine WL_nil (at_normal ?_)
  rcases ite_some hm with ⟨hc25992, hm⟩ | ⟨hc25992, hm⟩
  · refine W_cond_t rfl hc25992 ?_
    refine W_seq ?_
    refine W_region ?_
    refine WL_step rfl rfl (Exec.field F66_0 rfl rfl rfl ?_)
    refine WL_step rfl rfl (Exec.load_box ((hS25991).f1) A3 rfl rfl rfl ?_)
    refine WL_step rfl rfl (Exec.field F66_0 rfl rfl rfl ?_)
    refine WL_step rfl rfl (Exec.load_box (hS25991) A3 rfl rfl rfl ?_)
    refine WL_step rfl rfl (Exec.lss rfl rfl rfl ?_)
    refine WL_step rfl rfl (Exec.assign (v := Value.bool (decide (a25961.From < b25962.From))) rfl rfl ?_)
    refine WL_nil (at_normal ?_)
    refine W_ret (at_ret ?_)
    have e25994 := Option.some.inj hm
    subst r
    refine ⟨_, ret1 rfl, ?_⟩
    have hS25995 := (hS25991).drop
    have hS25996 := (hS25995).drop
    exact ⟨s, (PHeap.le_refl _), hS25996, rfl⟩
  · refine W_cond_f rfl hc25992 ?_
    replace hc25992 := not_true hc25992
    refine W_skip (at_normal ?_)
    refine W_seq ?_
    refine W_seq ?_
    refine W_region ?_
    refine WL_step rfl rfl (Exec.field F66_1 rfl rfl rfl ?_)
    refine WL_step rfl rfl (Exec.load_box ((hS25991).f1) A3 rfl rfl rfl ?_)
    refine WL_step rfl rfl (Exec.field F66_1 rfl rfl rfl ?_)
    refine WL_step rfl rfl (Exec.load_box (hS25991) A3 rfl rfl rfl ?_)
    refine WL_step rfl rfl (Exec.neq rfl rfl rfl ?_)
    refine WL_nil (at_normal ?_)
    rcases ite_some hm with ⟨hc25997, hm⟩ | ⟨hc25997, hm⟩
    · refine W_cond_t rfl hc25997 ?_
      refine W_seq ?_
      refine W_region ?_
      refine WL_step rfl rfl (Exec.field F66_1 rfl rfl rfl ?_)
      refine WL_step rfl rfl (Exec.load_box ((hS25991).f1) A3 rfl rfl rfl ?_)
      refine WL_step rfl rfl (Exec.field F66_1 rfl rfl rfl ?_)
      refine WL_step rfl rfl (Exec.load_box (hS25991) A3 rfl rfl rfl ?_)
      refine WL_step rfl rfl (Exec.lss rfl rfl rfl ?_)
      refine WL_step rfl rfl (Exec.assign (v := Value.bool (decide (a25961.Label < b25962.Label))) rfl rfl ?_)
      refine WL_nil (at_normal ?_)
      refine W_ret (at_ret ?_)
      have e25999 := Option.some.inj hm
      subst r
      refine ⟨_, ret1 rfl, ?_⟩
      have hS26000 := (hS25991).drop
      have hS26001 := (hS26000).drop
      exact ⟨s, (PHeap.le_refl _), hS26001, rfl⟩
    · refine W_cond_f rfl hc25997 ?_
      replace hc25997 := not_true hc25997
      refine W_skip (at_normal ?_)
      refine W_seq ?_
      refine W_region ?_
      refine WL_step rfl rfl (Exec.field F66_2 rfl rfl rfl ?_)
      refine WL_step rfl rfl (Exec.load_box ((hS25991).f1) A3 rfl rfl rfl ?_)
      refine WL_step rfl rfl (Exec.field F66_2 rfl rfl rfl ?_)
      refine WL_step rfl rfl (Exec.load_box (hS25991) A3 rfl rfl rfl ?_)
      refine WL_step rfl rfl (Exec.lss rfl rfl rfl ?_)
      refine WL_step rfl rfl (Exec.assign (v := Value.bool (decide (a25961.To < b25962.To))) rfl rfl ?_)
      refine WL_nil (at_normal ?_)
      refine W_ret ?_
      have e26003 := Option.some.inj hm
      subst r
      refine ⟨_, ret1 rfl, ?_⟩
      have hS26004 := (hS25991).drop
      have hS26005 := (hS26004).drop
      exact ⟨s, (PHeap.le_refl _), hS26005, rfl⟩

theorem N17 : (Try.f17.name == "runtime.NumGoroutine") = false := by kernel_rfl

theorem ref44_Valid_sim {w0 w : World} {s : PHeap} {H : List Res} {x25747 : System} {v25748 : Value} {v25750 : Value} {v25752 : Value} {r : Bool} (hm : ref44_Valid_p x25747 = some r) (hS : St w0 s (H) w) (a25749 : SliceRep (encInt .i64) s v25748 x25747.Costs) (a25751 : SliceRep encEdge s v25750 x25747.Edges) (a25753 : SliceRep encBool s v25752 x25747.Goals) :
    Calls Try.prog 17 #[Value.agg #[Value.int .i64 (x25747.States), Value.int .i64 (x25747.Init), v25748, v25750, v25752]] w fun e w' => ∃ v, e = .returned v ∧ ((fun (y26420 : Bool) => ∃ (s26421 : PHeap) , PHeap.le s s26421 ∧ St w0 s26421 (H) w' ∧ v = Value.bool (y26420)) r) := by
  unfold ref44_Valid_p at hm
  refine calls_of_W Try.func17 rfl rfl ?_
  refine W_seq ?_
  refine W_region ?_
  refine WL_step rfl rfl (Exec.box (cs := [Value.int .i64 (x25747.States), Value.int .i64 (x25747.Init), v25748, v25750, v25752]) hS rfl rfl rfl ?_)
  intro b26425 w26426 hS26427
  refine WL_step rfl rfl (Exec.assign (v := Value.bool (false)) rfl rfl ?_)
  refine WL_nil (at_normal ?_)
  refine W_seq ?_
  refine W_seq ?_
  refine W_mid (M := fun f' w' => ∃ (s26434 : PHeap) , PHeap.le s s26434 ∧ St w0 s26434 (Res.box b26425 26 [Value.int .i64 (x25747.States), Value.int .i64 (x25747.Init), v25748, v25750, v25752] :: H) w' ∧ f' 1 = Value.pointer (some ⟨b26425, 0, none⟩) ∧ f' 46 = Value.bool (((decide (x25747.States < 1)) || ((decide (4096 < x25747.States)) || ((decide (x25747.Init < 0)) || ((decide (x25747.States ≤ x25747.Init)) || ((!decide ((x25747.Goals.length : Int) = x25747.States)) || ((decide (4096 < (x25747.Costs.length : Int))) || decide (65536 < (x25747.Edges.length : Int)))))))))) ?_ ?_
  · refine W_region ?_
    refine WL_step rfl rfl (Exec.field F26_0 rfl rfl rfl ?_)
    refine WL_step rfl rfl (Exec.load_box (hS26427) A3 rfl rfl rfl ?_)
    refine WL_step rfl rfl (Exec.lss rfl rfl rfl ?_)
    refine WL_step rfl rfl (Exec.move (v := Value.bool (decide (x25747.States < 1))) rfl rfl ?_)
    by_cases hc26435 : (decide (x25747.States < 1)) = true
    · refine WL_pass rfl (yield_of rfl (congrArg Value.bool hc26435)) rfl rfl ?_
      refine WL_pass rfl (yield_of rfl (congrArg Value.bool hc26435)) rfl rfl ?_
      refine WL_pass rfl (yield_of rfl (congrArg Value.bool hc26435)) rfl rfl ?_
      refine WL_step rfl rfl (Exec.pick_t (v := Value.bool (true)) rfl (congrArg Value.bool hc26435) rfl ?_)
      refine WL_step rfl rfl (Exec.move (v := Value.bool (true)) rfl rfl ?_)
      refine WL_pass rfl (yield_of rfl rfl) rfl rfl ?_
      refine WL_pass rfl (yield_of rfl rfl) rfl rfl ?_
      refine WL_pass rfl (yield_of rfl rfl) rfl rfl ?_
      refine WL_step rfl rfl (Exec.pick_t (v := Value.bool (true)) rfl rfl rfl ?_)
      refine WL_step rfl rfl (Exec.move (v := Value.bool (true)) rfl rfl ?_)
      refine WL_pass rfl (yield_of rfl rfl) rfl rfl ?_
      refine WL_pass rfl (yield_of rfl rfl) rfl rfl ?_
      refine WL_pass rfl (yield_of rfl rfl) rfl rfl ?_
      refine WL_pass rfl (yield_of rfl rfl) rfl rfl ?_
      refine WL_pass rfl (yield_of rfl rfl) rfl rfl ?_
      refine WL_step rfl rfl (Exec.pick_t (v := Value.bool (true)) rfl rfl rfl ?_)
      refine WL_step rfl rfl (Exec.move (v := Value.bool (true)) rfl rfl ?_)
      refine WL_pass rfl (yield_of rfl rfl) rfl rfl ?_
      refine WL_pass rfl (yield_of rfl rfl) rfl rfl ?_
      refine WL_pass rfl (yield_of rfl rfl) rfl rfl ?_
      refine WL_pass rfl (yield_of rfl rfl) rfl rfl ?_
      refine WL_pass rfl (yield_of rfl rfl) rfl rfl ?_
      refine WL_pass rfl (yield_of rfl rfl) rfl rfl ?_
      refine WL_step rfl rfl (Exec.pick_t (v := Value.bool (true)) rfl rfl rfl ?_)
      refine WL_step rfl rfl (Exec.move (v := Value.bool (true)) rfl rfl ?_)
      refine WL_pass rfl (yield_of rfl rfl) rfl rfl ?_
      refine WL_pass rfl (yield_of rfl rfl) rfl rfl ?_
      refine WL_pass rfl (yield_of rfl rfl) rfl rfl ?_
      refine WL_pass rfl (yield_of rfl rfl) rfl rfl ?_
      refine WL_step rfl rfl (Exec.pick_t (v := Value.bool (true)) rfl rfl rfl ?_)
      refine WL_step rfl rfl (Exec.move (v := Value.bool (true)) rfl rfl ?_)
      refine WL_pass rfl (yield_of rfl rfl) rfl rfl ?_
      refine WL_pass rfl (yield_of rfl rfl) rfl rfl ?_
      refine WL_pass rfl (yield_of rfl rfl) rfl rfl ?_
      refine WL_pass rfl (yield_of rfl rfl) rfl rfl ?_
      refine WL_step rfl rfl (Exec.pick_t (v := Value.bool (true)) rfl rfl rfl ?_)
      refine WL_nil (at_normal ?_)
      exact ⟨s, (PHeap.le_refl _), hS26427, rfl, (congrArg Value.bool (or_t hc26435)).symm⟩
    · replace hc26435 := not_true hc26435
      refine WL_run rfl (yield_of rfl (congrArg Value.bool hc26435)) rfl (Exec.field F26_0 rfl rfl rfl ?_)
      refine WL_run rfl (yield_of rfl (congrArg Value.bool hc26435)) rfl (Exec.load_box (hS26427) A3 rfl rfl rfl ?_)
      refine WL_run rfl (yield_of rfl (congrArg Value.bool hc26435)) rfl (Exec.gtr rfl rfl rfl ?_)
      refine WL_step rfl rfl (Exec.pick_f (v := Value.bool (decide (4096 < x25747.States))) rfl (congrArg Value.bool hc26435) rfl ?_)
      refine WL_step rfl rfl (Exec.move (v := Value.bool (decide (4096 < x25747.States))) rfl rfl ?_)
      by_cases hc26436 : (decide (4096 < x25747.States)) = true
      · refine WL_pass rfl (yield_of rfl (congrArg Value.bool hc26436)) rfl rfl ?_
        refine WL_pass rfl (yield_of rfl (congrArg Value.bool hc26436)) rfl rfl ?_
        refine WL_pass rfl (yield_of rfl (congrArg Value.bool hc26436)) rfl rfl ?_
        refine WL_step rfl rfl (Exec.pick_t (v := Value.bool (true)) rfl (congrArg Value.bool hc26436) rfl ?_)
        refine WL_step rfl rfl (Exec.move (v := Value.bool (true)) rfl rfl ?_)
        refine WL_pass rfl (yield_of rfl rfl) rfl rfl ?_
        refine WL_pass rfl (yield_of rfl rfl) rfl rfl ?_
        refine WL_pass rfl (yield_of rfl rfl) rfl rfl ?_
        refine WL_pass rfl (yield_of rfl rfl) rfl rfl ?_
        refine WL_pass rfl (yield_of rfl rfl) rfl rfl ?_
        refine WL_step rfl rfl (Exec.pick_t (v := Value.bool (true)) rfl rfl rfl ?_)
        refine WL_step rfl rfl (Exec.move (v := Value.bool (true)) rfl rfl ?_)
        refine WL_pass rfl (yield_of rfl rfl) rfl rfl ?_
        refine WL_pass rfl (yield_of rfl rfl) rfl rfl ?_
        refine WL_pass rfl (yield_of rfl rfl) rfl rfl ?_
        refine WL_pass rfl (yield_of rfl rfl) rfl rfl ?_
        refine WL_pass rfl (yield_of rfl rfl) rfl rfl ?_
        refine WL_pass rfl (yield_of rfl rfl) rfl rfl ?_
        refine WL_step rfl rfl (Exec.pick_t (v := Value.bool (true)) rfl rfl rfl ?_)
        refine WL_step rfl rfl (Exec.move (v := Value.bool (true)) rfl rfl ?_)
        refine WL_pass rfl (yield_of rfl rfl) rfl rfl ?_
        refine WL_pass rfl (yield_of rfl rfl) rfl rfl ?_
        refine WL_pass rfl (yield_of rfl rfl) rfl rfl ?_
        refine WL_pass rfl (yield_of rfl rfl) rfl rfl ?_
        refine WL_step rfl rfl (Exec.pick_t (v := Value.bool (true)) rfl rfl rfl ?_)
        refine WL_step rfl rfl (Exec.move (v := Value.bool (true)) rfl rfl ?_)
        refine WL_pass rfl (yield_of rfl rfl) rfl rfl ?_
        refine WL_pass rfl (yield_of rfl rfl) rfl rfl ?_
        refine WL_pass rfl (yield_of rfl rfl) rfl rfl ?_
        refine WL_pass rfl (yield_of rfl rfl) rfl rfl ?_
        refine WL_step rfl rfl (Exec.pick_t (v := Value.bool (true)) rfl rfl rfl ?_)
        refine WL_nil (at_normal ?_)
        exact ⟨s, (PHeap.le_refl _), hS26427, rfl, (congrArg Value.bool (Eq.trans (or_f hc26435) (or_t hc26436))).symm⟩
      · replace hc26436 := not_true hc26436
        refine WL_run rfl (yield_of rfl (congrArg Value.bool hc26436)) rfl (Exec.field F26_1 rfl rfl rfl ?_)
        refine WL_run rfl (yield_of rfl (congrArg Value.bool hc26436)) rfl (Exec.load_box (hS26427) A3 rfl rfl rfl ?_)
        refine WL_run rfl (yield_of rfl (congrArg Value.bool hc26436)) rfl (Exec.lss rfl rfl rfl ?_)
        refine WL_step rfl rfl (Exec.pick_f (v := Value.bool (decide (x25747.Init < 0))) rfl (congrArg Value.bool hc26436) rfl ?_)
        refine WL_step rfl rfl (Exec.move (v := Value.bool (decide (x25747.Init < 0))) rfl rfl ?_)
        by_cases hc26437 : (decide (x25747.Init < 0)) = true
        · refine WL_pass rfl (yield_of rfl (congrArg Value.bool hc26437)) rfl rfl ?_
          refine WL_pass rfl (yield_of rfl (congrArg Value.bool hc26437)) rfl rfl ?_
          refine WL_pass rfl (yield_of rfl (congrArg Value.bool hc26437)) rfl rfl ?_
          refine WL_pass rfl (yield_of rfl (congrArg Value.bool hc26437)) rfl rfl ?_
          refine WL_pass rfl (yield_of rfl (congrArg Value.bool hc26437)) rfl rfl ?_
          refine WL_step rfl rfl (Exec.pick_t (v := Value.bool (true)) rfl (congrArg Value.bool hc26437) rfl ?_)
          refine WL_step rfl rfl (Exec.move (v := Value.bool (true)) rfl rfl ?_)
          refine WL_pass rfl (yield_of rfl rfl) rfl rfl ?_
          refine WL_pass rfl (yield_of rfl rfl) rfl rfl ?_
          refine WL_pass rfl (yield_of rfl rfl) rfl rfl ?_
          refine WL_pass rfl (yield_of rfl rfl) rfl rfl ?_
          refine WL_pass rfl (yield_of rfl rfl) rfl rfl ?_
          refine WL_pass rfl (yield_of rfl rfl) rfl rfl ?_
          refine WL_step rfl rfl (Exec.pick_t (v := Value.bool (true)) rfl rfl rfl ?_)
          refine WL_step rfl rfl (Exec.move (v := Value.bool (true)) rfl rfl ?_)
          refine WL_pass rfl (yield_of rfl rfl) rfl rfl ?_
          refine WL_pass rfl (yield_of rfl rfl) rfl rfl ?_
          refine WL_pass rfl (yield_of rfl rfl) rfl rfl ?_
          refine WL_pass rfl (yield_of rfl rfl) rfl rfl ?_
          refine WL_step rfl rfl (Exec.pick_t (v := Value.bool (true)) rfl rfl rfl ?_)
          refine WL_step rfl rfl (Exec.move (v := Value.bool (true)) rfl rfl ?_)
          refine WL_pass rfl (yield_of rfl rfl) rfl rfl ?_
          refine WL_pass rfl (yield_of rfl rfl) rfl rfl ?_
          refine WL_pass rfl (yield_of rfl rfl) rfl rfl ?_
          refine WL_pass rfl (yield_of rfl rfl) rfl rfl ?_
          refine WL_step rfl rfl (Exec.pick_t (v := Value.bool (true)) rfl rfl rfl ?_)
          refine WL_nil (at_normal ?_)
          exact ⟨s, (PHeap.le_refl _), hS26427, rfl, (congrArg Value.bool (Eq.trans (or_f hc26435) (Eq.trans (or_f hc26436) (or_t hc26437)))).symm⟩
        · replace hc26437 := not_true hc26437
          refine WL_run rfl (yield_of rfl (congrArg Value.bool hc26437)) rfl (Exec.field F26_1 rfl rfl rfl ?_)
          refine WL_run rfl (yield_of rfl (congrArg Value.bool hc26437)) rfl (Exec.load_box (hS26427) A3 rfl rfl rfl ?_)
          refine WL_run rfl (yield_of rfl (congrArg Value.bool hc26437)) rfl (Exec.field F26_0 rfl rfl rfl ?_)
          refine WL_run rfl (yield_of rfl (congrArg Value.bool hc26437)) rfl (Exec.load_box (hS26427) A3 rfl rfl rfl ?_)
          refine WL_run rfl (yield_of rfl (congrArg Value.bool hc26437)) rfl (Exec.geq rfl rfl rfl ?_)
          refine WL_step rfl rfl (Exec.pick_f (v := Value.bool (decide (x25747.States ≤ x25747.Init))) rfl (congrArg Value.bool hc26437) rfl ?_)
          refine WL_step rfl rfl (Exec.move (v := Value.bool (decide (x25747.States ≤ x25747.Init))) rfl rfl ?_)
          by_cases hc26438 : (decide (x25747.States ≤ x25747.Init)) = true
          · refine WL_pass rfl (yield_of rfl (congrArg Value.bool hc26438)) rfl rfl ?_
            refine WL_pass rfl (yield_of rfl (congrArg Value.bool hc26438)) rfl rfl ?_
            refine WL_pass rfl (yield_of rfl (congrArg Value.bool hc26438)) rfl rfl ?_
            refine WL_pass rfl (yield_of rfl (congrArg Value.bool hc26438)) rfl rfl ?_
            refine WL_pass rfl (yield_of rfl (congrArg Value.bool hc26438)) rfl rfl ?_
            refine WL_pass rfl (yield_of rfl (congrArg Value.bool hc26438)) rfl rfl ?_
            refine WL_step rfl rfl (Exec.pick_t (v := Value.bool (true)) rfl (congrArg Value.bool hc26438) rfl ?_)
            refine WL_step rfl rfl (Exec.move (v := Value.bool (true)) rfl rfl ?_)
            refine WL_pass rfl (yield_of rfl rfl) rfl rfl ?_
            refine WL_pass rfl (yield_of rfl rfl) rfl rfl ?_
            refine WL_pass rfl (yield_of rfl rfl) rfl rfl ?_
            refine WL_pass rfl (yield_of rfl rfl) rfl rfl ?_
            refine WL_step rfl rfl (Exec.pick_t (v := Value.bool (true)) rfl rfl rfl ?_)
            refine WL_step rfl rfl (Exec.move (v := Value.bool (true)) rfl rfl ?_)
            refine WL_pass rfl (yield_of rfl rfl) rfl rfl ?_
            refine WL_pass rfl (yield_of rfl rfl) rfl rfl ?_
            refine WL_pass rfl (yield_of rfl rfl) rfl rfl ?_
            refine WL_pass rfl (yield_of rfl rfl) rfl rfl ?_
            refine WL_step rfl rfl (Exec.pick_t (v := Value.bool (true)) rfl rfl rfl ?_)
            refine WL_nil (at_normal ?_)
            exact ⟨s, (PHeap.le_refl _), hS26427, rfl, (congrArg Value.bool (Eq.trans (or_f hc26435) (Eq.trans (or_f hc26436) (Eq.trans (or_f hc26437) (or_t hc26438))))).symm⟩
          · replace hc26438 := not_true hc26438
            refine WL_run rfl (yield_of rfl (congrArg Value.bool hc26438)) rfl (Exec.field F26_4 rfl rfl rfl ?_)
            refine WL_run rfl (yield_of rfl (congrArg Value.bool hc26438)) rfl (Exec.load_box (hS26427) A24 rfl rfl rfl ?_)
            refine WL_run rfl (yield_of rfl (congrArg Value.bool hc26438)) rfl (Exec.len_rep S24 rfl rfl a25753 ?_)
            refine WL_run rfl (yield_of rfl (congrArg Value.bool hc26438)) rfl (Exec.field F26_0 rfl rfl rfl ?_)
            refine WL_run rfl (yield_of rfl (congrArg Value.bool hc26438)) rfl (Exec.load_box (hS26427) A3 rfl rfl rfl ?_)
            refine WL_run rfl (yield_of rfl (congrArg Value.bool hc26438)) rfl (Exec.neq rfl rfl rfl ?_)
            refine WL_step rfl rfl (Exec.pick_f (v := Value.bool (!decide ((x25747.Goals.length : Int) = x25747.States))) rfl (congrArg Value.bool hc26438) rfl ?_)
            refine WL_step rfl rfl (Exec.move (v := Value.bool (!decide ((x25747.Goals.length : Int) = x25747.States))) rfl rfl ?_)
            by_cases hc26439 : (!decide ((x25747.Goals.length : Int) = x25747.States)) = true
            · refine WL_pass rfl (yield_of rfl (congrArg Value.bool hc26439)) rfl rfl ?_
              refine WL_pass rfl (yield_of rfl (congrArg Value.bool hc26439)) rfl rfl ?_
              refine WL_pass rfl (yield_of rfl (congrArg Value.bool hc26439)) rfl rfl ?_
              refine WL_pass rfl (yield_of rfl (congrArg Value.bool hc26439)) rfl rfl ?_
              refine WL_step rfl rfl (Exec.pick_t (v := Value.bool (true)) rfl (congrArg Value.bool hc26439) rfl ?_)
              refine WL_step rfl rfl (Exec.move (v := Value.bool (true)) rfl rfl ?_)
              refine WL_pass rfl (yield_of rfl rfl) rfl rfl ?_
              refine WL_pass rfl (yield_of rfl rfl) rfl rfl ?_
              refine WL_pass rfl (yield_of rfl rfl) rfl rfl ?_
              refine WL_pass rfl (yield_of rfl rfl) rfl rfl ?_
              refine WL_step rfl rfl (Exec.pick_t (v := Value.bool (true)) rfl rfl rfl ?_)
              refine WL_nil (at_normal ?_)
              exact ⟨s, (PHeap.le_refl _), hS26427, rfl, (congrArg Value.bool (Eq.trans (or_f hc26435) (Eq.trans (or_f hc26436) (Eq.trans (or_f hc26437) (Eq.trans (or_f hc26438) (or_t hc26439)))))).symm⟩
            · replace hc26439 := not_true hc26439
              refine WL_run rfl (yield_of rfl (congrArg Value.bool hc26439)) rfl (Exec.field F26_2 rfl rfl rfl ?_)
              refine WL_run rfl (yield_of rfl (congrArg Value.bool hc26439)) rfl (Exec.load_box (hS26427) A22 rfl rfl rfl ?_)
              refine WL_run rfl (yield_of rfl (congrArg Value.bool hc26439)) rfl (Exec.len_rep S22 rfl rfl a25749 ?_)
              refine WL_run rfl (yield_of rfl (congrArg Value.bool hc26439)) rfl (Exec.gtr rfl rfl rfl ?_)
              refine WL_step rfl rfl (Exec.pick_f (v := Value.bool (decide (4096 < (x25747.Costs.length : Int)))) rfl (congrArg Value.bool hc26439) rfl ?_)
              refine WL_step rfl rfl (Exec.move (v := Value.bool (decide (4096 < (x25747.Costs.length : Int)))) rfl rfl ?_)
              by_cases hc26440 : (decide (4096 < (x25747.Costs.length : Int))) = true
              · refine WL_pass rfl (yield_of rfl (congrArg Value.bool hc26440)) rfl rfl ?_
                refine WL_pass rfl (yield_of rfl (congrArg Value.bool hc26440)) rfl rfl ?_
                refine WL_pass rfl (yield_of rfl (congrArg Value.bool hc26440)) rfl rfl ?_
                refine WL_pass rfl (yield_of rfl (congrArg Value.bool hc26440)) rfl rfl ?_
                refine WL_step rfl rfl (Exec.pick_t (v := Value.bool (true)) rfl (congrArg Value.bool hc26440) rfl ?_)
                refine WL_nil (at_normal ?_)
                exact ⟨s, (PHeap.le_refl _), hS26427, rfl, (congrArg Value.bool (Eq.trans (or_f hc26435) (Eq.trans (or_f hc26436) (Eq.trans (or_f hc26437) (Eq.trans (or_f hc26438) (Eq.trans (or_f hc26439) (or_t hc26440))))))).symm⟩
              · replace hc26440 := not_true hc26440
                refine WL_run rfl (yield_of rfl (congrArg Value.bool hc26440)) rfl (Exec.field F26_3 rfl rfl rfl ?_)
                refine WL_run rfl (yield_of rfl (congrArg Value.bool hc26440)) rfl (Exec.load_box (hS26427) A23 rfl rfl rfl ?_)
                refine WL_run rfl (yield_of rfl (congrArg Value.bool hc26440)) rfl (Exec.len_rep S23 rfl rfl a25751 ?_)
                refine WL_run rfl (yield_of rfl (congrArg Value.bool hc26440)) rfl (Exec.gtr rfl rfl rfl ?_)
                refine WL_step rfl rfl (Exec.pick_f (v := Value.bool (decide (65536 < (x25747.Edges.length : Int)))) rfl (congrArg Value.bool hc26440) rfl ?_)
                refine WL_nil (at_normal ?_)
                exact ⟨s, (PHeap.le_refl _), hS26427, rfl, (congrArg Value.bool (Eq.trans (or_f hc26435) (Eq.trans (or_f hc26436) (Eq.trans (or_f hc26437) (Eq.trans (or_f hc26438) (Eq.trans (or_f hc26439) (or_f hc26440))))))).symm⟩
  · intro f26441 w26442 hM26443
    obtain ⟨s26444, l26445, hS26446, p26447, p26448⟩ := hM26443
    refine (at_normal ?_)
    rcases ite_some hm with ⟨hc26449, hm⟩ | ⟨hc26449, hm⟩
    · refine W_cond_t p26448 hc26449 ?_
      refine W_seq ?_
      refine W_region ?_
      refine WL_step rfl rfl (Exec.assign (v := Value.bool (false)) rfl rfl ?_)
      refine WL_nil (at_normal ?_)
      refine W_ret (at_ret ?_)
      have e26451 := Option.some.inj hm
      subst r
      refine ⟨_, ret1 rfl, ?_⟩
      have hS26452 := (hS26446).drop
      exact ⟨s26444, l26445, hS26452, rfl⟩
    · refine W_cond_f p26448 hc26449 ?_
      replace hc26449 := not_true hc26449
      refine W_skip (at_normal ?_)
      refine W_seq ?_
      refine W_seq ?_
      refine W_region ?_
      refine WL_step rfl rfl (Exec.field F26_2 rfl p26447 rfl ?_)
      refine WL_step rfl rfl (Exec.load_box (hS26446) A22 rfl rfl rfl ?_)
      refine WL_step rfl rfl (Exec.len_rep S22 rfl rfl (a25749.mono l26445) ?_)
      refine WL_step rfl rfl (Exec.move (v := Value.int .i64 (0)) rfl rfl ?_)
      refine WL_nil (at_normal ?_)
      obtain ⟨c26514, hB26515, hr26516, hn26517, hb26518⟩ := ctl_some hm
      refine W_mid (M := fun f' w' => ∃ s', (c26514 = .next s' ∨ c26514 = .brk s') ∧ (fun (_ : Unit) => ∃ (s26520 : PHeap) , PHeap.le s26444 s26520 ∧ St w0 s26520 (Res.box b26425 26 [Value.int .i64 (x25747.States), Value.int .i64 (x25747.Init), v25748, v25750, v25752] :: H) w' ∧ f' 1 = Value.pointer (some ⟨b26425, 0, none⟩) ∧ f' 48 = v25748 ∧ f' 49 = Value.int .i64 ((x25747.Costs.length : Int))) s') ?_ ?_
      · refine W_block (W_forC (fun k' s' f' w' => (fun (_ : Unit) => ∃ (s26519 : PHeap) , PHeap.le s26444 s26519 ∧ St w0 s26519 (Res.box b26425 26 [Value.int .i64 (x25747.States), Value.int .i64 (x25747.Init), v25748, v25750, v25752] :: H) w' ∧ f' 1 = Value.pointer (some ⟨b26425, 0, none⟩) ∧ f' 48 = v25748 ∧ f' 49 = Value.int .i64 ((x25747.Costs.length : Int)) ∧ f' 50 = Value.int .i64 (k' : Int)) s') hB26515 ?_ ?_ ?_)
        · exact ⟨s26444, (PHeap.le_refl _), hS26446, p26447, rfl, rfl, rfl⟩
        · intro i26453 t26528 c26522 f26523 w26524 hi26529 hI26525 hm26526 hres26527
          obtain ⟨s26530, l26531, hS26532, p26533, p26534, p26535, x26536⟩ := hI26525
          refine W_seq ?_
          refine W_region ?_
          refine WL_step rfl rfl (Exec.lss rfl x26536 p26535 ?_)
          refine WL_nil (at_normal ?_)
          refine W_seq ?_
          refine W_true (congrArg Value.bool (decide_eq_true (by omega))) ?_
          refine W_skip (at_normal ?_)
          refine W_seq ?_
          refine W_block ?_
          refine W_seq ?_
          refine W_region ?_
          obtain ⟨x26544, q26545, hm26526⟩ := bind_some hm26526
          refine WL_step rfl rfl (Exec.index_rep S22 rfl p26534 x26536 (a25749.mono (PHeap.le.trans l26445 l26531)) q26545 ?_)
          intro b26546 o26547 a26548
          refine WL_step rfl rfl (Exec.load_at (E := (encInt .i64)) hS26532 A3 rfl rfl rfl a26548 ?_)
          intro v26549 q26550
          obtain rfl := encInt_val.1 q26550
          refine WL_step rfl rfl (Exec.assign (v := Value.int .i64 (x26544)) rfl rfl ?_)
          refine WL_nil (at_normal ?_)
          refine W_seq ?_
          refine W_mid (M := fun f' w' => ∃ (s26552 : PHeap) , PHeap.le s26530 s26552 ∧ St w0 s26552 (Res.box b26425 26 [Value.int .i64 (x25747.States), Value.int .i64 (x25747.Init), v25748, v25750, v25752] :: H) w' ∧ f' 1 = Value.pointer (some ⟨b26425, 0, none⟩) ∧ f' 48 = v25748 ∧ f' 49 = Value.int .i64 ((x25747.Costs.length : Int)) ∧ f' 50 = Value.int .i64 ((i26453 : Int)) ∧ f' 59 = Value.bool (((decide (x26544 < 0)) || decide (1048576 < x26544)))) ?_ ?_
          · refine W_region ?_
            refine WL_step rfl rfl (Exec.move (v := Value.int .i64 (x26544)) rfl rfl ?_)
            refine WL_step rfl rfl (Exec.lss rfl rfl rfl ?_)
            refine WL_step rfl rfl (Exec.move (v := Value.bool (decide (x26544 < 0))) rfl rfl ?_)
            by_cases hc26553 : (decide (x26544 < 0)) = true
            · refine WL_pass rfl (yield_of rfl (congrArg Value.bool hc26553)) rfl rfl ?_
              refine WL_pass rfl (yield_of rfl (congrArg Value.bool hc26553)) rfl rfl ?_
              refine WL_step rfl rfl (Exec.pick_t (v := Value.bool (true)) rfl (congrArg Value.bool hc26553) rfl ?_)
              refine WL_nil (at_normal ?_)
              exact ⟨s26530, (PHeap.le_refl _), hS26532, p26533, p26534, p26535, x26536, (congrArg Value.bool (or_t hc26553)).symm⟩
            · replace hc26553 := not_true hc26553
              refine WL_run rfl (yield_of rfl (congrArg Value.bool hc26553)) rfl (Exec.move (v := Value.int .i64 (x26544)) rfl rfl ?_)
              refine WL_run rfl (yield_of rfl (congrArg Value.bool hc26553)) rfl (Exec.gtr rfl rfl rfl ?_)
              refine WL_step rfl rfl (Exec.pick_f (v := Value.bool (decide (1048576 < x26544))) rfl (congrArg Value.bool hc26553) rfl ?_)
              refine WL_nil (at_normal ?_)
              exact ⟨s26530, (PHeap.le_refl _), hS26532, p26533, p26534, p26535, x26536, (congrArg Value.bool (or_f hc26553)).symm⟩
          · intro f26554 w26555 hM26556
            obtain ⟨s26557, l26558, hS26559, p26560, p26561, p26562, p26563, p26564⟩ := hM26556
            refine (at_normal ?_)
            rcases ite_some hm26526 with ⟨hc26565, hm26526⟩ | ⟨hc26565, hm26526⟩
            · refine W_cond_t p26564 hc26565 ?_
              refine W_seq ?_
              refine W_region ?_
              refine WL_step rfl rfl (Exec.assign (v := Value.bool (false)) rfl rfl ?_)
              refine WL_nil (at_normal ?_)
              refine W_ret (ib_ret (at_ret (at_ret (ib_ret (at_ret (at_ret ?_))))))
              have e26566 := Option.some.inj hm26526
              subst c26522
              have hq26567 := hr26516 _ (hres26527 (by intro _ h; cases h))
              have e26568 := Option.some.inj hq26567
              subst r
              refine ⟨_, ret1 rfl, ?_⟩
              have hS26569 := (hS26559).drop
              exact ⟨s26557, (PHeap.le.trans (PHeap.le.trans l26445 l26531) l26558), hS26569, rfl⟩
            · refine W_cond_f p26564 hc26565 ?_
              replace hc26565 := not_true hc26565
              refine W_skip (ib_normal (at_normal ?_))
              refine W_region ?_
              refine WL_step rfl rfl (Exec.add rfl p26563 rfl ?_)
              refine WL_step rfl rfl (Exec.move (v := Value.int .i64 (IntKind.i64.wrap ((i26453 : Int) + 1))) rfl rfl ?_)
              refine WL_nil (at_normal ?_)
              have e26570 := Option.some.inj hm26526
              subst c26522
              refine ⟨_, rfl, ?_⟩; exact ⟨s26557, (PHeap.le.trans l26531 l26558), hS26559, p26560, p26561, p26562, (Eq.trans rfl (wrap_up hi26529 (SliceRep.le (a25749.mono l26445))))⟩
        · intro t26571 f26572 w26573 hI26574 hres26575
          obtain ⟨s26576, l26577, hS26578, p26579, p26580, p26581, x26582⟩ := hI26574
          refine W_seq ?_
          refine W_region ?_
          refine WL_step rfl rfl (Exec.lss rfl x26582 p26581 ?_)
          refine WL_nil (at_normal ?_)
          refine W_seq ?_
          refine W_false (congrArg Value.bool (decide_eq_false (by omega))) ?_
          refine W_exit (at_exit (at_exit (ib_here (at_normal ?_))))
          refine ⟨_, .inl hres26575, ?_⟩; exact ⟨s26576, l26577, hS26578, p26579, p26580, p26581⟩
      · rintro f26583 w26584 ⟨t26585, hc26586, hM26587⟩
        have hm := hc26586.elim (hn26517 _) (hb26518 _)
        clear hc26586
        obtain ⟨s26588, l26589, hS26590, p26591, p26592, p26593⟩ := hM26587
        refine (at_normal ?_)
        refine W_seq ?_
        refine W_seq ?_
        refine W_region ?_
        refine WL_step rfl rfl (Exec.field F26_3 rfl p26591 rfl ?_)
        refine WL_step rfl rfl (Exec.load_box (hS26590) A23 rfl rfl rfl ?_)
        refine WL_step rfl rfl (Exec.len_rep S23 rfl rfl (a25751.mono (PHeap.le.trans l26445 l26589)) ?_)
        refine WL_step rfl rfl (Exec.move (v := Value.int .i64 (0)) rfl rfl ?_)
        refine WL_nil (at_normal ?_)
        obtain ⟨c26867, hB26868, hr26869, hn26870, hb26871⟩ := ctl_some hm
        refine W_mid (M := fun f' w' => ∃ s', (c26867 = .next s' ∨ c26867 = .brk s') ∧ (fun (_ : Unit) => ∃ (s26873 : PHeap) , PHeap.le s26588 s26873 ∧ St w0 s26873 (Res.box b26425 26 [Value.int .i64 (x25747.States), Value.int .i64 (x25747.Init), v25748, v25750, v25752] :: H) w' ∧ f' 1 = Value.pointer (some ⟨b26425, 0, none⟩) ∧ f' 62 = v25750 ∧ f' 63 = Value.int .i64 ((x25747.Edges.length : Int))) s') ?_ ?_
        · refine W_block (W_forC (fun k' s' f' w' => (fun (_ : Unit) => ∃ (s26872 : PHeap) , PHeap.le s26588 s26872 ∧ St w0 s26872 (Res.box b26425 26 [Value.int .i64 (x25747.States), Value.int .i64 (x25747.Init), v25748, v25750, v25752] :: H) w' ∧ f' 1 = Value.pointer (some ⟨b26425, 0, none⟩) ∧ f' 62 = v25750 ∧ f' 63 = Value.int .i64 ((x25747.Edges.length : Int)) ∧ f' 64 = Value.int .i64 (k' : Int)) s') hB26868 ?_ ?_ ?_)
          · exact ⟨s26588, (PHeap.le_refl _), hS26590, p26591, rfl, rfl, rfl⟩
          · intro i26594 t26881 c26875 f26876 w26877 hi26882 hI26878 hm26879 hres26880
            obtain ⟨s26883, l26884, hS26885, p26886, p26887, p26888, x26889⟩ := hI26878
            refine W_seq ?_
            refine W_region ?_
            refine WL_step rfl rfl (Exec.lss rfl x26889 p26888 ?_)
            refine WL_nil (at_normal ?_)
            refine W_seq ?_
            refine W_true (congrArg Value.bool (decide_eq_true (by omega))) ?_
            refine W_skip (at_normal ?_)
            refine W_seq ?_
            refine W_block ?_
            refine W_seq ?_
            refine W_region ?_
            refine WL_step rfl rfl (Exec.move (v := Value.int .i64 ((i26594 : Int))) rfl x26889 ?_)
            obtain ⟨x26902, q26903, hm26879⟩ := bind_some hm26879
            refine WL_step rfl rfl (Exec.index_rep S23 rfl p26887 x26889 (a25751.mono (PHeap.le.trans (PHeap.le.trans l26445 l26589) l26884)) q26903 ?_)
            intro b26904 o26905 a26906
            refine WL_step rfl rfl (Exec.load_at (E := encEdge) hS26885 A66 rfl rfl rfl a26906 ?_)
            intro v26907 q26908
            obtain rfl := encEdge_val.1 q26908
            refine WL_step rfl rfl (Exec.alloc (cs := [Value.int .i64 (0), Value.int .i64 (0), Value.int .i64 (0)]) hS26885 Z66 rfl rfl ?_)
            intro b26909 w26910 hS26911
            refine WL_step rfl rfl (Exec.assign (v := Value.int .i64 ((i26594 : Int))) rfl rfl ?_)
            refine WL_step rfl rfl (Exec.store_box (ds := [Value.int .i64 (x26902.From), Value.int .i64 (x26902.Label), Value.int .i64 (x26902.To)]) (es := [Value.int .i64 (x26902.From), Value.int .i64 (x26902.Label), Value.int .i64 (x26902.To)]) hS26911 A66 rfl rfl rfl rfl (one_cons rfl (one_cons rfl (one_cons rfl one_nil))) (Nat.le_of_ble_eq_true rfl) rfl ?_)
            intro w26912 hS26913
            refine WL_nil (at_normal ?_)
            refine W_seq ?_
            obtain ⟨z26954, ht26955, hm26879⟩ := bind_some hm26879
            refine W_mid (M := fun f' w' => (fun (z26954 : Bool) => ∃ (s26956 : PHeap) , PHeap.le s26883 s26956 ∧ St w0 s26956 (Res.box b26425 26 [Value.int .i64 (x25747.States), Value.int .i64 (x25747.Init), v25748, v25750, v25752] :: H) w' ∧ f' 1 = Value.pointer (some ⟨b26425, 0, none⟩) ∧ f' 62 = v25750 ∧ f' 63 = Value.int .i64 ((x25747.Edges.length : Int)) ∧ f' 64 = Value.int .i64 ((i26594 : Int)) ∧ f' 118 = Value.bool (z26954)) z26954) ?_ ?_
            · refine W_dl (n0 := 50) (.q 0 (.q 1 (.q 2 (.q 3 (.q 4 (.q 5 (.q 6 (.q 7 (.q 8 (.q 9 (.q 10 (.q 11 (.q 12 (.q 13 (.q 14 (.q 15 (.q 16 (.q 17 (.q 18 (.q 19 (.q 20 (.q 21 (.q 22 (.q 23 (.q 24 (.q 25 (.q 26 (.q 27 (.q 28 (.q 29 (.q 30 (.q 31 (.q 32 (.q 33 (.q 34 (.q 35 (.q 36 (.q 37 (.q 38 (.q 39 (.q 40 (.q 41 (.q 42 (.q 43 (.q 44 (.q 45 (.e 46 [] (.q 47 (.q 48 (.q 49 .done)))))))))))))))))))))))))))))))))))))))))))))))))) hmix (by kernel_rfl) (by kernel_rfl) ?_
              have hS26977 := hS26913.drew
              refine DL_q rfl rfl (Exec.field F66_0 rfl rfl rfl ⟨rfl, ?_⟩)
              refine DL_q rfl rfl (Exec.load_box (hS26977) A3 rfl rfl rfl ⟨rfl, ?_⟩)
              refine DL_q rfl rfl (Exec.lss rfl rfl rfl ⟨rfl, ?_⟩)
              refine DL_q rfl rfl (Exec.move (v := Value.bool (decide (x26902.From < 0))) rfl rfl ⟨rfl, ?_⟩)
              rcases ite_some ht26955 with ⟨hc26978, ht26955⟩ | ⟨hc26978, ht26955⟩
              · refine DL_qp rfl rfl (yield_of rfl (congrArg Value.bool hc26978)) rfl ?_
                refine DL_qp rfl rfl (yield_of rfl (congrArg Value.bool hc26978)) rfl ?_
                refine DL_qp rfl rfl (yield_of rfl (congrArg Value.bool hc26978)) rfl ?_
                refine DL_qp rfl rfl (yield_of rfl (congrArg Value.bool hc26978)) rfl ?_
                refine DL_qp rfl rfl (yield_of rfl (congrArg Value.bool hc26978)) rfl ?_
                refine DL_q rfl rfl (Exec.pick_t (v := Value.bool (true)) rfl (congrArg Value.bool hc26978) rfl ⟨rfl, ?_⟩)
                refine DL_q rfl rfl (Exec.move (v := Value.bool (true)) rfl rfl ⟨rfl, ?_⟩)
                refine DL_qp rfl rfl (yield_of rfl rfl) rfl ?_
                refine DL_qp rfl rfl (yield_of rfl rfl) rfl ?_
                refine DL_qp rfl rfl (yield_of rfl rfl) rfl ?_
                refine DL_q rfl rfl (Exec.pick_t (v := Value.bool (true)) rfl rfl rfl ⟨rfl, ?_⟩)
                refine DL_q rfl rfl (Exec.move (v := Value.bool (true)) rfl rfl ⟨rfl, ?_⟩)
                refine DL_qp rfl rfl (yield_of rfl rfl) rfl ?_
                refine DL_qp rfl rfl (yield_of rfl rfl) rfl ?_
                refine DL_qp rfl rfl (yield_of rfl rfl) rfl ?_
                refine DL_qp rfl rfl (yield_of rfl rfl) rfl ?_
                refine DL_qp rfl rfl (yield_of rfl rfl) rfl ?_
                refine DL_q rfl rfl (Exec.pick_t (v := Value.bool (true)) rfl rfl rfl ⟨rfl, ?_⟩)
                refine DL_q rfl rfl (Exec.move (v := Value.bool (true)) rfl rfl ⟨rfl, ?_⟩)
                refine DL_qp rfl rfl (yield_of rfl rfl) rfl ?_
                refine DL_qp rfl rfl (yield_of rfl rfl) rfl ?_
                refine DL_qp rfl rfl (yield_of rfl rfl) rfl ?_
                refine DL_q rfl rfl (Exec.pick_t (v := Value.bool (true)) rfl rfl rfl ⟨rfl, ?_⟩)
                refine DL_q rfl rfl (Exec.move (v := Value.bool (true)) rfl rfl ⟨rfl, ?_⟩)
                refine DL_qp rfl rfl (yield_of rfl rfl) rfl ?_
                refine DL_qp rfl rfl (yield_of rfl rfl) rfl ?_
                refine DL_qp rfl rfl (yield_of rfl rfl) rfl ?_
                refine DL_qp rfl rfl (yield_of rfl rfl) rfl ?_
                refine DL_qp rfl rfl (yield_of rfl rfl) rfl ?_
                refine DL_qp rfl rfl (yield_of rfl rfl) rfl ?_
                refine DL_q rfl rfl (Exec.pick_t (v := Value.bool (true)) rfl rfl rfl ⟨rfl, ?_⟩)
                refine DL_q rfl rfl (Exec.move (v := Value.bool (true)) rfl rfl ⟨rfl, ?_⟩)
                refine DL_qp rfl rfl (yield_of rfl rfl) rfl ?_
                refine DL_qp rfl rfl (yield_of rfl rfl) rfl ?_
                refine DL_qp rfl rfl (yield_of rfl rfl) rfl ?_
                refine DL_qn rfl rfl (yield_undef rfl rfl) ?_
                refine DL_qn rfl rfl (yield_undef rfl rfl) ?_
                refine DL_qn rfl rfl (yield_undef rfl rfl) ?_
                refine DL_qn rfl rfl (yield_undef rfl rfl) ?_
                refine DL_qn rfl rfl (yield_undef rfl rfl) ?_
                refine DL_qn rfl rfl (yield_undef rfl rfl) ?_
                refine DL_qn rfl rfl (yield_undef rfl rfl) ?_
                refine DL_en rfl rfl (yield_undef rfl rfl) ?_
                refine DL_qn rfl rfl (yield_undef rfl rfl) ?_
                refine DL_qp rfl rfl (yield_of rfl rfl) rfl ?_
                refine DL_q rfl rfl (Exec.pick_t (v := Value.bool (true)) rfl rfl rfl ⟨rfl, ?_⟩)
                refine DL_done ?_
                refine WL_nil (at_normal ?_)
                have e26979 := Option.some.inj ht26955
                subst z26954
                have hS26980 := (hS26977).drop
                exact ⟨s26883, (PHeap.le_refl _), hS26980, p26886, p26887, p26888, x26889, rfl⟩
              · replace hc26978 := not_true hc26978
                refine DL_qg rfl rfl (yield_of rfl (congrArg Value.bool hc26978)) (Exec.field F66_0 rfl rfl rfl ⟨rfl, ?_⟩)
                refine DL_qg rfl rfl (yield_of rfl (congrArg Value.bool hc26978)) (Exec.load_box (hS26977) A3 rfl rfl rfl ⟨rfl, ?_⟩)
                refine DL_qg rfl rfl (yield_of rfl (congrArg Value.bool hc26978)) (Exec.field F26_0 rfl p26886 rfl ⟨rfl, ?_⟩)
                refine DL_qg rfl rfl (yield_of rfl (congrArg Value.bool hc26978)) (Exec.load_box ((hS26977).f1) A3 rfl rfl rfl ⟨rfl, ?_⟩)
                refine DL_qg rfl rfl (yield_of rfl (congrArg Value.bool hc26978)) (Exec.geq rfl rfl rfl ⟨rfl, ?_⟩)
                refine DL_q rfl rfl (Exec.pick_f (v := Value.bool (decide (x25747.States ≤ x26902.From))) rfl (congrArg Value.bool hc26978) rfl ⟨rfl, ?_⟩)
                refine DL_q rfl rfl (Exec.move (v := Value.bool (decide (x25747.States ≤ x26902.From))) rfl rfl ⟨rfl, ?_⟩)
                rcases ite_some ht26955 with ⟨hc26981, ht26955⟩ | ⟨hc26981, ht26955⟩
                · refine DL_qp rfl rfl (yield_of rfl (congrArg Value.bool hc26981)) rfl ?_
                  refine DL_qp rfl rfl (yield_of rfl (congrArg Value.bool hc26981)) rfl ?_
                  refine DL_qp rfl rfl (yield_of rfl (congrArg Value.bool hc26981)) rfl ?_
                  refine DL_q rfl rfl (Exec.pick_t (v := Value.bool (true)) rfl (congrArg Value.bool hc26981) rfl ⟨rfl, ?_⟩)
                  refine DL_q rfl rfl (Exec.move (v := Value.bool (true)) rfl rfl ⟨rfl, ?_⟩)
                  refine DL_qp rfl rfl (yield_of rfl rfl) rfl ?_
                  refine DL_qp rfl rfl (yield_of rfl rfl) rfl ?_
                  refine DL_qp rfl rfl (yield_of rfl rfl) rfl ?_
                  refine DL_qp rfl rfl (yield_of rfl rfl) rfl ?_
                  refine DL_qp rfl rfl (yield_of rfl rfl) rfl ?_
                  refine DL_q rfl rfl (Exec.pick_t (v := Value.bool (true)) rfl rfl rfl ⟨rfl, ?_⟩)
                  refine DL_q rfl rfl (Exec.move (v := Value.bool (true)) rfl rfl ⟨rfl, ?_⟩)
                  refine DL_qp rfl rfl (yield_of rfl rfl) rfl ?_
                  refine DL_qp rfl rfl (yield_of rfl rfl) rfl ?_
                  refine DL_qp rfl rfl (yield_of rfl rfl) rfl ?_
                  refine DL_q rfl rfl (Exec.pick_t (v := Value.bool (true)) rfl rfl rfl ⟨rfl, ?_⟩)
                  refine DL_q rfl rfl (Exec.move (v := Value.bool (true)) rfl rfl ⟨rfl, ?_⟩)
                  refine DL_qp rfl rfl (yield_of rfl rfl) rfl ?_
                  refine DL_qp rfl rfl (yield_of rfl rfl) rfl ?_
                  refine DL_qp rfl rfl (yield_of rfl rfl) rfl ?_
                  refine DL_qp rfl rfl (yield_of rfl rfl) rfl ?_
                  refine DL_qp rfl rfl (yield_of rfl rfl) rfl ?_
                  refine DL_qp rfl rfl (yield_of rfl rfl) rfl ?_
                  refine DL_q rfl rfl (Exec.pick_t (v := Value.bool (true)) rfl rfl rfl ⟨rfl, ?_⟩)
                  refine DL_q rfl rfl (Exec.move (v := Value.bool (true)) rfl rfl ⟨rfl, ?_⟩)
                  refine DL_qp rfl rfl (yield_of rfl rfl) rfl ?_
                  refine DL_qp rfl rfl (yield_of rfl rfl) rfl ?_
                  refine DL_qp rfl rfl (yield_of rfl rfl) rfl ?_
                  refine DL_qn rfl rfl (yield_undef rfl rfl) ?_
                  refine DL_qn rfl rfl (yield_undef rfl rfl) ?_
                  refine DL_qn rfl rfl (yield_undef rfl rfl) ?_
                  refine DL_qn rfl rfl (yield_undef rfl rfl) ?_
                  refine DL_qn rfl rfl (yield_undef rfl rfl) ?_
                  refine DL_qn rfl rfl (yield_undef rfl rfl) ?_
                  refine DL_qn rfl rfl (yield_undef rfl rfl) ?_
                  refine DL_en rfl rfl (yield_undef rfl rfl) ?_
                  refine DL_qn rfl rfl (yield_undef rfl rfl) ?_
                  refine DL_qp rfl rfl (yield_of rfl rfl) rfl ?_
                  refine DL_q rfl rfl (Exec.pick_t (v := Value.bool (true)) rfl rfl rfl ⟨rfl, ?_⟩)
                  refine DL_done ?_
                  refine WL_nil (at_normal ?_)
                  have e26982 := Option.some.inj ht26955
                  subst z26954
                  have hS26983 := (hS26977).drop
                  exact ⟨s26883, (PHeap.le_refl _), hS26983, p26886, p26887, p26888, x26889, rfl⟩
                · replace hc26981 := not_true hc26981
                  refine DL_qg rfl rfl (yield_of rfl (congrArg Value.bool hc26981)) (Exec.field F66_2 rfl rfl rfl ⟨rfl, ?_⟩)
                  refine DL_qg rfl rfl (yield_of rfl (congrArg Value.bool hc26981)) (Exec.load_box (hS26977) A3 rfl rfl rfl ⟨rfl, ?_⟩)
                  refine DL_qg rfl rfl (yield_of rfl (congrArg Value.bool hc26981)) (Exec.lss rfl rfl rfl ⟨rfl, ?_⟩)
                  refine DL_q rfl rfl (Exec.pick_f (v := Value.bool (decide (x26902.To < 0))) rfl (congrArg Value.bool hc26981) rfl ⟨rfl, ?_⟩)
                  refine DL_q rfl rfl (Exec.move (v := Value.bool (decide (x26902.To < 0))) rfl rfl ⟨rfl, ?_⟩)
                  rcases ite_some ht26955 with ⟨hc26984, ht26955⟩ | ⟨hc26984, ht26955⟩
                  · refine DL_qp rfl rfl (yield_of rfl (congrArg Value.bool hc26984)) rfl ?_
                    refine DL_qp rfl rfl (yield_of rfl (congrArg Value.bool hc26984)) rfl ?_
                    refine DL_qp rfl rfl (yield_of rfl (congrArg Value.bool hc26984)) rfl ?_
                    refine DL_qp rfl rfl (yield_of rfl (congrArg Value.bool hc26984)) rfl ?_
                    refine DL_qp rfl rfl (yield_of rfl (congrArg Value.bool hc26984)) rfl ?_
                    refine DL_q rfl rfl (Exec.pick_t (v := Value.bool (true)) rfl (congrArg Value.bool hc26984) rfl ⟨rfl, ?_⟩)
                    refine DL_q rfl rfl (Exec.move (v := Value.bool (true)) rfl rfl ⟨rfl, ?_⟩)
                    refine DL_qp rfl rfl (yield_of rfl rfl) rfl ?_
                    refine DL_qp rfl rfl (yield_of rfl rfl) rfl ?_
                    refine DL_qp rfl rfl (yield_of rfl rfl) rfl ?_
                    refine DL_q rfl rfl (Exec.pick_t (v := Value.bool (true)) rfl rfl rfl ⟨rfl, ?_⟩)
                    refine DL_q rfl rfl (Exec.move (v := Value.bool (true)) rfl rfl ⟨rfl, ?_⟩)
                    refine DL_qp rfl rfl (yield_of rfl rfl) rfl ?_
                    refine DL_qp rfl rfl (yield_of rfl rfl) rfl ?_
                    refine DL_qp rfl rfl (yield_of rfl rfl) rfl ?_
                    refine DL_qp rfl rfl (yield_of rfl rfl) rfl ?_
                    refine DL_qp rfl rfl (yield_of rfl rfl) rfl ?_
                    refine DL_qp rfl rfl (yield_of rfl rfl) rfl ?_
                    refine DL_q rfl rfl (Exec.pick_t (v := Value.bool (true)) rfl rfl rfl ⟨rfl, ?_⟩)
                    refine DL_q rfl rfl (Exec.move (v := Value.bool (true)) rfl rfl ⟨rfl, ?_⟩)
                    refine DL_qp rfl rfl (yield_of rfl rfl) rfl ?_
                    refine DL_qp rfl rfl (yield_of rfl rfl) rfl ?_
                    refine DL_qp rfl rfl (yield_of rfl rfl) rfl ?_
                    refine DL_qn rfl rfl (yield_undef rfl rfl) ?_
                    refine DL_qn rfl rfl (yield_undef rfl rfl) ?_
                    refine DL_qn rfl rfl (yield_undef rfl rfl) ?_
                    refine DL_qn rfl rfl (yield_undef rfl rfl) ?_
                    refine DL_qn rfl rfl (yield_undef rfl rfl) ?_
                    refine DL_qn rfl rfl (yield_undef rfl rfl) ?_
                    refine DL_qn rfl rfl (yield_undef rfl rfl) ?_
                    refine DL_en rfl rfl (yield_undef rfl rfl) ?_
                    refine DL_qn rfl rfl (yield_undef rfl rfl) ?_
                    refine DL_qp rfl rfl (yield_of rfl rfl) rfl ?_
                    refine DL_q rfl rfl (Exec.pick_t (v := Value.bool (true)) rfl rfl rfl ⟨rfl, ?_⟩)
                    refine DL_done ?_
                    refine WL_nil (at_normal ?_)
                    have e26985 := Option.some.inj ht26955
                    subst z26954
                    have hS26986 := (hS26977).drop
                    exact ⟨s26883, (PHeap.le_refl _), hS26986, p26886, p26887, p26888, x26889, rfl⟩
                  · replace hc26984 := not_true hc26984
                    refine DL_qg rfl rfl (yield_of rfl (congrArg Value.bool hc26984)) (Exec.field F66_2 rfl rfl rfl ⟨rfl, ?_⟩)
                    refine DL_qg rfl rfl (yield_of rfl (congrArg Value.bool hc26984)) (Exec.load_box (hS26977) A3 rfl rfl rfl ⟨rfl, ?_⟩)
                    refine DL_qg rfl rfl (yield_of rfl (congrArg Value.bool hc26984)) (Exec.field F26_0 rfl p26886 rfl ⟨rfl, ?_⟩)
                    refine DL_qg rfl rfl (yield_of rfl (congrArg Value.bool hc26984)) (Exec.load_box ((hS26977).f1) A3 rfl rfl rfl ⟨rfl, ?_⟩)
                    refine DL_qg rfl rfl (yield_of rfl (congrArg Value.bool hc26984)) (Exec.geq rfl rfl rfl ⟨rfl, ?_⟩)
                    refine DL_q rfl rfl (Exec.pick_f (v := Value.bool (decide (x25747.States ≤ x26902.To))) rfl (congrArg Value.bool hc26984) rfl ⟨rfl, ?_⟩)
                    refine DL_q rfl rfl (Exec.move (v := Value.bool (decide (x25747.States ≤ x26902.To))) rfl rfl ⟨rfl, ?_⟩)
                    rcases ite_some ht26955 with ⟨hc26987, ht26955⟩ | ⟨hc26987, ht26955⟩
                    · refine DL_qp rfl rfl (yield_of rfl (congrArg Value.bool hc26987)) rfl ?_
                      refine DL_qp rfl rfl (yield_of rfl (congrArg Value.bool hc26987)) rfl ?_
                      refine DL_qp rfl rfl (yield_of rfl (congrArg Value.bool hc26987)) rfl ?_
                      refine DL_q rfl rfl (Exec.pick_t (v := Value.bool (true)) rfl (congrArg Value.bool hc26987) rfl ⟨rfl, ?_⟩)
                      refine DL_q rfl rfl (Exec.move (v := Value.bool (true)) rfl rfl ⟨rfl, ?_⟩)
                      refine DL_qp rfl rfl (yield_of rfl rfl) rfl ?_
                      refine DL_qp rfl rfl (yield_of rfl rfl) rfl ?_
                      refine DL_qp rfl rfl (yield_of rfl rfl) rfl ?_
                      refine DL_qp rfl rfl (yield_of rfl rfl) rfl ?_
                      refine DL_qp rfl rfl (yield_of rfl rfl) rfl ?_
                      refine DL_qp rfl rfl (yield_of rfl rfl) rfl ?_
                      refine DL_q rfl rfl (Exec.pick_t (v := Value.bool (true)) rfl rfl rfl ⟨rfl, ?_⟩)
                      refine DL_q rfl rfl (Exec.move (v := Value.bool (true)) rfl rfl ⟨rfl, ?_⟩)
                      refine DL_qp rfl rfl (yield_of rfl rfl) rfl ?_
                      refine DL_qp rfl rfl (yield_of rfl rfl) rfl ?_
                      refine DL_qp rfl rfl (yield_of rfl rfl) rfl ?_
                      refine DL_qn rfl rfl (yield_undef rfl rfl) ?_
                      refine DL_qn rfl rfl (yield_undef rfl rfl) ?_
                      refine DL_qn rfl rfl (yield_undef rfl rfl) ?_
                      refine DL_qn rfl rfl (yield_undef rfl rfl) ?_
                      refine DL_qn rfl rfl (yield_undef rfl rfl) ?_
                      refine DL_qn rfl rfl (yield_undef rfl rfl) ?_
                      refine DL_qn rfl rfl (yield_undef rfl rfl) ?_
                      refine DL_en rfl rfl (yield_undef rfl rfl) ?_
                      refine DL_qn rfl rfl (yield_undef rfl rfl) ?_
                      refine DL_qp rfl rfl (yield_of rfl rfl) rfl ?_
                      refine DL_q rfl rfl (Exec.pick_t (v := Value.bool (true)) rfl rfl rfl ⟨rfl, ?_⟩)
                      refine DL_done ?_
                      refine WL_nil (at_normal ?_)
                      have e26988 := Option.some.inj ht26955
                      subst z26954
                      have hS26989 := (hS26977).drop
                      exact ⟨s26883, (PHeap.le_refl _), hS26989, p26886, p26887, p26888, x26889, rfl⟩
                    · replace hc26987 := not_true hc26987
                      refine DL_qg rfl rfl (yield_of rfl (congrArg Value.bool hc26987)) (Exec.field F66_1 rfl rfl rfl ⟨rfl, ?_⟩)
                      refine DL_qg rfl rfl (yield_of rfl (congrArg Value.bool hc26987)) (Exec.load_box (hS26977) A3 rfl rfl rfl ⟨rfl, ?_⟩)
                      refine DL_qg rfl rfl (yield_of rfl (congrArg Value.bool hc26987)) (Exec.lss rfl rfl rfl ⟨rfl, ?_⟩)
                      refine DL_q rfl rfl (Exec.pick_f (v := Value.bool (decide (x26902.Label < 0))) rfl (congrArg Value.bool hc26987) rfl ⟨rfl, ?_⟩)
                      refine DL_q rfl rfl (Exec.move (v := Value.bool (decide (x26902.Label < 0))) rfl rfl ⟨rfl, ?_⟩)
                      rcases ite_some ht26955 with ⟨hc26990, ht26955⟩ | ⟨hc26990, ht26955⟩
                      · refine DL_qp rfl rfl (yield_of rfl (congrArg Value.bool hc26990)) rfl ?_
                        refine DL_qp rfl rfl (yield_of rfl (congrArg Value.bool hc26990)) rfl ?_
                        refine DL_qp rfl rfl (yield_of rfl (congrArg Value.bool hc26990)) rfl ?_
                        refine DL_qp rfl rfl (yield_of rfl (congrArg Value.bool hc26990)) rfl ?_
                        refine DL_qp rfl rfl (yield_of rfl (congrArg Value.bool hc26990)) rfl ?_
                        refine DL_qp rfl rfl (yield_of rfl (congrArg Value.bool hc26990)) rfl ?_
                        refine DL_q rfl rfl (Exec.pick_t (v := Value.bool (true)) rfl (congrArg Value.bool hc26990) rfl ⟨rfl, ?_⟩)
                        refine DL_q rfl rfl (Exec.move (v := Value.bool (true)) rfl rfl ⟨rfl, ?_⟩)
                        refine DL_qp rfl rfl (yield_of rfl rfl) rfl ?_
                        refine DL_qp rfl rfl (yield_of rfl rfl) rfl ?_
                        refine DL_qp rfl rfl (yield_of rfl rfl) rfl ?_
                        refine DL_qn rfl rfl (yield_undef rfl rfl) ?_
                        refine DL_qn rfl rfl (yield_undef rfl rfl) ?_
                        refine DL_qn rfl rfl (yield_undef rfl rfl) ?_
                        refine DL_qn rfl rfl (yield_undef rfl rfl) ?_
                        refine DL_qn rfl rfl (yield_undef rfl rfl) ?_
                        refine DL_qn rfl rfl (yield_undef rfl rfl) ?_
                        refine DL_qn rfl rfl (yield_undef rfl rfl) ?_
                        refine DL_en rfl rfl (yield_undef rfl rfl) ?_
                        refine DL_qn rfl rfl (yield_undef rfl rfl) ?_
                        refine DL_qp rfl rfl (yield_of rfl rfl) rfl ?_
                        refine DL_q rfl rfl (Exec.pick_t (v := Value.bool (true)) rfl rfl rfl ⟨rfl, ?_⟩)
                        refine DL_done ?_
                        refine WL_nil (at_normal ?_)
                        have e26991 := Option.some.inj ht26955
                        subst z26954
                        have hS26992 := (hS26977).drop
                        exact ⟨s26883, (PHeap.le_refl _), hS26992, p26886, p26887, p26888, x26889, rfl⟩
                      · replace hc26990 := not_true hc26990
                        refine DL_qg rfl rfl (yield_of rfl (congrArg Value.bool hc26990)) (Exec.field F66_1 rfl rfl rfl ⟨rfl, ?_⟩)
                        refine DL_qg rfl rfl (yield_of rfl (congrArg Value.bool hc26990)) (Exec.load_box (hS26977) A3 rfl rfl rfl ⟨rfl, ?_⟩)
                        refine DL_qg rfl rfl (yield_of rfl (congrArg Value.bool hc26990)) (Exec.field F26_2 rfl p26886 rfl ⟨rfl, ?_⟩)
                        refine DL_qg rfl rfl (yield_of rfl (congrArg Value.bool hc26990)) (Exec.load_box ((hS26977).f1) A22 rfl rfl rfl ⟨rfl, ?_⟩)
                        refine DL_qg rfl rfl (yield_of rfl (congrArg Value.bool hc26990)) (Exec.len_rep S22 rfl rfl (a25749.mono (PHeap.le.trans (PHeap.le.trans l26445 l26589) l26884)) ⟨rfl, ?_⟩)
                        refine DL_qg rfl rfl (yield_of rfl (congrArg Value.bool hc26990)) (Exec.geq rfl rfl rfl ⟨rfl, ?_⟩)
                        refine DL_q rfl rfl (Exec.pick_f (v := Value.bool (decide ((x25747.Costs.length : Int) ≤ x26902.Label))) rfl (congrArg Value.bool hc26990) rfl ⟨rfl, ?_⟩)
                        refine DL_q rfl rfl (Exec.move (v := Value.bool (decide ((x25747.Costs.length : Int) ≤ x26902.Label))) rfl rfl ⟨rfl, ?_⟩)
                        rcases ite_some ht26955 with ⟨hc26993, ht26955⟩ | ⟨hc26993, ht26955⟩
                        · refine DL_qp rfl rfl (yield_of rfl (congrArg Value.bool hc26993)) rfl ?_
                          refine DL_qp rfl rfl (yield_of rfl (congrArg Value.bool hc26993)) rfl ?_
                          refine DL_qp rfl rfl (yield_of rfl (congrArg Value.bool hc26993)) rfl ?_
                          refine DL_qn rfl rfl (yield_undef rfl rfl) ?_
                          refine DL_qn rfl rfl (yield_undef rfl rfl) ?_
                          refine DL_qn rfl rfl (yield_undef rfl rfl) ?_
                          refine DL_qn rfl rfl (yield_undef rfl rfl) ?_
                          refine DL_qn rfl rfl (yield_undef rfl rfl) ?_
                          refine DL_qn rfl rfl (yield_undef rfl rfl) ?_
                          refine DL_qn rfl rfl (yield_undef rfl rfl) ?_
                          refine DL_en rfl rfl (yield_undef rfl rfl) ?_
                          refine DL_qn rfl rfl (yield_undef rfl rfl) ?_
                          refine DL_qp rfl rfl (yield_of rfl (congrArg Value.bool hc26993)) rfl ?_
                          refine DL_q rfl rfl (Exec.pick_t (v := Value.bool (true)) rfl (congrArg Value.bool hc26993) rfl ⟨rfl, ?_⟩)
                          refine DL_done ?_
                          refine WL_nil (at_normal ?_)
                          have e26994 := Option.some.inj ht26955
                          subst z26954
                          have hS26995 := (hS26977).drop
                          exact ⟨s26883, (PHeap.le_refl _), hS26995, p26886, p26887, p26888, x26889, rfl⟩
                        · replace hc26993 := not_true hc26993
                          refine DL_qg rfl rfl (yield_of rfl (congrArg Value.bool hc26993)) (Exec.move (v := Value.int .i64 ((i26594 : Int))) rfl rfl ⟨rfl, ?_⟩)
                          refine DL_qg rfl rfl (yield_of rfl (congrArg Value.bool hc26993)) (Exec.gtr rfl rfl rfl ⟨rfl, ?_⟩)
                          refine DL_qg rfl rfl (yield_of rfl (congrArg Value.bool hc26993)) (Exec.move (v := Value.bool (decide (0 < (i26594 : Int)))) rfl rfl ⟨rfl, ?_⟩)
                          rcases ite_some ht26955 with ⟨hc26996, ht26955⟩ | ⟨hc26996, ht26955⟩
                          · refine DL_qg rfl rfl (yield_of rfl (congrArg Value.bool hc26996)) (Exec.field F26_3 rfl p26886 rfl ⟨rfl, ?_⟩)
                            refine DL_qg rfl rfl (yield_of rfl (congrArg Value.bool hc26996)) (Exec.load_box ((hS26977).f1) A23 rfl rfl rfl ⟨rfl, ?_⟩)
                            refine DL_qg rfl rfl (yield_of rfl (congrArg Value.bool hc26996)) (Exec.move (v := Value.int .i64 ((i26594 : Int))) rfl rfl ⟨rfl, ?_⟩)
                            refine DL_qg rfl rfl (yield_of rfl (congrArg Value.bool hc26996)) (Exec.sub rfl rfl rfl ⟨rfl, ?_⟩)
                            obtain ⟨x26997, q26998, ht26955⟩ := bind_some ht26955
                            refine DL_qg rfl rfl (yield_of rfl (congrArg Value.bool hc26996)) (Exec.index_repE S23 rfl rfl rfl (a25751.mono (PHeap.le.trans (PHeap.le.trans l26445 l26589) l26884)) q26998 ?_)
                            intro b26999 o27000 a27001 e27002
                            refine ⟨rfl, ?_⟩
                            refine DL_qg rfl rfl (yield_of rfl (congrArg Value.bool hc26996)) (Exec.load_at (E := encEdge) hS26977 A66 rfl rfl rfl a27001 ?_)
                            intro v27003 q27004
                            obtain rfl := encEdge_val.1 q27004
                            refine ⟨rfl, ?_⟩
                            refine DL_qg rfl rfl (yield_of rfl (congrArg Value.bool hc26996)) (Exec.load_box_agg (ds := [Value.int .i64 (x26902.From), Value.int .i64 (x26902.Label), Value.int .i64 (x26902.To)]) (hS26977) A66 rfl rfl rfl ⟨rfl, ?_⟩)
                            refine DL_eg rfl rfl (yield_of rfl (congrArg Value.bool hc26996)) (Exec.call rfl rfl Try.func41 rfl N41 (args_cons rfl (args_cons rfl args_nil)) ((ref44_Before_sim (ref44_Before_tot x26997 x26902) hS26977 ).mono ?_))
                            rintro _ w27005 ⟨_, rfl, ⟨s27006, l27007, hS27008, rfl⟩⟩
                            refine ⟨_, rfl, ?_⟩
                            refine ⟨ag_nil, ?_⟩
                            refine DL_qg rfl rfl (yield_of rfl (congrArg Value.bool hc26996)) (Exec.not rfl rfl ⟨rfl, ?_⟩)
                            refine DL_qg rfl rfl (yield_of rfl (congrArg Value.bool hc26993)) (Exec.pick_t (v := Value.bool (!(ref44_Before_t x26997 x26902))) rfl (congrArg Value.bool hc26996) rfl ⟨rfl, ?_⟩)
                            refine DL_q rfl rfl (Exec.pick_f (v := Value.bool (!(ref44_Before_t x26997 x26902))) rfl (congrArg Value.bool hc26993) rfl ⟨rfl, ?_⟩)
                            refine DL_done ?_
                            refine WL_nil (at_normal ?_)
                            have e27009 := Option.some.inj ht26955
                            subst z26954
                            have hS27010 := (hS27008).drop
                            exact ⟨s27006, l27007, hS27010, p26886, p26887, p26888, x26889, rfl⟩
                          · replace hc26996 := not_true hc26996
                            refine DL_qp rfl rfl (yield_of rfl (congrArg Value.bool hc26996)) rfl ?_
                            refine DL_qp rfl rfl (yield_of rfl (congrArg Value.bool hc26996)) rfl ?_
                            refine DL_qp rfl rfl (yield_of rfl (congrArg Value.bool hc26996)) rfl ?_
                            refine DL_qp rfl rfl (yield_of rfl (congrArg Value.bool hc26996)) rfl ?_
                            refine DL_qp rfl rfl (yield_of rfl (congrArg Value.bool hc26996)) rfl ?_
                            refine DL_qp rfl rfl (yield_of rfl (congrArg Value.bool hc26996)) rfl ?_
                            refine DL_qp rfl rfl (yield_of rfl (congrArg Value.bool hc26996)) rfl ?_
                            refine DL_ep rfl rfl (yield_of rfl (congrArg Value.bool hc26996)) rfl ?_
                            refine DL_qp rfl rfl (yield_of rfl (congrArg Value.bool hc26996)) rfl ?_
                            refine DL_qg rfl rfl (yield_of rfl (congrArg Value.bool hc26993)) (Exec.pick_f (v := Value.bool (false)) rfl (congrArg Value.bool hc26996) rfl ⟨rfl, ?_⟩)
                            refine DL_q rfl rfl (Exec.pick_f (v := Value.bool (false)) rfl (congrArg Value.bool hc26993) rfl ⟨rfl, ?_⟩)
                            refine DL_done ?_
                            refine WL_nil (at_normal ?_)
                            have e27011 := Option.some.inj ht26955
                            subst z26954
                            have hS27012 := (hS26977).drop
                            exact ⟨s26883, (PHeap.le_refl _), hS27012, p26886, p26887, p26888, x26889, rfl⟩
            · intro f27013 w27014 hM27015
              obtain ⟨s27016, l27017, hS27018, p27019, p27020, p27021, p27022, p27023⟩ := hM27015
              refine (at_normal ?_)
              rcases ite_some hm26879 with ⟨hc27024, hm26879⟩ | ⟨hc27024, hm26879⟩
              · refine W_cond_t p27023 hc27024 ?_
                refine W_seq ?_
                refine W_region ?_
                refine WL_step rfl rfl (Exec.assign (v := Value.bool (false)) rfl rfl ?_)
                refine WL_nil (at_normal ?_)
                refine W_ret (ib_ret (at_ret (at_ret (ib_ret (at_ret (at_ret ?_))))))
                have e27025 := Option.some.inj hm26879
                subst c26875
                have hq27026 := hr26869 _ (hres26880 (by intro _ h; cases h))
                have e27027 := Option.some.inj hq27026
                subst r
                refine ⟨_, ret1 rfl, ?_⟩
                have hS27028 := (hS27018).drop
                exact ⟨s27016, (PHeap.le.trans (PHeap.le.trans (PHeap.le.trans l26445 l26589) l26884) l27017), hS27028, rfl⟩
              · refine W_cond_f p27023 hc27024 ?_
                replace hc27024 := not_true hc27024
                refine W_skip (ib_normal (at_normal ?_))
                refine W_region ?_
                refine WL_step rfl rfl (Exec.add rfl p27022 rfl ?_)
                refine WL_step rfl rfl (Exec.move (v := Value.int .i64 (IntKind.i64.wrap ((i26594 : Int) + 1))) rfl rfl ?_)
                refine WL_nil (at_normal ?_)
                have e27029 := Option.some.inj hm26879
                subst c26875
                refine ⟨_, rfl, ?_⟩; exact ⟨s27016, (PHeap.le.trans l26884 l27017), hS27018, p27019, p27020, p27021, (Eq.trans rfl (wrap_up hi26882 (SliceRep.le (a25751.mono (PHeap.le.trans l26445 l26589)))))⟩
          · intro t27030 f27031 w27032 hI27033 hres27034
            obtain ⟨s27035, l27036, hS27037, p27038, p27039, p27040, x27041⟩ := hI27033
            refine W_seq ?_
            refine W_region ?_
            refine WL_step rfl rfl (Exec.lss rfl x27041 p27040 ?_)
            refine WL_nil (at_normal ?_)
            refine W_seq ?_
            refine W_false (congrArg Value.bool (decide_eq_false (by omega))) ?_
            refine W_exit (at_exit (at_exit (ib_here (at_normal ?_))))
            refine ⟨_, .inl hres27034, ?_⟩; exact ⟨s27035, l27036, hS27037, p27038, p27039, p27040⟩
        · rintro f27042 w27043 ⟨t27044, hc27045, hM27046⟩
          have hm := hc27045.elim (hn26870 _) (hb26871 _)
          clear hc27045
          obtain ⟨s27047, l27048, hS27049, p27050, p27051, p27052⟩ := hM27046
          refine (at_normal ?_)
          refine W_seq ?_
          refine W_region ?_
          refine WL_step rfl rfl (Exec.assign (v := Value.bool (true)) rfl rfl ?_)
          refine WL_nil (at_normal ?_)
          refine W_ret ?_
          have e27054 := Option.some.inj hm
          subst r
          refine ⟨_, ret1 rfl, ?_⟩
          have hS27055 := (hS27049).drop
          exact ⟨s27047, (PHeap.le.trans (PHeap.le.trans l26445 l26589) l27048), hS27055, rfl⟩

theorem N11 : (Try.f11.name == "runtime.NumGoroutine") = false := by kernel_rfl

end Go.Pw
