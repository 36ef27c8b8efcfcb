/-
  The walks (printed by my generator).
-/
import Derived.Test.YtagooehmocpcjaaDoorMg1
import Derived.Test.YtagooehmocpcjaaDoorMgY
set_option maxRecDepth 100000
set_option maxHeartbeats 4000000
set_option linter.unusedVariables false
namespace Go.Pw
open Go.Proofs
theorem A92 : tyAgg Tryd.prog 92 = some (true, 2) := by kernel_rfl

theorem IA92 : intArr Tryd.prog 92 2 = true := by kernel_rfl

theorem N60 : (Tryd.f60.name == "runtime.NumGoroutine") = false := by kernel_rfl

theorem slices_Compact____2_int__2_int__o_sim {w0 w : World} {s : PHeap} {H : List Res} {s_3803 : (List Arr2_int)} {v3804 : Value} {r : Nat × (List Arr2_int)} (hm : slices_Compact____2_int__2_int__o_p s_3803 = some r) (hS : St w0 s (Res.arr encArr2_int 92 v3804 s_3803 :: H) w)  :
    Calls Tryd.prog 60 #[v3804] w fun e w' => ∃ v, e = .returned v ∧ ((un2 fun (y6691 : Nat) (l6693 : (List Arr2_int)) => ∃ (s6694 : PHeap) (v6692 : Value), PHeap.le s s6694 ∧ St w0 s6694 (Res.arr encArr2_int 92 v3804 l6693 :: H) w' ∧ v = v6692 ∧ SubOf 2 v3804 v6692 0 y6691) r) := by
  unfold slices_Compact____2_int__2_int__o_p at hm
  refine calls_of_W Tryd.func60 rfl rfl ?_
  refine W_seq ?_
  refine W_region ?_
  refine WL_step rfl rfl (Exec.assign (v := Value.slice none 0 0) rfl rfl ?_)
  refine WL_nil (at_normal ?_)
  refine W_seq ?_
  refine W_seq ?_
  refine W_region ?_
  refine WL_step rfl rfl (Exec.move (v := v3804) rfl rfl ?_)
  refine WL_step rfl rfl (Exec.len_arr (hS) S91 rfl rfl ?_)
  refine WL_step rfl rfl (Exec.lss rfl rfl rfl ?_)
  refine WL_nil (at_normal ?_)
  rcases ite_some hm with ⟨hc6695, hm⟩ | ⟨hc6695, hm⟩
  · refine W_cond_t rfl hc6695 ?_
    refine W_seq ?_
    refine W_region ?_
    refine WL_step rfl rfl (Exec.move (v := v3804) rfl rfl ?_)
    refine WL_step rfl rfl (Exec.assign (v := v3804) rfl rfl ?_)
    refine WL_nil (at_normal ?_)
    refine W_ret (at_ret ?_)
    have e6697 := Option.some.inj hm
    subst r
    refine ⟨_, ret1 rfl, ?_⟩
    exact ⟨s, v3804, (PHeap.le_refl _), hS, rfl, (Or.inl ⟨rfl, rfl, (hS).arr_shape⟩)⟩
  · refine W_cond_f rfl hc6695 ?_
    replace hc6695 := not_true hc6695
    refine W_skip (at_normal ?_)
    refine W_seq ?_
    refine W_seq ?_
    refine W_region ?_
    refine WL_step rfl rfl (Exec.assign (v := Value.int .i64 (1)) rfl rfl ?_)
    refine WL_nil (at_normal ?_)
    obtain ⟨c8840, hB8841, hr8842, hn8843, hb8844⟩ := ctl_some hm
    refine W_mid (M := fun f' w' => ∃ s', (c8840 = .next s' ∨ c8840 = .brk s') ∧ (fun (k8839 : Int) => ∃ (s8846 : PHeap) , PHeap.le s s8846 ∧ St w0 s8846 (Res.arr encArr2_int 92 v3804 s_3803 :: H) w' ∧ f' 0 = v3804 ∧ f' 3 = Value.int .i64 (k8839)) s') ?_ ?_
    · refine W_block (W_while (fun s' f' w' => (fun (k7411 : Int) => ∃ (s8845 : PHeap) , PHeap.le s s8845 ∧ St w0 s8845 (Res.arr encArr2_int 92 v3804 s_3803 :: H) w' ∧ f' 0 = v3804 ∧ f' 3 = Value.int .i64 (k7411)) s') hB8841 ?_ ?_)
      · exact ⟨s, (PHeap.le_refl _), hS, rfl, rfl⟩
      · intro k7411 c8848 f8849 w8850 hI8851 hm8852 hres8853
        obtain ⟨s8854, l8855, hS8856, p8857, p8858⟩ := hI8851
        refine W_seq ?_
        refine W_seq ?_
        refine W_region ?_
        refine WL_step rfl rfl (Exec.move (v := Value.int .i64 (k7411)) rfl p8858 ?_)
        refine WL_step rfl rfl (Exec.move (v := v3804) rfl p8857 ?_)
        refine WL_step rfl rfl (Exec.len_arr (hS8856) S91 rfl rfl ?_)
        refine WL_step rfl rfl (Exec.lss rfl rfl rfl ?_)
        refine WL_nil (at_normal ?_)
        rcases ite_some hm8852 with ⟨hc8859, hm8852⟩ | ⟨hc8859, hm8852⟩
        · refine W_cond_t rfl hc8859 ?_
          refine W_skip (at_normal ?_)
          refine W_seq ?_
          refine W_block ?_
          refine W_seq ?_
          refine W_dl (n0 := 10) (.q 0 (.q 1 (.q 2 (.q 3 (.q 4 (.q 5 (.q 6 (.q 7 (.q 8 (.q 9 .done)))))))))) hmix (by kernel_rfl) (by kernel_rfl) ?_
          have hS8905 := hS8856.drew
          refine DL_q rfl rfl (Exec.move (v := v3804) rfl p8857 ⟨rfl, ?_⟩)
          refine DL_q rfl rfl (Exec.move (v := Value.int .i64 (k7411)) rfl p8858 ⟨rfl, ?_⟩)
          obtain ⟨x8906, q8907, hm8852⟩ := bind_some hm8852
          obtain ⟨g8908, c8909, e8910⟩ := (hS8905).arr_at q8907
          refine DL_q rfl rfl (Exec.index_slice S91 rfl e8910 rfl (idx_some q8907).1 (idx_some q8907).2.1 ⟨rfl, ?_⟩)
          refine DL_q rfl rfl (Exec.load_arr (F := encArr2_int) (hS8905) e8910 A92 rfl rfl rfl q8907 (Sub.refl _) ?_)
          intro v8911 q8912
          obtain rfl := encArr2_int_val.1 q8912
          refine ⟨rfl, ?_⟩
          refine DL_q rfl rfl (Exec.move (v := v3804) rfl p8857 ⟨rfl, ?_⟩)
          refine DL_q rfl rfl (Exec.move (v := Value.int .i64 (k7411)) rfl p8858 ⟨rfl, ?_⟩)
          refine DL_q rfl rfl (Exec.sub rfl rfl rfl ⟨rfl, ?_⟩)
          obtain ⟨x8913, q8914, hm8852⟩ := bind_some hm8852
          obtain ⟨g8915, c8916, e8917⟩ := (hS8905).arr_at q8914
          refine DL_q rfl rfl (Exec.index_slice S91 rfl e8917 rfl (idx_some q8914).1 (idx_some q8914).2.1 ⟨rfl, ?_⟩)
          refine DL_q rfl rfl (Exec.load_arr (F := encArr2_int) (hS8905) e8917 A92 rfl rfl rfl q8914 (Sub.refl _) ?_)
          intro v8918 q8919
          obtain rfl := encArr2_int_val.1 q8919
          refine ⟨rfl, ?_⟩
          refine DL_q rfl rfl (Exec.arr_eql (xs := [x8906.a0, x8906.a1]) (ys := [x8913.a0, x8913.a1]) IA92 rfl rfl rfl rfl rfl rfl rfl ⟨rfl, ?_⟩)
          refine DL_done ?_
          refine WL_nil (at_normal ?_)
          rcases ite_some hm8852 with ⟨hc8920, hm8852⟩ | ⟨hc8920, hm8852⟩
          · refine W_cond_t rfl hc8920 ?_
            refine W_seq ?_
            refine W_region ?_
            refine WL_step rfl rfl (Exec.move (v := v3804) rfl p8857 ?_)
            refine WL_step rfl rfl (Exec.move (v := Value.int .i64 (k7411)) rfl p8858 ?_)
            obtain ⟨n8925, q8926, hm8852⟩ := bind_some hm8852
            refine WL_step rfl rfl (Exec.sub_from (hS8905) S91 rfl rfl rfl q8926 ?_)
            intro v8927 h8928
            refine WL_step rfl rfl (Exec.assign (v := v8927) rfl rfl ?_)
            refine WL_nil (at_normal ?_)
            refine W_seq ?_
            refine W_seq ?_
            refine W_region ?_
            refine WL_step rfl rfl (Exec.assign (v := Value.int .i64 (1)) rfl rfl ?_)
            refine WL_nil (at_normal ?_)
            obtain ⟨c9372, hB9373, hr9374, hn9375, hb9376⟩ := ctl_some hm8852
            refine W_mid (M := fun f' w' => ∃ s', (c9372 = .next s' ∨ c9372 = .brk s') ∧ (un3 fun (k9369 : Int) (k9370 : Int) (l9371 : (List Arr2_int)) => ∃ (s9378 : PHeap) , PHeap.le s8854 s9378 ∧ St w0 s9378 (Res.arr encArr2_int 92 v3804 l9371 :: H) w' ∧ f' 0 = v3804 ∧ f' 3 = Value.int .i64 (k9369) ∧ f' 4 = v8927 ∧ f' 5 = Value.int .i64 (k9370)) s') ?_ ?_
            · refine W_block (W_while (fun s' f' w' => (un3 fun (k9073 : Int) (k29074 : Int) (l9075 : (List Arr2_int)) => ∃ (s9377 : PHeap) , PHeap.le s8854 s9377 ∧ St w0 s9377 (Res.arr encArr2_int 92 v3804 l9075 :: H) w' ∧ f' 0 = v3804 ∧ f' 3 = Value.int .i64 (k9073) ∧ f' 4 = v8927 ∧ f' 5 = Value.int .i64 (k29074)) s') hB9373 ?_ ?_)
              · exact ⟨s8854, (PHeap.le_refl _), hS8905, p8857, p8858, rfl, rfl⟩
              · intro t9386 c9380 f9381 w9382 hI9383 hm9384 hres9385
                obtain ⟨k9073, k29074, l9075⟩ := t9386
                replace hm9384 := un3_eq hm9384
                obtain ⟨s9387, l9388, hS9389, p9390, p9391, p9392, p9393⟩ := hI9383
                refine W_seq ?_
                refine W_seq ?_
                refine W_region ?_
                refine WL_step rfl rfl (Exec.move (v := Value.int .i64 (k29074)) rfl p9393 ?_)
                refine WL_step rfl rfl (Exec.move (v := v8927) rfl p9392 ?_)
                refine WL_step rfl rfl (Exec.len_sub S91 h8928 rfl rfl ?_)
                refine WL_step rfl rfl (Exec.lss rfl rfl rfl ?_)
                refine WL_nil (at_normal ?_)
                rcases ite_some hm9384 with ⟨hc9394, hm9384⟩ | ⟨hc9394, hm9384⟩
                · refine W_cond_t rfl hc9394 ?_
                  refine W_skip (at_normal ?_)
                  refine W_seq ?_
                  refine W_block ?_
                  refine W_seq ?_
                  refine W_dl (n0 := 10) (.q 0 (.q 1 (.q 2 (.q 3 (.q 4 (.q 5 (.q 6 (.q 7 (.q 8 (.q 9 .done)))))))))) hmix (by kernel_rfl) (by kernel_rfl) ?_
                  have hS9440 := hS9389.drew
                  refine DL_q rfl rfl (Exec.move (v := v8927) rfl p9392 ⟨rfl, ?_⟩)
                  refine DL_q rfl rfl (Exec.move (v := Value.int .i64 (k29074)) rfl p9393 ⟨rfl, ?_⟩)
                  obtain ⟨x9441, q9442, hm9384⟩ := bind_some hm9384
                  obtain ⟨g9443, c9444, e9445⟩ := (hS9440).arr_at (idxV_some q9442).2.2
                  refine DL_q rfl rfl (Exec.index_sub S91 (view_some q8926).1 h8928 e9445 rfl rfl rfl (idxV_some q9442).1 (idxV_some q9442).2.1 ⟨rfl, ?_⟩)
                  refine DL_q rfl rfl (Exec.load_arr (F := encArr2_int) (hS9440) e9445 A92 rfl rfl rfl (idxV_some q9442).2.2 (Sub.refl _) ?_)
                  intro v9446 q9447
                  obtain rfl := encArr2_int_val.1 q9447
                  refine ⟨rfl, ?_⟩
                  refine DL_q rfl rfl (Exec.move (v := v8927) rfl p9392 ⟨rfl, ?_⟩)
                  refine DL_q rfl rfl (Exec.move (v := Value.int .i64 (k29074)) rfl p9393 ⟨rfl, ?_⟩)
                  refine DL_q rfl rfl (Exec.sub rfl rfl rfl ⟨rfl, ?_⟩)
                  obtain ⟨x9448, q9449, hm9384⟩ := bind_some hm9384
                  obtain ⟨g9450, c9451, e9452⟩ := (hS9440).arr_at (idxV_some q9449).2.2
                  refine DL_q rfl rfl (Exec.index_sub S91 (view_some q8926).1 h8928 e9452 rfl rfl rfl (idxV_some q9449).1 (idxV_some q9449).2.1 ⟨rfl, ?_⟩)
                  refine DL_q rfl rfl (Exec.load_arr (F := encArr2_int) (hS9440) e9452 A92 rfl rfl rfl (idxV_some q9449).2.2 (Sub.refl _) ?_)
                  intro v9453 q9454
                  obtain rfl := encArr2_int_val.1 q9454
                  refine ⟨rfl, ?_⟩
                  refine DL_q rfl rfl (Exec.arr_neq (xs := [x9441.a0, x9441.a1]) (ys := [x9448.a0, x9448.a1]) IA92 rfl rfl rfl rfl rfl rfl rfl ⟨rfl, ?_⟩)
                  refine DL_done ?_
                  refine WL_nil (at_normal ?_)
                  obtain ⟨t9489, ht9490, hm9384⟩ := bind_some hm9384
                  refine W_mid (M := fun f' w' => (un2 fun (k9487 : Int) (l9488 : (List Arr2_int)) => ∃ (s9491 : PHeap) , PHeap.le s9387 s9491 ∧ St w0 s9491 (Res.arr encArr2_int 92 v3804 l9488 :: H) w' ∧ f' 0 = v3804 ∧ f' 3 = Value.int .i64 (k9487) ∧ f' 4 = v8927 ∧ f' 5 = Value.int .i64 (k29074)) t9489) ?_ ?_
                  · rcases ite_some ht9490 with ⟨hc9492, ht9490⟩ | ⟨hc9492, ht9490⟩
                    · refine W_cond_t rfl hc9492 ?_
                      refine W_seq ?_
                      refine W_region ?_
                      refine WL_step rfl rfl (Exec.move (v := v3804) rfl p9390 ?_)
                      refine WL_step rfl rfl (Exec.move (v := Value.int .i64 (k9073)) rfl p9391 ?_)
                      refine WL_step rfl rfl (Exec.move (v := v8927) rfl p9392 ?_)
                      refine WL_step rfl rfl (Exec.move (v := Value.int .i64 (k29074)) rfl p9393 ?_)
                      obtain ⟨x9509, q9510, ht9490⟩ := bind_some ht9490
                      obtain ⟨g9511, c9512, e9513⟩ := (hS9440).arr_at (idxV_some q9510).2.2
                      refine WL_step rfl rfl (Exec.index_sub S91 (view_some q8926).1 h8928 e9513 rfl rfl rfl (idxV_some q9510).1 (idxV_some q9510).2.1 ?_)
                      refine WL_step rfl rfl (Exec.load_arr (F := encArr2_int) (hS9440) e9513 A92 rfl rfl rfl (idxV_some q9510).2.2 (Sub.refl _) ?_)
                      intro v9514 q9515
                      obtain rfl := encArr2_int_val.1 q9515
                      obtain ⟨x9516, q9517, ht9490⟩ := bind_some ht9490
                      obtain ⟨g9518, c9519, e9520⟩ := (hS9440).arr_at q9517
                      refine WL_step rfl rfl (Exec.index_slice S91 rfl e9520 rfl (idx_some q9517).1 (idx_some q9517).2.1 ?_)
                      obtain ⟨l9521, q9522, ht9490⟩ := bind_some ht9490
                      refine WL_step rfl rfl (Exec.store_arr hS9440 e9520 A92 rfl rfl rfl rfl (encArr2_int_val.2 rfl) q9522 ?_)
                      intro w9523 hS9524
                      refine WL_nil (at_normal ?_)
                      refine W_region ?_
                      refine WL_step rfl rfl (Exec.move (v := Value.int .i64 (k9073)) rfl p9391 ?_)
                      refine WL_step rfl rfl (Exec.add rfl rfl rfl ?_)
                      refine WL_step rfl rfl (Exec.assign (v := Value.int .i64 (IntKind.i64.wrap (k9073 + 1))) rfl rfl ?_)
                      refine WL_nil (at_normal ?_)
                      have e9525 := Option.some.inj ht9490
                      subst t9489
                      exact ⟨s9387, (PHeap.le_refl _), hS9524, p9390, rfl, p9392, p9393⟩
                    · refine W_cond_f rfl hc9492 ?_
                      replace hc9492 := not_true hc9492
                      refine W_skip (at_normal ?_)
                      have e9526 := Option.some.inj ht9490
                      subst t9489
                      exact ⟨s9387, (PHeap.le_refl _), hS9440, p9390, p9391, p9392, p9393⟩
                  · intro f9527 w9528 hM9529
                    obtain ⟨k9487, l9488⟩ := t9489
                    replace hm9384 := un2_eq hm9384
                    obtain ⟨s9530, l9531, hS9532, p9533, p9534, p9535, p9536⟩ := hM9529
                    refine (ib_normal (at_normal ?_))
                    refine W_region ?_
                    refine WL_step rfl rfl (Exec.move (v := Value.int .i64 (k29074)) rfl p9536 ?_)
                    refine WL_step rfl rfl (Exec.add rfl rfl rfl ?_)
                    refine WL_step rfl rfl (Exec.assign (v := Value.int .i64 (IntKind.i64.wrap (k29074 + 1))) rfl rfl ?_)
                    refine WL_nil (at_normal ?_)
                    have e9537 := Option.some.inj hm9384
                    subst c9380
                    refine ⟨_, rfl, ?_⟩; exact ⟨s9530, (PHeap.le.trans l9388 l9531), hS9532, p9533, p9534, p9535, rfl⟩
                · refine W_cond_f rfl hc9394 ?_
                  replace hc9394 := not_true hc9394
                  refine W_exit (at_exit (at_exit (ib_here (at_normal ?_))))
                  have e9538 := Option.some.inj hm9384
                  subst c9380
                  refine ⟨_, .inr (hres9385 (by intro _ h; cases h)), ?_⟩; exact ⟨s9387, l9388, hS9389, p9390, p9391, p9392, p9393⟩
            · rintro f9539 w9540 ⟨t9541, hc9542, hM9543⟩
              have hm8852 := hc9542.elim (hn9375 _) (hb9376 _)
              clear hc9542
              obtain ⟨k9369, k9370, l9371⟩ := t9541
              replace hm8852 := un3_eq hm8852
              obtain ⟨s9544, l9545, hS9546, p9547, p9548, p9549, p9550⟩ := hM9543
              refine (at_normal ?_)
              refine W_seq ?_
              refine W_region ?_
              refine WL_step rfl rfl (Exec.move (v := v3804) rfl p9547 ?_)
              refine WL_step rfl rfl (Exec.move (v := Value.int .i64 (k9369)) rfl p9548 ?_)
              obtain ⟨n9557, q9558, hm8852⟩ := bind_some hm8852
              refine WL_step rfl rfl (Exec.sub_from (hS9546) S91 rfl rfl rfl q9558 ?_)
              intro v9559 h9560
              refine WL_step rfl rfl (Exec.clear_sub (E := encArr2_int) (y := (⟨0, 0⟩ : Arr2_int)) hS9546 h9560 (view_some q9558).2.2.2.2.2 S91 Z92 ⟨[Value.int .i64 (0)], [Value.int .i64 (0)], rfl, rfl, rfl⟩ rfl rfl ?_)
              intro w9561 hS9562
              refine WL_nil (at_normal ?_)
              refine W_seq ?_
              refine W_region ?_
              refine WL_step rfl rfl (Exec.move (v := v3804) rfl p9547 ?_)
              refine WL_step rfl rfl (Exec.move (v := Value.int .i64 (k9369)) rfl p9548 ?_)
              obtain ⟨n9567, q9568, hm8852⟩ := bind_some hm8852
              refine WL_step rfl rfl (Exec.sub_to (hS9562) S91 rfl rfl rfl q9568 ?_)
              intro v9569 h9570
              refine WL_step rfl rfl (Exec.assign (v := v9569) rfl rfl ?_)
              refine WL_nil (at_normal ?_)
              refine W_ret (ib_ret (at_ret (at_ret (ib_ret (at_ret (at_ret ?_))))))
              have e9571 := Option.some.inj hm8852
              subst c8848
              have hq9572 := hr8842 _ (hres8853 (by intro _ h; cases h))
              have e9573 := Option.some.inj hq9572
              subst r
              refine ⟨_, ret1 rfl, ?_⟩
              exact ⟨s9544, v9569, (PHeap.le.trans l8855 l9545), hS9562, rfl, h9570⟩
          · refine W_cond_f rfl hc8920 ?_
            replace hc8920 := not_true hc8920
            refine W_skip (ib_normal (at_normal ?_))
            refine W_region ?_
            refine WL_step rfl rfl (Exec.move (v := Value.int .i64 (k7411)) rfl p8858 ?_)
            refine WL_step rfl rfl (Exec.add rfl rfl rfl ?_)
            refine WL_step rfl rfl (Exec.assign (v := Value.int .i64 (IntKind.i64.wrap (k7411 + 1))) rfl rfl ?_)
            refine WL_nil (at_normal ?_)
            have e9574 := Option.some.inj hm8852
            subst c8848
            refine ⟨_, rfl, ?_⟩; exact ⟨s8854, l8855, hS8905, p8857, rfl⟩
        · refine W_cond_f rfl hc8859 ?_
          replace hc8859 := not_true hc8859
          refine W_exit (at_exit (at_exit (ib_here (at_normal ?_))))
          have e9575 := Option.some.inj hm8852
          subst c8848
          refine ⟨_, .inr (hres8853 (by intro _ h; cases h)), ?_⟩; exact ⟨s8854, l8855, hS8856, p8857, p8858⟩
    · rintro f9576 w9577 ⟨k8839, hc9578, hM9579⟩
      have hm := hc9578.elim (hn8843 _) (hb8844 _)
      clear hc9578
      obtain ⟨s9580, l9581, hS9582, p9583, p9584⟩ := hM9579
      refine (at_normal ?_)
      refine W_seq ?_
      refine W_region ?_
      refine WL_step rfl rfl (Exec.move (v := v3804) rfl p9583 ?_)
      refine WL_step rfl rfl (Exec.assign (v := v3804) rfl rfl ?_)
      refine WL_nil (at_normal ?_)
      refine W_ret ?_
      have e9586 := Option.some.inj hm
      subst r
      refine ⟨_, ret1 rfl, ?_⟩
      exact ⟨s9580, v3804, l9581, hS9582, rfl, (Or.inl ⟨rfl, rfl, (hS9582).arr_shape⟩)⟩

theorem N42 : (Tryd.f42.name == "runtime.NumGoroutine") = false := by kernel_rfl

theorem N31 : (Tryd.f31.name == "runtime.NumGoroutine") = false := by kernel_rfl

theorem shrink_refine_o_sim {w0 w : World} {s : PHeap} {H : List Res} {x2781 : System} {class2788 : (List Int)} {v2782 : Value} {v2784 : Value} {v2786 : Value} {v2789 : Value} {r : (List Int) × Int} (hm : shrink_refine_o_p x2781 class2788 = some r) (hS : St w0 s (Res.arr (encInt .i64) 3 v2789 class2788 :: H) w) (a2783 : SliceRep (encInt .i64) s v2782 x2781.Costs) (a2785 : SliceRep encEdge s v2784 x2781.Edges) (a2787 : SliceRep encBool s v2786 x2781.Goals) :
    Calls Tryd.prog 31 #[Value.agg #[Value.int .i64 (x2781.States), Value.int .i64 (x2781.Init), v2782, v2784, v2786], v2789] w fun e w' => ∃ v, e = .returned v ∧ ((un2 fun (y11386 : (List Int)) (y11387 : Int) => ∃ (s11389 : PHeap) (v11388 : Value), PHeap.le s s11389 ∧ St w0 s11389 (Res.arr (encInt .i64) 3 v2789 class2788 :: Res.arr (encInt .i64) 3 v11388 y11386 :: H) w' ∧ v = Value.tuple #[v11388, Value.int .i64 (y11387)]) r) := by
  unfold shrink_refine_o_p at hm
  refine calls_of_W Tryd.func31 rfl rfl ?_
  refine W_seq ?_
  refine W_region ?_
  refine WL_step rfl rfl (Exec.box (cs := [Value.int .i64 (x2781.States), Value.int .i64 (x2781.Init), v2782, v2784, v2786]) hS rfl rfl rfl ?_)
  intro b11393 w11394 hS11395
  refine WL_step rfl rfl (Exec.assign (v := Value.slice none 0 0) rfl rfl ?_)
  refine WL_step rfl rfl (Exec.assign (v := Value.int .i64 (0)) rfl rfl ?_)
  refine WL_nil (at_normal ?_)
  refine W_seq ?_
  refine W_region ?_
  refine WL_step rfl rfl (Exec.field F26_0 rfl rfl rfl ?_)
  refine WL_step rfl rfl (Exec.load_box (hS11395) A3 rfl rfl rfl ?_)
  obtain ⟨l11402, q11403, hm⟩ := bind_some hm
  refine WL_step rfl rfl (Exec.make_grid (F := encArr2_int) (T2 := 92) hS11395 S90 Z91 rfl rfl rfl q11403 ?_)
  intro v11404 hs11405 w11406 hS11407
  refine WL_step rfl rfl (Exec.assign (v := v11404) rfl rfl ?_)
  refine WL_nil (at_normal ?_)
  refine W_seq ?_
  refine W_seq ?_
  refine W_region ?_
  refine WL_step rfl rfl (Exec.field F26_3 rfl rfl rfl ?_)
  refine WL_step rfl rfl (Exec.load_box ((hS11407).f2) A23 rfl rfl rfl ?_)
  refine WL_step rfl rfl (Exec.len_rep S23 rfl rfl a2785 ?_)
  refine WL_step rfl rfl (Exec.move (v := Value.int .i64 (0)) rfl rfl ?_)
  refine WL_nil (at_normal ?_)
  obtain ⟨l11564, hB11723, hm⟩ := bind_some hm
  refine W_block (W_forS (fun k' s' f' w' => (fun (l11564 : (List (List Arr2_int))) => ∃ (s11724 : PHeap) (hs11565 : List Value), PHeap.le s s11724 ∧ St w0 s11724 (Res.arr (encInt .i64) 3 v2789 class2788 :: Res.box b11393 26 [Value.int .i64 (x2781.States), Value.int .i64 (x2781.Init), v2782, v2784, v2786] :: Res.arr encRaw 91 v11404 hs11565 :: Res.rows encArr2_int 92 hs11565 l11564 :: H) w' ∧ f' 1 = v2789 ∧ f' 2 = Value.pointer (some ⟨b11393, 0, none⟩) ∧ f' 6 = v11404 ∧ f' 19 = v2784 ∧ f' 20 = Value.int .i64 ((x2781.Edges.length : Int)) ∧ f' 21 = Value.int .i64 (k' : Int)) s') hB11723 ?_ ?_ ?_)
  · have hS11725 := (hS11407).f2
    have hS11726 := (hS11725).f3
    exact ⟨s, hs11405, (PHeap.le_refl _), hS11726, rfl, rfl, rfl, rfl, rfl, rfl⟩
  · intro i11408 l11564 s11728 f11729 w11730 hi11731 hI11732 hm11733
    obtain ⟨s11734, hs11565, l11735, hS11736, p11737, p11738, p11739, p11740, p11741, x11742⟩ := hI11732
    refine W_seq ?_
    refine W_region ?_
    refine WL_step rfl rfl (Exec.lss rfl x11742 p11741 ?_)
    refine WL_nil (at_normal ?_)
    refine W_seq ?_
    refine W_true (congrArg Value.bool (decide_eq_true (by omega))) ?_
    refine W_skip (at_normal ?_)
    refine W_seq ?_
    refine W_block ?_
    refine W_seq ?_
    refine W_region ?_
    obtain ⟨x11755, q11756, hm11733⟩ := bind_some hm11733
    refine WL_step rfl rfl (Exec.index_rep S23 rfl p11740 x11742 (a2785.mono l11735) q11756 ?_)
    intro b11757 o11758 a11759
    refine WL_step rfl rfl (Exec.load_at (E := encEdge) hS11736 A53 rfl rfl rfl a11759 ?_)
    intro v11760 q11761
    obtain rfl := encEdge_val.1 q11761
    refine WL_step rfl rfl (Exec.alloc (cs := [Value.int .i64 (0), Value.int .i64 (0), Value.int .i64 (0)]) hS11736 Z53 rfl rfl ?_)
    intro b11762 w11763 hS11764
    refine WL_step rfl rfl (Exec.store_box (ds := [Value.int .i64 (x11755.From), Value.int .i64 (x11755.Label), Value.int .i64 (x11755.To)]) (es := [Value.int .i64 (x11755.From), Value.int .i64 (x11755.Label), Value.int .i64 (x11755.To)]) hS11764 A53 rfl rfl rfl rfl (one_cons rfl (one_cons rfl (one_cons rfl one_nil))) (Nat.le_of_ble_eq_true rfl) rfl ?_)
    intro w11765 hS11766
    refine WL_nil (at_normal ?_)
    refine W_dl (n0 := 18) (.q 0 (.q 1 (.q 2 (.q 3 (.q 4 (.q 5 (.q 6 (.q 7 (.q 8 (.q 9 (.q 10 (.q 11 (.q 12 (.q 13 (.q 14 (.q 15 (.e 16 [0, 1, 2, 3, 4, 5, 6, 7] (.e 17 [0, 1, 2] .done)))))))))))))))))) hmix (by kernel_rfl) (by kernel_rfl) ?_
    have hS11861 := hS11766.drew
    refine DL_q rfl rfl (Exec.move (v := v11404) rfl p11739 ⟨rfl, ?_⟩)
    refine DL_q rfl rfl (Exec.field F53_0 rfl rfl rfl ⟨rfl, ?_⟩)
    refine DL_q rfl rfl (Exec.load_box (hS11861) A3 rfl rfl rfl ⟨rfl, ?_⟩)
    refine DL_q rfl rfl (Exec.move (v := v11404) rfl p11739 ⟨rfl, ?_⟩)
    refine DL_q rfl rfl (Exec.field F53_0 rfl rfl rfl ⟨rfl, ?_⟩)
    refine DL_q rfl rfl (Exec.load_box (hS11861) A3 rfl rfl rfl ⟨rfl, ?_⟩)
    obtain ⟨row11862, q11863, hm11733⟩ := bind_some hm11733
    obtain ⟨h11864, e11865, e11866, _⟩ := ((((hS11861).f4).f4).f1).rows_at q11863
    obtain ⟨g11867, c11868, e11869⟩ := (((hS11861).f4).f4).arr_at e11865
    refine DL_q rfl rfl (Exec.index_slice S90 rfl e11869 rfl (idx_some e11865).1 (idx_some e11865).2.1 ⟨rfl, ?_⟩)
    refine DL_q rfl rfl (Exec.load_arr (F := encRaw) (((hS11861).f4).f4) e11869 A91 rfl rfl rfl e11865 (Sub.refl _) ?_)
    intro v11870 q11871
    replace q11871 := (encRaw_val.1 q11871).1
    subst v11870
    refine ⟨rfl, ?_⟩
    refine DL_q rfl rfl (Exec.field F53_1 rfl rfl rfl ⟨rfl, ?_⟩)
    refine DL_q rfl rfl (Exec.load_box (hS11861) A3 rfl rfl rfl ⟨rfl, ?_⟩)
    refine DL_q rfl rfl (Exec.move (v := v2789) rfl p11737 ⟨rfl, ?_⟩)
    refine DL_q rfl rfl (Exec.field F53_2 rfl rfl rfl ⟨rfl, ?_⟩)
    refine DL_q rfl rfl (Exec.load_box (hS11861) A3 rfl rfl rfl ⟨rfl, ?_⟩)
    obtain ⟨x11872, q11873, hm11733⟩ := bind_some hm11733
    obtain ⟨g11874, c11875, e11876⟩ := ((hS11861).f1).arr_at q11873
    refine DL_q rfl rfl (Exec.index_slice S22 rfl e11876 rfl (idx_some q11873).1 (idx_some q11873).2.1 ⟨rfl, ?_⟩)
    refine DL_q rfl rfl (Exec.load_arr (F := (encInt .i64)) ((hS11861).f1) e11876 A3 rfl rfl rfl q11873 (Sub.refl _) ?_)
    intro v11877 q11878
    obtain rfl := encInt_val.1 q11878
    refine ⟨rfl, ?_⟩
    refine DL_q rfl rfl (Exec.build rfl (parts_cons (c := [Value.int .i64 (x11755.Label)]) (cells_of rfl rfl) (parts_cons (c := [Value.int .i64 (x11872)]) (cells_of rfl rfl) parts_nil)) (v := Value.agg #[Value.int .i64 (x11755.Label), Value.int .i64 (x11872)]) (fun _ => by kernel_rfl) ⟨rfl, ?_⟩)
    refine DL_e rfl rfl (Exec.buildSlice (Te := 92) (cs := [Value.int .i64 (x11755.Label), Value.int .i64 (x11872)]) hS11861 rfl (parts_cons (c := [Value.int .i64 (x11755.Label), Value.int .i64 (x11872)]) (cells_of rfl rfl) parts_nil) (fun _ => by kernel_rfl) ?_)
    intro b11879 w11880 hS11881
    refine ⟨(ag_cons (ag_r rfl rfl (Exec.move (v := v11404) rfl p11739 ⟨rfl, rfl⟩)) (ag_cons (ag_r rfl rfl (Exec.field F53_0 rfl rfl rfl ⟨rfl, rfl⟩)) (ag_cons (ag_r rfl rfl (Exec.load_box ((hS11881).f1) A3 rfl rfl rfl ⟨rfl, rfl⟩)) (ag_cons (ag_r rfl rfl (Exec.move (v := v11404) rfl p11739 ⟨rfl, rfl⟩)) (ag_cons (ag_r rfl rfl (Exec.field F53_0 rfl rfl rfl ⟨rfl, rfl⟩)) (ag_cons (ag_r rfl rfl (Exec.load_box ((hS11881).f1) A3 rfl rfl rfl ⟨rfl, rfl⟩)) (ag_cons (ag_r rfl rfl (Exec.index_slice S90 rfl e11869 rfl (idx_some e11865).1 (idx_some e11865).2.1 ⟨rfl, rfl⟩)) (ag_cons (ag_r rfl rfl (Exec.load_arr (F := encRaw) (((hS11881).f5).f5) e11869 A91 rfl rfl rfl e11865 (Sub.refl _) (fun _ q => ⟨rfl, (encRaw_val.1 q).1⟩))) ag_nil)))))))), ?_⟩
    have hS11882 := ((((hS11881).f5).f5).f1).rows_split e11866 (idx_some q11863).2.2
    obtain ⟨l11883, q11884, hm11733⟩ := bind_some hm11733
    have hS11885 := (hS11882).f3
    have hS11886 := (hS11885).f1
    refine DL_e rfl rfl (Exec.append_box (E := encArr2_int) (ys := [(⟨x11755.Label, x11872⟩ : Arr2_int)]) hS11886 S91 Z92 rfl (by decide) rfl rfl rfl rfl ⟨[Value.int .i64 (x11755.Label), Value.int .i64 (x11872)], [], rfl, ⟨[Value.int .i64 (x11755.Label)], [Value.int .i64 (x11872)], rfl, rfl, rfl⟩, rfl⟩ rfl q11884 ?_)
    intro v11887 w11888 hS11889
    refine ⟨(ag_cons (ag_r rfl rfl (Exec.move (v := v11404) rfl p11739 ⟨rfl, rfl⟩)) (ag_cons (ag_r rfl rfl (Exec.field F53_0 rfl rfl rfl ⟨rfl, rfl⟩)) (ag_cons (ag_r rfl rfl (Exec.load_box ((hS11889).f3) A3 rfl rfl rfl ⟨rfl, rfl⟩)) ag_nil))), ?_⟩
    refine DL_done ?_
    refine WL_step rfl rfl (Exec.index_slice S90 rfl e11869 rfl (idx_some e11865).1 (idx_some e11865).2.1 ?_)
    obtain ⟨l11890, q11891, hm11733⟩ := bind_some hm11733
    have hS11892 := ((hS11889).f2).f2
    have hS11893 := (hS11892).f2
    refine WL_step rfl rfl (Exec.store_row hS11893 e11866 e11869 A91 rfl rfl rfl rfl q11891 ?_)
    intro hs11894 w11895 hS11896
    refine WL_nil (ib_normal (at_normal ?_))
    refine W_region ?_
    refine WL_step rfl rfl (Exec.add rfl x11742 rfl ?_)
    refine WL_step rfl rfl (Exec.move (v := Value.int .i64 (IntKind.i64.wrap ((i11408 : Int) + 1))) rfl rfl ?_)
    refine WL_nil (at_normal ?_)
    have e11897 := Option.some.inj hm11733
    subst s11728
    have hS11898 := ((hS11896).f2).drop
    have hS11899 := (hS11898).f3
    have hS11900 := (hS11899).f3
    exact ⟨s11734, hs11894, l11735, hS11900, p11737, p11738, p11739, p11740, p11741, (Eq.trans rfl (wrap_up hi11731 (SliceRep.le a2785)))⟩
  · intro f11901 w11902 hI11903
    obtain ⟨s11904, hs11565, l11905, hS11906, p11907, p11908, p11909, p11910, p11911, x11912⟩ := hI11903
    refine W_seq ?_
    refine W_region ?_
    refine WL_step rfl rfl (Exec.lss rfl x11912 p11911 ?_)
    refine WL_nil (at_normal ?_)
    refine W_seq ?_
    refine W_false (congrArg Value.bool (decide_eq_false (by omega))) ?_
    refine W_exit (at_exit (at_exit (ib_here (at_normal ?_))))
    refine W_seq ?_
    refine W_region ?_
    refine WL_step rfl rfl (Exec.field F26_0 rfl p11908 rfl ?_)
    refine WL_step rfl rfl (Exec.load_box ((hS11906).f1) A3 rfl rfl rfl ?_)
    obtain ⟨l11918, q11919, hm⟩ := bind_some hm
    refine WL_step rfl rfl (Exec.make (E := encStr) hS11906 S54 Z9 rfl rfl rfl rfl q11919 ?_)
    intro v11920 w11921 hS11922
    refine WL_step rfl rfl (Exec.assign (v := v11920) rfl rfl ?_)
    refine WL_nil (at_normal ?_)
    refine W_seq ?_
    refine W_seq ?_
    refine W_region ?_
    refine WL_step rfl rfl (Exec.move (v := v11404) rfl p11909 ?_)
    refine WL_step rfl rfl (Exec.len_grid (((hS11922).f4).f4) (((hS11922).f4).f4).f1.rows_len S90 rfl rfl ?_)
    refine WL_step rfl rfl (Exec.move (v := Value.int .i64 (0)) rfl rfl ?_)
    refine WL_nil (at_normal ?_)
    obtain ⟨t13150, hB13151, hm⟩ := bind_some hm
    refine W_block (W_forS (fun k' s' f' w' => (un2 fun (l12535 : (List ByteArray)) (l12536 : (List (List Arr2_int))) => ∃ (s13152 : PHeap) , PHeap.le s11904 s13152 ∧ St w0 s13152 (Res.arr (encInt .i64) 3 v2789 class2788 :: Res.arr encStr 9 v11920 l12535 :: Res.arr encRaw 91 v11404 hs11565 :: Res.rows encArr2_int 92 hs11565 l12536 :: H) w' ∧ f' 1 = v2789 ∧ f' 9 = v11920 ∧ f' 48 = v11404 ∧ f' 49 = Value.int .i64 ((l11564.length : Int)) ∧ f' 50 = Value.int .i64 (k' : Int)) s') hB13151 ?_ ?_ ?_)
    · have hS13153 := ((hS11922).f2).drop
      have hS13154 := ((hS13153).f3).f3
      have hS13155 := (hS13154).f2
      have hS13156 := (hS13155).f3
      exact ⟨s11904, (PHeap.le_refl _), hS13156, p11907, rfl, rfl, rfl, rfl⟩
    · intro i11923 t13164 s13158 f13159 w13160 hi13161 hI13162 hm13163
      obtain ⟨l12535, l12536⟩ := t13164
      replace hm13163 := un2_eq hm13163
      obtain ⟨s13165, l13166, hS13167, p13168, p13169, p13170, p13171, x13172⟩ := hI13162
      refine W_seq ?_
      refine W_region ?_
      refine WL_step rfl rfl (Exec.lss rfl x13172 p13171 ?_)
      refine WL_nil (at_normal ?_)
      refine W_seq ?_
      refine W_true (congrArg Value.bool (decide_eq_true (by omega))) ?_
      refine W_skip (at_normal ?_)
      refine W_seq ?_
      refine W_block ?_
      refine W_seq ?_
      refine W_region ?_
      refine WL_step rfl rfl (Exec.move (v := Value.int .i64 ((i11923 : Int))) rfl x13172 ?_)
      obtain ⟨row13183, q13184, hm13163⟩ := bind_some hm13163
      obtain ⟨h13185, e13186, e13187, _⟩ := ((((hS13167).f3).f3).f1).rows_at q13184
      obtain ⟨g13188, c13189, e13190⟩ := (((hS13167).f3).f3).arr_at e13186
      refine WL_step rfl rfl (Exec.index_slice S90 rfl (Eq.trans p13170 e13190) x13172 (idx_some e13186).1 (idx_some e13186).2.1 ?_)
      refine WL_step rfl rfl (Exec.load_arr (F := encRaw) (((hS13167).f3).f3) e13190 A91 rfl rfl rfl e13186 (Sub.refl _) ?_)
      intro v13191 q13192
      replace q13192 := (encRaw_val.1 q13192).1
      subst v13191
      refine WL_step rfl rfl (Exec.assign (v := Value.int .i64 ((i11923 : Int))) rfl rfl ?_)
      refine WL_step rfl rfl (Exec.assign (v := h13185) rfl rfl ?_)
      refine WL_nil (at_normal ?_)
      refine W_seq ?_
      refine W_region ?_
      refine WL_step rfl rfl (Exec.move (v := h13185) rfl rfl ?_)
      have hS13207 := ((((hS13167).f3).f3).f1).rows_split e13187 (idx_some q13184).2.2
      obtain ⟨l13210, q13209, hm13163⟩ := bind_some hm13163
      refine WL_step rfl rfl (Exec.call rfl rfl Tryd.func56 rfl N56 (args_cons rfl (args_cons rfl args_nil)) ((sortPairs_sim q13209 hS13207 ).mono ?_))
      rintro _ w13211 ⟨_, rfl, ⟨s13212, l13213, hS13214, rfl⟩⟩
      refine ⟨_, rfl, ?_⟩
      obtain ⟨l13215, q13216, hm13163⟩ := bind_some hm13163
      have hS13217 := ((hS13214).f2).f2
      have hS13218 := (hS13217).f2
      have hS13219 := (hS13218).rows_back e13187 (setI_some q13216).2.1
      rw [← (setI_some q13216).2.2] at hS13219
      have hS13220 := (hS13219).f1
      refine WL_nil (at_normal ?_)
      refine W_seq ?_
      refine W_region ?_
      refine WL_step rfl rfl (Exec.alloc (cs := [Value.pointer none, Value.slice none 0 0]) hS13220 Z71 rfl rfl ?_)
      intro b13225 w13226 hS13227
      have hS13228 := St.bld_close (.inl rfl) ((St.arr_none (E := encInt .u8) (Te := 5) hS13227).perm (.swap _ _ _))
      refine WL_nil (at_normal ?_)
      refine W_seq ?_
      refine W_region ?_
      refine WL_step rfl rfl (Exec.move (v := v2789) rfl p13168 ?_)
      refine WL_step rfl rfl (Exec.move (v := Value.int .i64 ((i11923 : Int))) rfl rfl ?_)
      obtain ⟨x13247, q13248, hm13163⟩ := bind_some hm13163
      obtain ⟨g13249, c13250, e13251⟩ := ((hS13228).f3).arr_at q13248
      refine WL_step rfl rfl (Exec.index_slice S22 rfl e13251 rfl (idx_some q13248).1 (idx_some q13248).2.1 ?_)
      refine WL_step rfl rfl (Exec.load_arr (F := (encInt .i64)) ((hS13228).f3) e13251 A3 rfl rfl rfl q13248 (Sub.refl _) ?_)
      intro v13252 q13253
      obtain rfl := encInt_val.1 q13253
      obtain ⟨y13256, q13255, hm13163⟩ := bind_some hm13163
      refine WL_step rfl rfl (Exec.call rfl rfl Tryd.func41 rfl N41 (args_cons rfl args_nil) ((strconv_Itoa_sim q13255 hS13228 ).mono ?_))
      rintro _ w13257 ⟨_, rfl, ⟨s13258, l13259, hS13260, rfl⟩⟩
      refine ⟨_, rfl, ?_⟩
      obtain ⟨l13261, q13262, hm13163⟩ := bind_some hm13163
      refine WL_step rfl rfl (Exec.call rfl rfl Tryd.func40 rfl N40 (args_cons rfl (args_cons rfl args_nil)) ((bld_write_sim q13262 hS13260).mono ?_))
      rintro _ w13263 ⟨_, rfl, rfl, hS13264⟩
      refine ⟨_, rfl, ?_⟩
      refine WL_nil (at_normal ?_)
      refine W_seq ?_
      refine W_seq ?_
      refine W_region ?_
      refine WL_step rfl rfl (Exec.move (v := h13185) rfl rfl ?_)
      obtain ⟨row13284, q13285, hm13163⟩ := bind_some hm13163
      have hS13286 := ((((hS13264).f2).f2).f1).rows_split e13187 (idx_some q13285).2.2
      obtain ⟨t13287, q13288, hm13163⟩ := bind_some hm13163
      obtain ⟨y13289, l13290⟩ := t13287
      replace hm13163 := un2_eq hm13163
      refine WL_step rfl rfl (Exec.call rfl rfl Tryd.func60 rfl N60 (args_cons rfl args_nil) ((slices_Compact____2_int__2_int__o_sim q13288 hS13286 ).mono ?_))
      rintro _ w13291 ⟨v13295, rfl, ⟨s13292, _, l13293, hS13294, rfl, r13296⟩⟩
      refine ⟨_, rfl, ?_⟩
      obtain ⟨l13297, q13298, hm13163⟩ := bind_some hm13163
      have hS13299 := ((hS13294).f2).f2
      have hS13300 := (hS13299).f2
      have hS13301 := (hS13300).rows_back e13187 (setI_some q13298).2.1
      rw [← (setI_some q13298).2.2] at hS13301
      have hS13302 := (hS13301).f1
      refine WL_step rfl rfl (Exec.len_sub S91 r13296 rfl rfl ?_)
      refine WL_step rfl rfl (Exec.move (v := Value.int .i64 (0)) rfl rfl ?_)
      refine WL_nil (at_normal ?_)
      obtain ⟨u13303, q13304, hm13163⟩ := bind_some hm13163
      obtain ⟨l13439, hB13574, hm13163⟩ := bind_some hm13163
      refine W_block (W_forS (fun k' s' f' w' => (fun (l13439 : (List Int)) => ∃ (s13575 : PHeap) , PHeap.le s13292 s13575 ∧ St w0 s13575 (Res.arr (encInt .i64) 3 v2789 class2788 :: Res.arr encStr 9 v11920 l12535 :: Res.bld 71 5 b13225 l13439 :: Res.arr encRaw 91 v11404 hs11565 :: Res.rows encArr2_int 92 hs11565 l13297 :: H) w' ∧ f' 1 = v2789 ∧ f' 9 = v11920 ∧ f' 10 = Value.int .i64 ((i11923 : Int)) ∧ f' 12 = Value.pointer (some ⟨b13225, 0, none⟩) ∧ f' 48 = v11404 ∧ f' 49 = Value.int .i64 ((l11564.length : Int)) ∧ f' 50 = Value.int .i64 ((i11923 : Int)) ∧ f' 64 = v13295 ∧ f' 65 = Value.int .i64 ((y13289 : Int)) ∧ f' 66 = Value.int .i64 (k' : Int)) s') hB13574 ?_ ?_ ?_)
      · have hS13576 := (hS13302).f2
        have hS13577 := (hS13576).f4
        have hS13578 := (hS13577).f4
        exact ⟨s13292, (PHeap.le_refl _), hS13578, p13168, p13169, rfl, rfl, p13170, p13171, x13172, rfl, rfl, rfl⟩
      · intro i13305 l13439 s13580 f13581 w13582 hi13583 hI13584 hm13585
        obtain ⟨s13586, l13587, hS13588, p13589, p13590, p13591, p13592, p13593, p13594, p13595, p13596, p13597, x13598⟩ := hI13584
        refine W_seq ?_
        refine W_region ?_
        refine WL_step rfl rfl (Exec.lss rfl x13598 p13597 ?_)
        refine WL_nil (at_normal ?_)
        refine W_seq ?_
        refine W_true (congrArg Value.bool (decide_eq_true (by omega))) ?_
        refine W_skip (at_normal ?_)
        refine W_seq ?_
        refine W_block ?_
        refine W_seq ?_
        refine W_region ?_
        obtain ⟨row13613, q13614, hm13585⟩ := bind_some hm13585
        obtain ⟨x13615, q13616, hm13585⟩ := bind_some hm13585
        obtain ⟨g13617, c13618, e13619⟩ := (((((hS13588).f4).f4).f1).rows_split e13187 (idx_some q13614).2.2).arr_at (idxV_some q13616).2.2
        refine WL_step rfl rfl (Exec.index_sub S91 (Int.le_refl 0) r13296 e13619 rfl p13596 x13598 (idxV_some q13616).1 (idxV_some q13616).2.1 ?_)
        refine WL_step rfl rfl (Exec.load_arr (F := encArr2_int) (((((hS13588).f4).f4).f1).rows_split e13187 (idx_some q13614).2.2) e13619 A92 rfl rfl rfl (idxV_some q13616).2.2 (Sub.refl _) ?_)
        intro v13620 q13621
        obtain rfl := encArr2_int_val.1 q13621
        refine WL_step rfl rfl (Exec.alloc (cs := [Value.int .i64 (0), Value.int .i64 (0)]) hS13588 Z92 rfl rfl ?_)
        intro b13622 w13623 hS13624
        refine WL_step rfl rfl (Exec.store_box (ds := [Value.int .i64 (x13615.a0), Value.int .i64 (x13615.a1)]) (es := [Value.int .i64 (x13615.a0), Value.int .i64 (x13615.a1)]) hS13624 A92 rfl rfl rfl rfl (one_cons rfl (one_cons rfl one_nil)) (Nat.le_of_ble_eq_true rfl) rfl ?_)
        intro w13625 hS13626
        refine WL_nil (at_normal ?_)
        refine W_dl (n0 := 10) (.q 0 (.q 1 (.q 5 (.q 6 (.e 2 [5, 6] (.q 3 (.q 4 (.e 7 [3, 4] (.q 8 (.e 9 [] .done)))))))))) hmix (by kernel_rfl) (by kernel_rfl) ?_
        have hS13705 := hS13626.drew
        refine DL_q rfl rfl (Exec.index_parr Tryd.underlying92 A3 rfl rfl rfl (by decide) rfl ⟨rfl, ?_⟩)
        refine DL_q rfl rfl (Exec.load_box (hS13705) A3 rfl rfl rfl ⟨rfl, ?_⟩)
        refine DL_q rfl rfl (Exec.index_parr Tryd.underlying92 A3 rfl rfl rfl (by decide) rfl ⟨rfl, ?_⟩)
        refine DL_q rfl rfl (Exec.load_box (hS13705) A3 rfl rfl rfl ⟨rfl, ?_⟩)
        obtain ⟨y13708, q13707, hm13585⟩ := bind_some hm13585
        refine DL_e rfl rfl (Exec.call rfl rfl Tryd.func41 rfl N41 (args_cons rfl args_nil) ((strconv_Itoa_sim q13707 hS13705 ).mono ?_))
        rintro _ w13709 ⟨_, rfl, ⟨s13710, l13711, hS13712, rfl⟩⟩
        refine ⟨_, rfl, ?_⟩
        refine ⟨(ag_cons (ag_r rfl rfl (Exec.index_parr Tryd.underlying92 A3 rfl rfl rfl (by decide) rfl ⟨rfl, rfl⟩)) (ag_cons (ag_r rfl rfl (Exec.load_box (hS13712) A3 rfl rfl rfl ⟨rfl, rfl⟩)) ag_nil)), ?_⟩
        obtain ⟨c13713, q13714, hm13585⟩ := bind_some hm13585
        refine DL_q rfl rfl (Exec.str_add rfl rfl rfl q13714 ⟨rfl, ?_⟩)
        obtain ⟨c13715, q13716, hm13585⟩ := bind_some hm13585
        refine DL_q rfl rfl (Exec.str_add rfl rfl rfl q13716 ⟨rfl, ?_⟩)
        obtain ⟨y13719, q13718, hm13585⟩ := bind_some hm13585
        refine DL_e rfl rfl (Exec.call rfl rfl Tryd.func41 rfl N41 (args_cons rfl args_nil) ((strconv_Itoa_sim q13718 hS13712 ).mono ?_))
        rintro _ w13720 ⟨_, rfl, ⟨s13721, l13722, hS13723, rfl⟩⟩
        refine ⟨_, rfl, ?_⟩
        refine ⟨(ag_cons (ag_r rfl rfl (Exec.str_add rfl rfl rfl q13714 ⟨rfl, rfl⟩)) (ag_cons (ag_r rfl rfl (Exec.str_add rfl rfl rfl q13716 ⟨rfl, rfl⟩)) ag_nil)), ?_⟩
        obtain ⟨c13724, q13725, hm13585⟩ := bind_some hm13585
        refine DL_q rfl rfl (Exec.str_add rfl rfl rfl q13725 ⟨rfl, ?_⟩)
        obtain ⟨l13726, q13727, hm13585⟩ := bind_some hm13585
        have hS13728 := (hS13723).f3
        refine DL_e rfl rfl (Exec.call rfl rfl Tryd.func40 rfl N40 (args_cons p13592 (args_cons rfl args_nil)) ((bld_write_sim q13727 hS13728).mono ?_))
        rintro _ w13729 ⟨_, rfl, rfl, hS13730⟩
        refine ⟨_, rfl, ?_⟩
        refine ⟨ag_nil, ?_⟩
        refine DL_done ?_
        refine WL_nil (ib_normal (at_normal ?_))
        refine W_region ?_
        refine WL_step rfl rfl (Exec.add rfl x13598 rfl ?_)
        refine WL_step rfl rfl (Exec.move (v := Value.int .i64 (IntKind.i64.wrap ((i13305 : Int) + 1))) rfl rfl ?_)
        refine WL_nil (at_normal ?_)
        have e13731 := Option.some.inj hm13585
        subst s13580
        have hS13732 := ((hS13730).f1).drop
        have hS13733 := ((hS13732).f4).f4
        have hS13734 := (hS13733).f2
        have hS13735 := (hS13734).f4
        have hS13736 := (hS13735).f4
        exact ⟨s13721, (PHeap.le.trans (PHeap.le.trans l13587 l13711) l13722), hS13736, p13589, p13590, p13591, p13592, p13593, p13594, p13595, p13596, p13597, (Eq.trans rfl (wrap_up hi13583 (by have h := must_some q13304; simp at h; simp only [maxLen]; omega)))⟩
      · intro f13737 w13738 hI13739
        obtain ⟨s13740, l13741, hS13742, p13743, p13744, p13745, p13746, p13747, p13748, p13749, p13750, p13751, x13752⟩ := hI13739
        refine W_seq ?_
        refine W_region ?_
        refine WL_step rfl rfl (Exec.lss rfl x13752 p13751 ?_)
        refine WL_nil (at_normal ?_)
        refine W_seq ?_
        refine W_false (congrArg Value.bool (decide_eq_false (by omega))) ?_
        refine W_exit (at_exit (at_exit (ib_here (at_normal ?_))))
        refine W_region ?_
        refine WL_step rfl rfl (Exec.move (v := v11920) rfl p13744 ?_)
        refine WL_step rfl rfl (Exec.move (v := Value.int .i64 ((i11923 : Int))) rfl p13745 ?_)
        obtain ⟨q13768, q13769, hm13163⟩ := bind_some hm13163
        have hS13770 := (hS13742).f2
        refine WL_step rfl rfl (Exec.call rfl rfl Tryd.func42 rfl N42 (args_cons p13746 args_nil) ((bld_string_sim q13769 hS13770).mono ?_))
        rintro _ w13771 ⟨_, rfl, rfl, hS13772⟩
        refine ⟨_, rfl, ?_⟩
        obtain ⟨x13773, q13774, hm13163⟩ := bind_some hm13163
        obtain ⟨g13775, c13776, e13777⟩ := ((hS13772).f1).arr_at q13774
        refine WL_step rfl rfl (Exec.index_slice S54 rfl e13777 rfl (idx_some q13774).1 (idx_some q13774).2.1 ?_)
        obtain ⟨l13778, q13779, hm13163⟩ := bind_some hm13163
        have hS13780 := (hS13772).f1
        refine WL_step rfl rfl (Exec.store_arr hS13780 e13777 A9 rfl rfl rfl rfl (encStr_val.2 rfl) q13779 ?_)
        intro w13781 hS13782
        refine WL_nil (ib_normal (at_normal ?_))
        refine W_region ?_
        refine WL_step rfl rfl (Exec.add rfl p13749 rfl ?_)
        refine WL_step rfl rfl (Exec.move (v := Value.int .i64 (IntKind.i64.wrap ((i11923 : Int) + 1))) rfl rfl ?_)
        refine WL_nil (at_normal ?_)
        have e13783 := Option.some.inj hm13163
        subst s13158
        have hS13784 := ((hS13782).f3).f3
        have hS13785 := (hS13784).f2
        have hS13786 := (hS13785).f3
        exact ⟨s13740, (PHeap.le.trans (PHeap.le.trans (PHeap.le.trans (PHeap.le.trans l13166 l13213) l13259) l13293) l13741), hS13786, p13743, p13744, p13747, p13748, (Eq.trans rfl (wrap_up hi13161 (by have h := (((hS11922).f4).f4).f1.rows_len; have h2 := (((hS11922).f4).f4).arr_le; omega)))⟩
    · intro f13787 w13788 hI13789
      obtain ⟨l12535, l12536⟩ := t13150
      replace hm := un2_eq hm
      obtain ⟨s13790, l13791, hS13792, p13793, p13794, p13795, p13796, x13797⟩ := hI13789
      refine W_seq ?_
      refine W_region ?_
      refine WL_step rfl rfl (Exec.lss rfl x13797 p13796 ?_)
      refine WL_nil (at_normal ?_)
      refine W_seq ?_
      refine W_false (congrArg Value.bool (decide_eq_false (by omega))) ?_
      refine W_exit (at_exit (at_exit (ib_here (at_normal ?_))))
      refine W_seq ?_
      refine W_region ?_
      refine WL_step rfl rfl (Exec.move (v := v11920) rfl p13794 ?_)
      obtain ⟨t13808, q13809, hm⟩ := bind_some hm
      obtain ⟨y13810, y13811⟩ := t13808
      replace hm := un2_eq hm
      have hS13812 := (hS13792).f1
      refine WL_step rfl rfl (Exec.call rfl rfl Tryd.func30 rfl N30 (args_cons rfl args_nil) ((shrink_numbered_o_sim q13809 hS13812 ).mono ?_))
      rintro _ w13813 ⟨_, rfl, ⟨s13814, v13817, l13815, hS13816, rfl⟩⟩
      refine ⟨_, rfl, ?_⟩
      refine WL_step rfl rfl (Exec.extract (v := v13817) rfl rfl rfl ?_)
      refine WL_step rfl rfl (Exec.extract (v := Value.int .i64 (y13811)) rfl rfl rfl ?_)
      refine WL_step rfl rfl (Exec.assign (v := v13817) rfl rfl ?_)
      refine WL_step rfl rfl (Exec.assign (v := Value.int .i64 (y13811)) rfl rfl ?_)
      refine WL_nil (at_normal ?_)
      refine W_ret ?_
      have e13819 := Option.some.inj hm
      subst r
      refine ⟨_, ret2 rfl, ?_⟩
      have hS13820 := (hS13816).drop
      have hS13821 := ((((hS13820).f3).f3).drop).drop
      have hS13822 := (hS13821).f1
      exact ⟨s13814, v13817, (PHeap.le.trans (PHeap.le.trans l11905 l13791) l13815), hS13822, (tup2 rfl rfl)⟩

theorem N12 : (Tryd.f12.name == "runtime.NumGoroutine") = false := by kernel_rfl

theorem shrink_Bisimulation_sim {w0 w : World} {s : PHeap} {H : List Res} {x61 : System} {v62 : Value} {v64 : Value} {v66 : Value} {r : (List Int) × (Option Int)} (hm : shrink_Bisimulation_p x61 = some r) (hS : St w0 s (H) w) (a63 : SliceRep (encInt .i64) s v62 x61.Costs) (a65 : SliceRep encEdge s v64 x61.Edges) (a67 : SliceRep encBool s v66 x61.Goals) :
    Calls Tryd.prog 12 #[Value.agg #[Value.int .i64 (x61.States), Value.int .i64 (x61.Init), v62, v64, v66]] w fun e w' => ∃ v, e = .returned v ∧ ((un2 fun (y13956 : (List Int)) (y13957 : (Option Int)) => ∃ (s13959 : PHeap) (v13958 : Value), PHeap.le s s13959 ∧ St w0 s13959 (Res.arr (encInt .i64) 3 v13958 y13956 :: H) w' ∧ v = Value.tuple #[v13958, errV 34 (y13957)]) r) := by
  unfold shrink_Bisimulation_p at hm
  refine calls_of_W Tryd.func12 rfl rfl ?_
  refine W_seq ?_
  refine W_region ?_
  refine WL_step rfl rfl (Exec.box (cs := [Value.int .i64 (x61.States), Value.int .i64 (x61.Init), v62, v64, v66]) hS rfl rfl rfl ?_)
  intro b13963 w13964 hS13965
  refine WL_step rfl rfl (Exec.assign (v := Value.slice none 0 0) rfl rfl ?_)
  refine WL_step rfl rfl (Exec.assign (v := errV 34 (none)) rfl rfl ?_)
  refine WL_nil (at_normal ?_)
  refine W_seq ?_
  refine W_seq ?_
  refine W_region ?_
  refine WL_step rfl rfl (Exec.load_box_agg (ds := [Value.int .i64 (x61.States), Value.int .i64 (x61.Init), v62, v64, v66]) (hS13965) A26 rfl rfl rfl ?_)
  obtain ⟨y13975, q13974, hm⟩ := bind_some hm
  refine WL_step rfl rfl (Exec.call rfl rfl Tryd.func22 rfl N22 (args_cons rfl args_nil) ((transys_Valid_sim q13974 hS13965 a63 a65 a67).mono ?_))
  rintro _ w13976 ⟨_, rfl, ⟨s13977, l13978, hS13979, rfl⟩⟩
  refine ⟨_, rfl, ?_⟩
  refine WL_step rfl rfl (Exec.not rfl rfl ?_)
  refine WL_nil (at_normal ?_)
  rcases ite_some hm with ⟨hc13980, hm⟩ | ⟨hc13980, hm⟩
  · refine W_cond_t rfl hc13980 ?_
    refine W_seq ?_
    refine W_region ?_
    refine WL_step rfl rfl (Exec.makeInterface C34 rfl rfl ?_)
    refine WL_step rfl rfl (Exec.assign (v := Value.slice none 0 0) rfl rfl ?_)
    refine WL_step rfl rfl (Exec.assign (v := errV 34 (some 2)) rfl rfl ?_)
    refine WL_nil (at_normal ?_)
    refine W_ret (at_ret ?_)
    have e13982 := Option.some.inj hm
    subst r
    refine ⟨_, ret2 rfl, ?_⟩
    have hS13983 := hS13979.nilArr (encInt .i64) 3
    have hS13984 := ((hS13983).f1).drop
    exact ⟨s13977, (Value.slice none 0 0), l13978, hS13984, (tup2 rfl rfl)⟩
  · refine W_cond_f rfl hc13980 ?_
    replace hc13980 := not_true hc13980
    refine W_skip (at_normal ?_)
    refine W_seq ?_
    refine W_region ?_
    refine WL_step rfl rfl (Exec.field F26_0 rfl rfl rfl ?_)
    refine WL_step rfl rfl (Exec.load_box (hS13979) A3 rfl rfl rfl ?_)
    obtain ⟨l13990, q13991, hm⟩ := bind_some hm
    refine WL_step rfl rfl (Exec.make (E := encStr) hS13979 S54 Z9 rfl rfl rfl rfl q13991 ?_)
    intro v13992 w13993 hS13994
    refine WL_step rfl rfl (Exec.assign (v := v13992) rfl rfl ?_)
    refine WL_nil (at_normal ?_)
    refine W_seq ?_
    refine W_seq ?_
    refine W_region ?_
    refine WL_step rfl rfl (Exec.field F26_4 rfl rfl rfl ?_)
    refine WL_step rfl rfl (Exec.load_box ((hS13994).f1) A24 rfl rfl rfl ?_)
    refine WL_step rfl rfl (Exec.len_rep S24 rfl rfl (a67.mono l13978) ?_)
    refine WL_step rfl rfl (Exec.move (v := Value.int .i64 (0)) rfl rfl ?_)
    refine WL_nil (at_normal ?_)
    obtain ⟨l14039, hB14084, hm⟩ := bind_some hm
    refine W_block (W_forS (fun k' s' f' w' => (fun (l14039 : (List ByteArray)) => ∃ (s14085 : PHeap) , PHeap.le s13977 s14085 ∧ St w0 s14085 (Res.box b13963 26 [Value.int .i64 (x61.States), Value.int .i64 (x61.Init), v62, v64, v66] :: Res.arr encStr 9 v13992 l14039 :: H) w' ∧ f' 1 = Value.pointer (some ⟨b13963, 0, none⟩) ∧ f' 4 = v13992 ∧ f' 19 = v66 ∧ f' 20 = Value.int .i64 ((x61.Goals.length : Int)) ∧ f' 21 = Value.int .i64 (k' : Int)) s') hB14084 ?_ ?_ ?_)
    · have hS14086 := (hS13994).f1
      exact ⟨s13977, (PHeap.le_refl _), hS14086, rfl, rfl, rfl, rfl, rfl⟩
    · intro i13995 l14039 s14088 f14089 w14090 hi14091 hI14092 hm14093
      obtain ⟨s14094, l14095, hS14096, p14097, p14098, p14099, p14100, x14101⟩ := hI14092
      refine W_seq ?_
      refine W_region ?_
      refine WL_step rfl rfl (Exec.lss rfl x14101 p14100 ?_)
      refine WL_nil (at_normal ?_)
      refine W_seq ?_
      refine W_true (congrArg Value.bool (decide_eq_true (by omega))) ?_
      refine W_skip (at_normal ?_)
      refine W_seq ?_
      refine W_block ?_
      refine W_seq ?_
      refine W_region ?_
      refine WL_step rfl rfl (Exec.move (v := Value.int .i64 ((i13995 : Int))) rfl x14101 ?_)
      obtain ⟨x14109, q14110, hm14093⟩ := bind_some hm14093
      refine WL_step rfl rfl (Exec.index_rep S24 rfl p14099 x14101 (a67.mono (PHeap.le.trans l13978 l14095)) q14110 ?_)
      intro b14111 o14112 a14113
      refine WL_step rfl rfl (Exec.load_at (E := encBool) hS14096 A4 rfl rfl rfl a14113 ?_)
      intro v14114 q14115
      obtain rfl := encBool_val.1 q14115
      refine WL_step rfl rfl (Exec.assign (v := Value.int .i64 ((i13995 : Int))) rfl rfl ?_)
      refine WL_step rfl rfl (Exec.assign (v := Value.bool (x14109)) rfl rfl ?_)
      refine WL_nil (at_normal ?_)
      refine W_region ?_
      refine WL_step rfl rfl (Exec.move (v := v13992) rfl p14098 ?_)
      refine WL_step rfl rfl (Exec.move (v := Value.int .i64 ((i13995 : Int))) rfl rfl ?_)
      refine WL_step rfl rfl (Exec.move (v := Value.bool (x14109)) rfl rfl ?_)
      refine WL_step rfl rfl (Exec.call rfl rfl Tryd.func29 rfl N29 (args_cons rfl args_nil) ((strconv_FormatBool_sim (strconv_FormatBool_tot x14109) hS14096 ).mono ?_))
      rintro _ w14130 ⟨_, rfl, ⟨s14131, l14132, hS14133, rfl⟩⟩
      refine ⟨_, rfl, ?_⟩
      obtain ⟨x14134, q14135, hm14093⟩ := bind_some hm14093
      obtain ⟨g14136, c14137, e14138⟩ := ((hS14133).f1).arr_at q14135
      refine WL_step rfl rfl (Exec.index_slice S54 rfl e14138 rfl (idx_some q14135).1 (idx_some q14135).2.1 ?_)
      obtain ⟨l14139, q14140, hm14093⟩ := bind_some hm14093
      have hS14141 := (hS14133).f1
      refine WL_step rfl rfl (Exec.store_arr hS14141 e14138 A9 rfl rfl rfl rfl (encStr_val.2 rfl) q14140 ?_)
      intro w14142 hS14143
      refine WL_nil (ib_normal (at_normal ?_))
      refine W_region ?_
      refine WL_step rfl rfl (Exec.add rfl x14101 rfl ?_)
      refine WL_step rfl rfl (Exec.move (v := Value.int .i64 (IntKind.i64.wrap ((i13995 : Int) + 1))) rfl rfl ?_)
      refine WL_nil (at_normal ?_)
      have e14144 := Option.some.inj hm14093
      subst s14088
      have hS14145 := (hS14143).f1
      exact ⟨s14131, (PHeap.le.trans l14095 l14132), hS14145, p14097, p14098, p14099, p14100, (Eq.trans rfl (wrap_up hi14091 (SliceRep.le (a67.mono l13978))))⟩
    · intro f14146 w14147 hI14148
      obtain ⟨s14149, l14150, hS14151, p14152, p14153, p14154, p14155, x14156⟩ := hI14148
      refine W_seq ?_
      refine W_region ?_
      refine WL_step rfl rfl (Exec.lss rfl x14156 p14155 ?_)
      refine WL_nil (at_normal ?_)
      refine W_seq ?_
      refine W_false (congrArg Value.bool (decide_eq_false (by omega))) ?_
      refine W_exit (at_exit (at_exit (ib_here (at_normal ?_))))
      refine W_seq ?_
      refine W_region ?_
      refine WL_step rfl rfl (Exec.move (v := v13992) rfl p14153 ?_)
      obtain ⟨t14167, q14168, hm⟩ := bind_some hm
      obtain ⟨y14169, y14170⟩ := t14167
      replace hm := un2_eq hm
      have hS14171 := (hS14151).f1
      refine WL_step rfl rfl (Exec.call rfl rfl Tryd.func30 rfl N30 (args_cons rfl args_nil) ((shrink_numbered_o_sim q14168 hS14171 ).mono ?_))
      rintro _ w14172 ⟨_, rfl, ⟨s14173, v14176, l14174, hS14175, rfl⟩⟩
      refine ⟨_, rfl, ?_⟩
      refine WL_step rfl rfl (Exec.move (v := Value.tuple #[v14176, Value.int .i64 (y14170)]) rfl rfl ?_)
      refine WL_step rfl rfl (Exec.extract (v := v14176) rfl rfl rfl ?_)
      refine WL_step rfl rfl (Exec.extract (v := Value.int .i64 (y14170)) rfl rfl rfl ?_)
      refine WL_step rfl rfl (Exec.assign (v := v14176) rfl rfl ?_)
      refine WL_step rfl rfl (Exec.assign (v := Value.int .i64 (y14170)) rfl rfl ?_)
      refine WL_nil (at_normal ?_)
      obtain ⟨c14252, hB14253, hr14254, hn14255, hb14256⟩ := ctl_some hm
      refine W_mid (M := fun f' w' => ∃ s', (c14252 = .next s' ∨ c14252 = .brk s') ∧ (un2 fun (class14249 : (List Int)) (n14250 : Int) => ∃ (s14258 : PHeap) (v14251 : Value), PHeap.le s14173 s14258 ∧ St w0 s14258 (Res.box b13963 26 [Value.int .i64 (x61.States), Value.int .i64 (x61.Init), v62, v64, v66] :: Res.arr (encInt .i64) 3 v14251 class14249 :: H) w' ∧ f' 1 = Value.pointer (some ⟨b13963, 0, none⟩) ∧ f' 7 = v14251 ∧ f' 8 = Value.int .i64 (n14250)) s') ?_ ?_
      · refine W_block (W_while (fun s' f' w' => (un2 fun (class14199 : (List Int)) (n14201 : Int) => ∃ (s14257 : PHeap) (v14200 : Value), PHeap.le s14173 s14257 ∧ St w0 s14257 (Res.box b13963 26 [Value.int .i64 (x61.States), Value.int .i64 (x61.Init), v62, v64, v66] :: Res.arr (encInt .i64) 3 v14200 class14199 :: H) w' ∧ f' 1 = Value.pointer (some ⟨b13963, 0, none⟩) ∧ f' 7 = v14200 ∧ f' 8 = Value.int .i64 (n14201)) s') hB14253 ?_ ?_)
        · have hS14259 := (hS14175).drop
          have hS14260 := (hS14259).f1
          exact ⟨s14173, v14176, (PHeap.le_refl _), hS14260, p14152, rfl, rfl⟩
        · intro t14268 c14262 f14263 w14264 hI14265 hm14266 hres14267
          obtain ⟨class14199, n14201⟩ := t14268
          replace hm14266 := un2_eq hm14266
          obtain ⟨s14269, v14200, l14270, hS14271, p14272, p14273, p14274⟩ := hI14265
          refine W_block ?_
          refine W_seq ?_
          refine W_region ?_
          refine WL_step rfl rfl (Exec.load_box_agg (ds := [Value.int .i64 (x61.States), Value.int .i64 (x61.Init), v62, v64, v66]) (hS14271) A26 rfl p14272 rfl ?_)
          refine WL_step rfl rfl (Exec.move (v := v14200) rfl p14273 ?_)
          obtain ⟨t14285, q14286, hm14266⟩ := bind_some hm14266
          obtain ⟨y14287, y14288⟩ := t14285
          replace hm14266 := un2_eq hm14266
          have hS14289 := (hS14271).f1
          refine WL_step rfl rfl (Exec.call rfl rfl Tryd.func31 rfl N31 (args_cons rfl (args_cons rfl args_nil)) ((shrink_refine_o_sim q14286 hS14289 (a63.mono (PHeap.le.trans (PHeap.le.trans (PHeap.le.trans l13978 l14150) l14174) l14270)) (a65.mono (PHeap.le.trans (PHeap.le.trans (PHeap.le.trans l13978 l14150) l14174) l14270)) (a67.mono (PHeap.le.trans (PHeap.le.trans (PHeap.le.trans l13978 l14150) l14174) l14270))).mono ?_))
          rintro _ w14290 ⟨_, rfl, ⟨s14291, v14294, l14292, hS14293, rfl⟩⟩
          refine ⟨_, rfl, ?_⟩
          refine WL_step rfl rfl (Exec.move (v := Value.tuple #[v14294, Value.int .i64 (y14288)]) rfl rfl ?_)
          refine WL_step rfl rfl (Exec.extract (v := v14294) rfl rfl rfl ?_)
          refine WL_step rfl rfl (Exec.extract (v := Value.int .i64 (y14288)) rfl rfl rfl ?_)
          refine WL_step rfl rfl (Exec.assign (v := v14294) rfl rfl ?_)
          refine WL_step rfl rfl (Exec.assign (v := Value.int .i64 (y14288)) rfl rfl ?_)
          refine WL_nil (at_normal ?_)
          refine W_seq ?_
          refine W_region ?_
          refine WL_step rfl rfl (Exec.move (v := v14294) rfl rfl ?_)
          refine WL_step rfl rfl (Exec.assign (v := v14294) rfl rfl ?_)
          refine WL_nil (at_normal ?_)
          refine W_seq ?_
          refine W_seq ?_
          refine W_region ?_
          refine WL_step rfl rfl (Exec.move (v := Value.int .i64 (y14288)) rfl rfl ?_)
          refine WL_step rfl rfl (Exec.move (v := Value.int .i64 (n14201)) rfl p14274 ?_)
          refine WL_step rfl rfl (Exec.eql rfl rfl rfl ?_)
          refine WL_nil (at_normal ?_)
          rcases ite_some hm14266 with ⟨hc14295, hm14266⟩ | ⟨hc14295, hm14266⟩
          · refine W_cond_t rfl hc14295 ?_
            refine W_seq ?_
            refine W_region ?_
            refine WL_step rfl rfl (Exec.move (v := v14294) rfl rfl ?_)
            refine WL_step rfl rfl (Exec.assign (v := v14294) rfl rfl ?_)
            refine WL_step rfl rfl (Exec.assign (v := errV 34 (none)) rfl rfl ?_)
            refine WL_nil (at_normal ?_)
            refine W_ret (at_ret (ib_ret (at_ret (ib_ret (at_ret ?_)))))
            have e14296 := Option.some.inj hm14266
            subst c14262
            have hq14297 := hr14254 _ (hres14267 (by intro _ h; cases h))
            have e14298 := Option.some.inj hq14297
            subst r
            refine ⟨_, ret2 rfl, ?_⟩
            have hS14299 := (hS14293).drop
            have hS14300 := ((hS14299).f1).drop
            exact ⟨s14291, v14294, (PHeap.le.trans (PHeap.le.trans (PHeap.le.trans (PHeap.le.trans l13978 l14150) l14174) l14270) l14292), hS14300, (tup2 rfl rfl)⟩
          · refine W_cond_f rfl hc14295 ?_
            replace hc14295 := not_true hc14295
            refine W_skip (at_normal ?_)
            refine W_region ?_
            refine WL_step rfl rfl (Exec.move (v := Value.int .i64 (y14288)) rfl rfl ?_)
            refine WL_step rfl rfl (Exec.assign (v := Value.int .i64 (y14288)) rfl rfl ?_)
            refine WL_nil (ib_normal (at_normal ?_))
            have e14301 := Option.some.inj hm14266
            subst c14262
            have hS14302 := (hS14293).drop
            have hS14303 := (hS14302).f1
            refine ⟨_, rfl, ?_⟩; exact ⟨s14291, v14294, (PHeap.le.trans l14270 l14292), hS14303, p14272, rfl, rfl⟩
      · rintro f14304 w14305 ⟨t14306, hc14307, hM14308⟩
        have hm := hc14307.elim (hn14255 _) (hb14256 _)
        clear hc14307
        obtain ⟨class14249, n14250⟩ := t14306
        replace hm := un2_eq hm
        obtain ⟨s14309, v14251, l14310, hS14311, p14312, p14313, p14314⟩ := hM14308
        refine ?_
        cases hm

theorem N33 : (Tryd.f33.name == "runtime.NumGoroutine") = false := by kernel_rfl

theorem slices_Max___int_int__o_sim {w0 w : World} {s : PHeap} {H : List Res} {x14384 : (List Int)} {v14385 : Value} {r : Int} (hm : slices_Max___int_int__o_p x14384 = some r) (hS : St w0 s (Res.arr (encInt .i64) 3 v14385 x14384 :: H) w)  :
    Calls Tryd.prog 33 #[v14385] w fun e w' => ∃ v, e = .returned v ∧ ((fun (y14517 : Int) => ∃ (s14518 : PHeap) , PHeap.le s s14518 ∧ St w0 s14518 (Res.arr (encInt .i64) 3 v14385 x14384 :: H) w' ∧ v = Value.int .i64 (y14517)) r) := by
  unfold slices_Max___int_int__o_p at hm
  refine calls_of_W Tryd.func33 rfl rfl ?_
  refine W_seq ?_
  refine W_region ?_
  refine WL_step rfl rfl (Exec.assign (v := Value.int .i64 (0)) rfl rfl ?_)
  refine WL_nil (at_normal ?_)
  refine W_seq ?_
  refine W_seq ?_
  refine W_region ?_
  refine WL_step rfl rfl (Exec.move (v := v14385) rfl rfl ?_)
  refine WL_step rfl rfl (Exec.len_arr (hS) S22 rfl rfl ?_)
  refine WL_step rfl rfl (Exec.lss rfl rfl rfl ?_)
  refine WL_nil (at_normal ?_)
  obtain ⟨t14519, ht14520, hm⟩ := bind_some hm
  refine W_mid (M := fun f' w' => (fun (_ : Unit) => ∃ (s14521 : PHeap) , PHeap.le s s14521 ∧ St w0 s14521 (Res.arr (encInt .i64) 3 v14385 x14384 :: H) w' ∧ f' 0 = v14385) t14519) ?_ ?_
  · rcases ite_some ht14520 with ⟨hc14522, ht14520⟩ | ⟨hc14522, ht14520⟩
    · refine W_cond_t rfl hc14522 ?_
      cases ht14520
    · refine W_cond_f rfl hc14522 ?_
      replace hc14522 := not_true hc14522
      refine W_skip (at_normal ?_)
      have e14523 := Option.some.inj ht14520
      subst t14519
      exact ⟨s, (PHeap.le_refl _), hS, rfl⟩
  · intro f14524 w14525 hM14526
    obtain ⟨s14527, l14528, hS14529, p14530⟩ := hM14526
    refine (at_normal ?_)
    refine W_seq ?_
    refine W_region ?_
    refine WL_step rfl rfl (Exec.move (v := v14385) rfl p14530 ?_)
    obtain ⟨x14538, q14539, hm⟩ := bind_some hm
    obtain ⟨g14540, c14541, e14542⟩ := (hS14529).arr_at q14539
    refine WL_step rfl rfl (Exec.index_slice S22 rfl e14542 rfl (idx_some q14539).1 (idx_some q14539).2.1 ?_)
    refine WL_step rfl rfl (Exec.load_arr (F := (encInt .i64)) (hS14529) e14542 A3 rfl rfl rfl q14539 (Sub.refl _) ?_)
    intro v14543 q14544
    obtain rfl := encInt_val.1 q14544
    refine WL_step rfl rfl (Exec.assign (v := Value.int .i64 (x14538)) rfl rfl ?_)
    refine WL_nil (at_normal ?_)
    refine W_seq ?_
    refine W_seq ?_
    refine W_region ?_
    refine WL_step rfl rfl (Exec.assign (v := Value.int .i64 (1)) rfl rfl ?_)
    refine WL_nil (at_normal ?_)
    obtain ⟨c14600, hB14601, hr14602, hn14603, hb14604⟩ := ctl_some hm
    refine W_mid (M := fun f' w' => ∃ s', (c14600 = .next s' ∨ c14600 = .brk s') ∧ (un2 fun (m14598 : Int) (i14599 : Int) => ∃ (s14606 : PHeap) , PHeap.le s14527 s14606 ∧ St w0 s14606 (Res.arr (encInt .i64) 3 v14385 x14384 :: H) w' ∧ f' 0 = v14385 ∧ f' 3 = Value.int .i64 (m14598) ∧ f' 4 = Value.int .i64 (i14599)) s') ?_ ?_
    · refine W_block (W_while (fun s' f' w' => (un2 fun (m14561 : Int) (i14562 : Int) => ∃ (s14605 : PHeap) , PHeap.le s14527 s14605 ∧ St w0 s14605 (Res.arr (encInt .i64) 3 v14385 x14384 :: H) w' ∧ f' 0 = v14385 ∧ f' 3 = Value.int .i64 (m14561) ∧ f' 4 = Value.int .i64 (i14562)) s') hB14601 ?_ ?_)
      · exact ⟨s14527, (PHeap.le_refl _), hS14529, p14530, rfl, rfl⟩
      · intro t14614 c14608 f14609 w14610 hI14611 hm14612 hres14613
        obtain ⟨m14561, i14562⟩ := t14614
        replace hm14612 := un2_eq hm14612
        obtain ⟨s14615, l14616, hS14617, p14618, p14619, p14620⟩ := hI14611
        refine W_seq ?_
        refine W_seq ?_
        refine W_region ?_
        refine WL_step rfl rfl (Exec.move (v := Value.int .i64 (i14562)) rfl p14620 ?_)
        refine WL_step rfl rfl (Exec.move (v := v14385) rfl p14618 ?_)
        refine WL_step rfl rfl (Exec.len_arr (hS14617) S22 rfl rfl ?_)
        refine WL_step rfl rfl (Exec.lss rfl rfl rfl ?_)
        refine WL_nil (at_normal ?_)
        rcases ite_some hm14612 with ⟨hc14621, hm14612⟩ | ⟨hc14621, hm14612⟩
        · refine W_cond_t rfl hc14621 ?_
          refine W_skip (at_normal ?_)
          refine W_seq ?_
          refine W_block ?_
          refine W_region ?_
          refine WL_step rfl rfl (Exec.move (v := Value.int .i64 (m14561)) rfl p14619 ?_)
          refine WL_step rfl rfl (Exec.move (v := v14385) rfl p14618 ?_)
          refine WL_step rfl rfl (Exec.move (v := Value.int .i64 (i14562)) rfl p14620 ?_)
          obtain ⟨x14629, q14630, hm14612⟩ := bind_some hm14612
          obtain ⟨g14631, c14632, e14633⟩ := (hS14617).arr_at q14630
          refine WL_step rfl rfl (Exec.index_slice S22 rfl e14633 rfl (idx_some q14630).1 (idx_some q14630).2.1 ?_)
          refine WL_step rfl rfl (Exec.load_arr (F := (encInt .i64)) (hS14617) e14633 A3 rfl rfl rfl q14630 (Sub.refl _) ?_)
          intro v14634 q14635
          obtain rfl := encInt_val.1 q14635
          refine WL_step rfl rfl (Exec.max2 rfl rfl rfl ?_)
          refine WL_step rfl rfl (Exec.assign (v := Value.int .i64 (max m14561 x14629)) rfl rfl ?_)
          refine WL_nil (ib_normal (at_normal ?_))
          refine W_region ?_
          refine WL_step rfl rfl (Exec.move (v := Value.int .i64 (i14562)) rfl p14620 ?_)
          refine WL_step rfl rfl (Exec.add rfl rfl rfl ?_)
          refine WL_step rfl rfl (Exec.assign (v := Value.int .i64 (IntKind.i64.wrap (i14562 + 1))) rfl rfl ?_)
          refine WL_nil (at_normal ?_)
          have e14636 := Option.some.inj hm14612
          subst c14608
          refine ⟨_, rfl, ?_⟩; exact ⟨s14615, l14616, hS14617, p14618, rfl, rfl⟩
        · refine W_cond_f rfl hc14621 ?_
          replace hc14621 := not_true hc14621
          refine W_exit (at_exit (at_exit (ib_here (at_normal ?_))))
          have e14637 := Option.some.inj hm14612
          subst c14608
          refine ⟨_, .inr (hres14613 (by intro _ h; cases h)), ?_⟩; exact ⟨s14615, l14616, hS14617, p14618, p14619, p14620⟩
    · rintro f14638 w14639 ⟨t14640, hc14641, hM14642⟩
      have hm := hc14641.elim (hn14603 _) (hb14604 _)
      clear hc14641
      obtain ⟨m14598, i14599⟩ := t14640
      replace hm := un2_eq hm
      obtain ⟨s14643, l14644, hS14645, p14646, p14647, p14648⟩ := hM14642
      refine (at_normal ?_)
      refine W_seq ?_
      refine W_region ?_
      refine WL_step rfl rfl (Exec.move (v := Value.int .i64 (m14598)) rfl p14647 ?_)
      refine WL_step rfl rfl (Exec.assign (v := Value.int .i64 (m14598)) rfl rfl ?_)
      refine WL_nil (at_normal ?_)
      refine W_ret ?_
      have e14650 := Option.some.inj hm
      subst r
      refine ⟨_, ret1 rfl, ?_⟩
      exact ⟨s14643, (PHeap.le.trans l14528 l14644), hS14645, rfl⟩

theorem Z4 : tyZero Tryd.prog 4 = some (Value.bool false) := by kernel_rfl

theorem N34 : (Tryd.f34.name == "runtime.NumGoroutine") = false := by kernel_rfl

theorem shrink_pair_o_sim {w0 w : World} {s : PHeap} {H : List Res} {goals14863 : (List Bool)} {v14864 : Value} {r : Int × Int} (hm : shrink_pair_o_p goals14863 = some r) (hS : St w0 s (Res.arr encBool 4 v14864 goals14863 :: H) w)  :
    Calls Tryd.prog 34 #[v14864] w fun e w' => ∃ v, e = .returned v ∧ ((un2 fun (y16050 : Int) (y16051 : Int) => ∃ (s16052 : PHeap) , PHeap.le s s16052 ∧ St w0 s16052 (Res.arr encBool 4 v14864 goals14863 :: H) w' ∧ v = Value.tuple #[Value.int .i64 (y16050), Value.int .i64 (y16051)]) r) := by
  unfold shrink_pair_o_p at hm
  refine calls_of_W Tryd.func34 rfl rfl ?_
  refine W_seq ?_
  refine W_region ?_
  refine WL_step rfl rfl (Exec.assign (v := Value.int .i64 (0)) rfl rfl ?_)
  refine WL_step rfl rfl (Exec.assign (v := Value.int .i64 (0)) rfl rfl ?_)
  refine WL_nil (at_normal ?_)
  refine W_seq ?_
  refine W_seq ?_
  refine W_region ?_
  refine WL_step rfl rfl (Exec.move (v := v14864) rfl rfl ?_)
  refine WL_step rfl rfl (Exec.len_arr (hS) S24 rfl rfl ?_)
  refine WL_step rfl rfl (Exec.sub rfl rfl rfl ?_)
  refine WL_step rfl rfl (Exec.assign (v := Value.int .i64 (IntKind.i64.wrap ((goals14863.length : Int) - 1))) rfl rfl ?_)
  refine WL_nil (at_normal ?_)
  obtain ⟨c16920, hB16921, hr16922, hn16923, hb16924⟩ := ctl_some hm
  refine W_mid (M := fun f' w' => ∃ s', (c16920 = .next s' ∨ c16920 = .brk s') ∧ (fun (k16919 : Int) => ∃ (s16926 : PHeap) , PHeap.le s s16926 ∧ St w0 s16926 (Res.arr encBool 4 v14864 goals14863 :: H) w' ∧ f' 0 = v14864 ∧ f' 4 = Value.int .i64 (k16919)) s') ?_ ?_
  · refine W_block (W_while (fun s' f' w' => (fun (k16341 : Int) => ∃ (s16925 : PHeap) , PHeap.le s s16925 ∧ St w0 s16925 (Res.arr encBool 4 v14864 goals14863 :: H) w' ∧ f' 0 = v14864 ∧ f' 4 = Value.int .i64 (k16341)) s') hB16921 ?_ ?_)
    · exact ⟨s, (PHeap.le_refl _), hS, rfl, rfl⟩
    · intro k16341 c16928 f16929 w16930 hI16931 hm16932 hres16933
      obtain ⟨s16934, l16935, hS16936, p16937, p16938⟩ := hI16931
      refine W_seq ?_
      refine W_seq ?_
      refine W_region ?_
      refine WL_step rfl rfl (Exec.move (v := Value.int .i64 (k16341)) rfl p16938 ?_)
      refine WL_step rfl rfl (Exec.gtr rfl rfl rfl ?_)
      refine WL_nil (at_normal ?_)
      rcases ite_some hm16932 with ⟨hc16939, hm16932⟩ | ⟨hc16939, hm16932⟩
      · refine W_cond_t rfl hc16939 ?_
        refine W_skip (at_normal ?_)
        refine W_seq ?_
        refine W_block ?_
        refine W_seq ?_
        refine W_region ?_
        refine WL_step rfl rfl (Exec.move (v := Value.int .i64 (k16341)) rfl p16938 ?_)
        refine WL_step rfl rfl (Exec.sub rfl rfl rfl ?_)
        refine WL_step rfl rfl (Exec.assign (v := Value.int .i64 (IntKind.i64.wrap (k16341 - 1))) rfl rfl ?_)
        refine WL_nil (at_normal ?_)
        obtain ⟨c17132, hB17133, hr17134, hn17135, hb17136⟩ := ctl_some hm16932
        refine W_mid (M := fun f' w' => ∃ s', (c17132 = .next s' ∨ c17132 = .brk s') ∧ (fun (i17131 : Int) => ∃ (s17138 : PHeap) , PHeap.le s16934 s17138 ∧ St w0 s17138 (Res.arr encBool 4 v14864 goals14863 :: H) w' ∧ f' 0 = v14864 ∧ f' 4 = Value.int .i64 (k16341) ∧ f' 5 = Value.int .i64 (i17131)) s') ?_ ?_
        · refine W_block (W_while (fun s' f' w' => (fun (i17003 : Int) => ∃ (s17137 : PHeap) , PHeap.le s16934 s17137 ∧ St w0 s17137 (Res.arr encBool 4 v14864 goals14863 :: H) w' ∧ f' 0 = v14864 ∧ f' 4 = Value.int .i64 (k16341) ∧ f' 5 = Value.int .i64 (i17003)) s') hB17133 ?_ ?_)
          · exact ⟨s16934, (PHeap.le_refl _), hS16936, p16937, p16938, rfl⟩
          · intro i17003 c17140 f17141 w17142 hI17143 hm17144 hres17145
            obtain ⟨s17146, l17147, hS17148, p17149, p17150, p17151⟩ := hI17143
            refine W_seq ?_
            refine W_seq ?_
            refine W_region ?_
            refine WL_step rfl rfl (Exec.move (v := Value.int .i64 (i17003)) rfl p17151 ?_)
            refine WL_step rfl rfl (Exec.geq rfl rfl rfl ?_)
            refine WL_nil (at_normal ?_)
            rcases ite_some hm17144 with ⟨hc17152, hm17144⟩ | ⟨hc17152, hm17144⟩
            · refine W_cond_t rfl hc17152 ?_
              refine W_skip (at_normal ?_)
              refine W_seq ?_
              refine W_block ?_
              refine W_seq ?_
              refine W_dl (n0 := 9) (.q 0 (.q 1 (.q 2 (.q 3 (.q 4 (.q 5 (.q 6 (.q 7 (.q 8 .done))))))))) hmix (by kernel_rfl) (by kernel_rfl) ?_
              have hS17198 := hS17148.drew
              refine DL_q rfl rfl (Exec.move (v := v14864) rfl p17149 ⟨rfl, ?_⟩)
              refine DL_q rfl rfl (Exec.move (v := Value.int .i64 (i17003)) rfl p17151 ⟨rfl, ?_⟩)
              obtain ⟨x17199, q17200, hm17144⟩ := bind_some hm17144
              obtain ⟨g17201, c17202, e17203⟩ := (hS17198).arr_at q17200
              refine DL_q rfl rfl (Exec.index_slice S24 rfl e17203 rfl (idx_some q17200).1 (idx_some q17200).2.1 ⟨rfl, ?_⟩)
              refine DL_q rfl rfl (Exec.load_arr (F := encBool) (hS17198) e17203 A4 rfl rfl rfl q17200 (Sub.refl _) ?_)
              intro v17204 q17205
              obtain rfl := encBool_val.1 q17205
              refine ⟨rfl, ?_⟩
              refine DL_q rfl rfl (Exec.move (v := v14864) rfl p17149 ⟨rfl, ?_⟩)
              refine DL_q rfl rfl (Exec.move (v := Value.int .i64 (k16341)) rfl p17150 ⟨rfl, ?_⟩)
              obtain ⟨x17206, q17207, hm17144⟩ := bind_some hm17144
              obtain ⟨g17208, c17209, e17210⟩ := (hS17198).arr_at q17207
              refine DL_q rfl rfl (Exec.index_slice S24 rfl e17210 rfl (idx_some q17207).1 (idx_some q17207).2.1 ⟨rfl, ?_⟩)
              refine DL_q rfl rfl (Exec.load_arr (F := encBool) (hS17198) e17210 A4 rfl rfl rfl q17207 (Sub.refl _) ?_)
              intro v17211 q17212
              obtain rfl := encBool_val.1 q17212
              refine ⟨rfl, ?_⟩
              refine DL_q rfl rfl (Exec.bool_eql Tryd.underlying4 rfl rfl rfl ⟨rfl, ?_⟩)
              refine DL_done ?_
              refine WL_nil (at_normal ?_)
              rcases ite_some hm17144 with ⟨hc17213, hm17144⟩ | ⟨hc17213, hm17144⟩
              · refine W_cond_t rfl hc17213 ?_
                refine W_seq ?_
                refine W_region ?_
                refine WL_step rfl rfl (Exec.move (v := Value.int .i64 (i17003)) rfl p17151 ?_)
                refine WL_step rfl rfl (Exec.move (v := Value.int .i64 (k16341)) rfl p17150 ?_)
                refine WL_step rfl rfl (Exec.assign (v := Value.int .i64 (i17003)) rfl rfl ?_)
                refine WL_step rfl rfl (Exec.assign (v := Value.int .i64 (k16341)) rfl rfl ?_)
                refine WL_nil (at_normal ?_)
                refine W_ret (ib_ret (at_ret (at_ret (ib_ret (at_ret (ib_ret (at_ret (at_ret (ib_ret (at_ret (at_ret ?_)))))))))))
                have e17214 := Option.some.inj hm17144
                subst c17140
                have hq17215 := hr17134 _ (hres17145 (by intro _ h; cases h))
                have e17216 := Option.some.inj hq17215
                subst c16928
                have hq17217 := hr16922 _ (hres16933 (by intro _ h; cases h))
                have e17218 := Option.some.inj hq17217
                subst r
                refine ⟨_, ret2 rfl, ?_⟩
                exact ⟨s17146, (PHeap.le.trans l16935 l17147), hS17198, (tup2 rfl rfl)⟩
              · refine W_cond_f rfl hc17213 ?_
                replace hc17213 := not_true hc17213
                refine W_skip (ib_normal (at_normal ?_))
                refine W_region ?_
                refine WL_step rfl rfl (Exec.move (v := Value.int .i64 (i17003)) rfl p17151 ?_)
                refine WL_step rfl rfl (Exec.sub rfl rfl rfl ?_)
                refine WL_step rfl rfl (Exec.assign (v := Value.int .i64 (IntKind.i64.wrap (i17003 - 1))) rfl rfl ?_)
                refine WL_nil (at_normal ?_)
                have e17219 := Option.some.inj hm17144
                subst c17140
                refine ⟨_, rfl, ?_⟩; exact ⟨s17146, l17147, hS17198, p17149, p17150, rfl⟩
            · refine W_cond_f rfl hc17152 ?_
              replace hc17152 := not_true hc17152
              refine W_exit (at_exit (at_exit (ib_here (at_normal ?_))))
              have e17220 := Option.some.inj hm17144
              subst c17140
              refine ⟨_, .inr (hres17145 (by intro _ h; cases h)), ?_⟩; exact ⟨s17146, l17147, hS17148, p17149, p17150, p17151⟩
        · rintro f17221 w17222 ⟨i17131, hc17223, hM17224⟩
          have hm16932 := hc17223.elim (hn17135 _) (hb17136 _)
          clear hc17223
          obtain ⟨s17225, l17226, hS17227, p17228, p17229, p17230⟩ := hM17224
          refine (ib_normal (at_normal ?_))
          refine W_region ?_
          refine WL_step rfl rfl (Exec.move (v := Value.int .i64 (k16341)) rfl p17229 ?_)
          refine WL_step rfl rfl (Exec.sub rfl rfl rfl ?_)
          refine WL_step rfl rfl (Exec.assign (v := Value.int .i64 (IntKind.i64.wrap (k16341 - 1))) rfl rfl ?_)
          refine WL_nil (at_normal ?_)
          have e17231 := Option.some.inj hm16932
          subst c16928
          refine ⟨_, rfl, ?_⟩; exact ⟨s17225, (PHeap.le.trans l16935 l17226), hS17227, p17228, rfl⟩
      · refine W_cond_f rfl hc16939 ?_
        replace hc16939 := not_true hc16939
        refine W_exit (at_exit (at_exit (ib_here (at_normal ?_))))
        have e17232 := Option.some.inj hm16932
        subst c16928
        refine ⟨_, .inr (hres16933 (by intro _ h; cases h)), ?_⟩; exact ⟨s16934, l16935, hS16936, p16937, p16938⟩
  · rintro f17233 w17234 ⟨k16919, hc17235, hM17236⟩
    have hm := hc17235.elim (hn16923 _) (hb16924 _)
    clear hc17235
    obtain ⟨s17237, l17238, hS17239, p17240, p17241⟩ := hM17236
    refine (at_normal ?_)
    refine W_seq ?_
    refine W_region ?_
    refine WL_step rfl rfl (Exec.assign (v := Value.int .i64 (0)) rfl rfl ?_)
    refine WL_step rfl rfl (Exec.assign (v := Value.int .i64 (1)) rfl rfl ?_)
    refine WL_nil (at_normal ?_)
    refine W_ret ?_
    have e17243 := Option.some.inj hm
    subst r
    refine ⟨_, ret2 rfl, ?_⟩
    exact ⟨s17237, l17238, hS17239, (tup2 rfl rfl)⟩

theorem N35 : (Tryd.f35.name == "runtime.NumGoroutine") = false := by kernel_rfl

end Go.Pw
