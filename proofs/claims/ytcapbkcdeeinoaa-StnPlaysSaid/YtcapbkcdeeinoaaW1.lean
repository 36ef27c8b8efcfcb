/-
  The walks (printed by my generator).
-/
import Derived.Test.YtcapbkcdeeinoaaW0
set_option maxRecDepth 100000
set_option linter.unusedVariables false
namespace Go.Pw
open Go.Proofs
theorem ref54_Distances_o_sim {w0 w : World} {s : PHeap} {H : List Res} {n24526 : Int} {bounds24527 : (List Bound)} {v24528 : Value} {r : (List (List Int)) × Bool} (hm : ref54_Distances_o_p n24526 bounds24527 = some r) (hS : St w0 s (Res.arr encBound 32 v24528 bounds24527 :: H) w)  :
    Calls Try.prog 25 #[Value.int .i64 (n24526), v24528] w fun e w' => ∃ v, e = .returned v ∧ ((un2 fun (y85519 : (List (List Int))) (y85520 : Bool) => ∃ (s85527 : PHeap) (v85526 : Value), PHeap.le s s85527 ∧ St w0 s85527 (Res.arr encBound 32 v24528 bounds24527 :: H) w' ∧ v = Value.tuple #[v85526, Value.bool (y85520)] ∧ SliceRep (encSlice (encInt .i64)) s85527 v85526 y85519) r) := by
  unfold ref54_Distances_o_p at hm
  refine calls_of_W Try.func25 rfl rfl ?_
  refine W_seq ?_
  refine W_region ?_
  refine WL_step rfl rfl (Exec.assign (v := Value.slice none 0 0) rfl rfl ?_)
  refine WL_step rfl rfl (Exec.assign (v := Value.bool (false)) rfl rfl ?_)
  refine WL_nil (at_normal ?_)
  refine W_seq ?_
  refine W_region ?_
  refine WL_step rfl rfl (Exec.assign (v := Value.slice none 0 0) rfl rfl ?_)
  refine WL_nil (at_normal ?_)
  refine W_seq ?_
  refine W_seq ?_
  refine W_region ?_
  refine WL_step rfl rfl (Exec.move (v := Value.int .i64 (n24526)) rfl rfl ?_)
  refine WL_step rfl rfl (Exec.move (v := Value.int .i64 (0)) rfl rfl ?_)
  refine WL_nil (at_normal ?_)
  obtain ⟨u85528, q85529, hm⟩ := bind_some hm
  obtain ⟨out85806, hB86085, hm⟩ := bind_some hm
  refine W_block (W_forS (fun k' s' f' w' => (fun (out85806 : (List (List Int))) => ∃ (s86086 : PHeap) (v85807 : Value) (hs85808 : List Value), PHeap.le s s86086 ∧ St w0 s86086 (Res.arr encBound 32 v24528 bounds24527 :: Res.arr encRaw 49 v85807 hs85808 :: Res.rows (encInt .i64) 3 hs85808 out85806 :: H) w' ∧ f' 0 = Value.int .i64 (n24526) ∧ f' 1 = v24528 ∧ f' 6 = v85807 ∧ f' 15 = Value.int .i64 (n24526) ∧ f' 16 = Value.int .i64 (k' : Int)) s') hB86085 ?_ ?_ ?_)
  · have hS86087 := (hS.rows_nil (encInt .i64) 3).nilArr encRaw 49
    have hS86088 := (hS86087).f2
    exact ⟨s, (Value.slice none 0 0), [], (PHeap.le_refl _), hS86088, rfl, rfl, rfl, rfl, rfl⟩
  · intro i85530 out85806 s86090 f86091 w86092 hi86093 hI86094 hm86095
    obtain ⟨s86096, v85807, hs85808, l86097, hS86098, p86099, p86100, p86101, p86102, x86103⟩ := hI86094
    refine W_seq ?_
    refine W_region ?_
    refine WL_step rfl rfl (Exec.lss rfl x86103 p86102 ?_)
    refine WL_nil (at_normal ?_)
    refine W_seq ?_
    refine W_true (congrArg Value.bool (decide_eq_true (by omega))) ?_
    refine W_skip (at_normal ?_)
    refine W_seq ?_
    refine W_block ?_
    refine W_seq ?_
    refine W_region ?_
    refine WL_step rfl rfl (Exec.move (v := Value.int .i64 ((i85530 : Int))) rfl x86103 ?_)
    refine WL_step rfl rfl (Exec.assign (v := Value.int .i64 ((i85530 : Int))) rfl rfl ?_)
    refine WL_nil (at_normal ?_)
    refine W_seq ?_
    refine W_region ?_
    refine WL_step rfl rfl (Exec.move (v := v85807) rfl p86101 ?_)
    refine WL_step rfl rfl (Exec.move (v := Value.int .i64 (n24526)) rfl p86099 ?_)
    obtain ⟨l86122, q86123, hm86095⟩ := bind_some hm86095
    refine WL_step rfl rfl (Exec.make (E := (encInt .i64)) hS86098 S49 Z3 rfl rfl rfl rfl q86123 ?_)
    intro v86124 w86125 hS86126
    refine WL_step rfl rfl (Exec.buildSlice (Te := 49) (cs := [v86124]) hS86126 rfl (parts_cons (c := [v86124]) (cells_of rfl (cells_one (hS86126).arr_one)) parts_nil) (fun _ => by kernel_rfl) ?_)
    intro b86127 w86128 hS86129
    obtain ⟨l86130, q86131, hm86095⟩ := bind_some hm86095
    have hS86132 := (hS86129).f1
    have hS86133 := (hS86132).f1
    have hS86134 := ((hS86133).f4).f4
    have hS86135 := ((hS86134).f2).f1
    refine WL_step rfl rfl (Exec.append_grid (E := encRaw) (ys := [v86124]) hS86135 S61 Z49 rfl (by decide) rfl rfl rfl rfl (reps_one ⟨rfl, ((hS86135).f3).arr_one⟩) rfl rfl ((hS86135).f2).rows_len q86131 ?_)
    intro v86136 w86137 hS86138
    have hS86139 := ((hS86138).f1.f2.rows_push).f1
    rw [← (app_some q86131).2] at hS86139
    refine WL_step rfl rfl (Exec.assign (v := v86136) rfl rfl ?_)
    refine WL_nil (at_normal ?_)
    refine W_seq ?_
    refine W_seq ?_
    refine W_region ?_
    refine WL_step rfl rfl (Exec.move (v := Value.int .i64 (n24526)) rfl p86099 ?_)
    refine WL_step rfl rfl (Exec.move (v := Value.int .i64 (0)) rfl rfl ?_)
    refine WL_nil (at_normal ?_)
    obtain ⟨u86140, q86141, hm86095⟩ := bind_some hm86095
    obtain ⟨l86192, hB86243, hm86095⟩ := bind_some hm86095
    refine W_block (W_forS (fun k' s' f' w' => (fun (l86192 : (List (List Int))) => ∃ (s86244 : PHeap) , PHeap.le s86096 s86244 ∧ St w0 s86244 (Res.arr encBound 32 v24528 bounds24527 :: Res.arr encRaw 49 v86136 (hs85808 ++ [v86124]) :: Res.rows (encInt .i64) 3 (hs85808 ++ [v86124]) l86192 :: H) w' ∧ f' 0 = Value.int .i64 (n24526) ∧ f' 1 = v24528 ∧ f' 6 = v86136 ∧ f' 7 = Value.int .i64 ((i85530 : Int)) ∧ f' 15 = Value.int .i64 (n24526) ∧ f' 16 = Value.int .i64 ((i85530 : Int)) ∧ f' 24 = Value.int .i64 (n24526) ∧ f' 25 = Value.int .i64 (k' : Int)) s') hB86243 ?_ ?_ ?_)
    · have hS86245 := (hS86139).f2
      exact ⟨s86096, (PHeap.le_refl _), hS86245, p86099, p86100, rfl, rfl, p86102, x86103, rfl, rfl⟩
    · intro i86142 l86192 s86247 f86248 w86249 hi86250 hI86251 hm86252
      obtain ⟨s86253, l86254, hS86255, p86256, p86257, p86258, p86259, p86260, p86261, p86262, x86263⟩ := hI86251
      refine W_seq ?_
      refine W_region ?_
      refine WL_step rfl rfl (Exec.lss rfl x86263 p86262 ?_)
      refine WL_nil (at_normal ?_)
      refine W_seq ?_
      refine W_true (congrArg Value.bool (decide_eq_true (by omega))) ?_
      refine W_skip (at_normal ?_)
      refine W_seq ?_
      refine W_block ?_
      refine W_seq ?_
      refine W_region ?_
      refine WL_step rfl rfl (Exec.move (v := Value.int .i64 ((i86142 : Int))) rfl x86263 ?_)
      refine WL_step rfl rfl (Exec.assign (v := Value.int .i64 ((i86142 : Int))) rfl rfl ?_)
      refine WL_nil (at_normal ?_)
      refine W_region ?_
      refine WL_step rfl rfl (Exec.move (v := v86136) rfl p86258 ?_)
      refine WL_step rfl rfl (Exec.move (v := Value.int .i64 ((i85530 : Int))) rfl p86259 ?_)
      obtain ⟨row86288, q86289, hm86252⟩ := bind_some hm86252
      obtain ⟨h86290, e86291, e86292, _⟩ := ((((hS86255).f2).f2).f1).rows_at q86289
      obtain ⟨g86293, c86294, e86295⟩ := (((hS86255).f2).f2).arr_at e86291
      refine WL_step rfl rfl (Exec.index_slice S61 rfl e86295 rfl (idx_some e86291).1 (idx_some e86291).2.1 ?_)
      refine WL_step rfl rfl (Exec.load_arr (F := encRaw) (((hS86255).f2).f2) e86295 A49 rfl rfl rfl e86291 (Sub.refl _) ?_)
      intro v86296 q86297
      replace q86297 := (encRaw_val.1 q86297).1
      subst v86296
      refine WL_step rfl rfl (Exec.move (v := Value.int .i64 ((i86142 : Int))) rfl rfl ?_)
      obtain ⟨x86298, q86299, hm86252⟩ := bind_some hm86252
      obtain ⟨g86300, c86301, e86302⟩ := (((((hS86255).f2).f2).f1).rows_split e86292 (idx_some q86289).2.2).arr_at q86299
      refine WL_step rfl rfl (Exec.index_slice S49 rfl e86302 rfl (idx_some q86299).1 (idx_some q86299).2.1 ?_)
      obtain ⟨l86303, q86304, hm86252⟩ := bind_some hm86252
      obtain ⟨l86305, q86306, hm86252⟩ := bind_some hm86252
      have hS86307 := ((hS86255).f2).f2
      refine WL_step rfl rfl (Exec.store_arr (((hS86307).f1).rows_split e86292 (idx_some q86289).2.2) e86302 A3 rfl rfl rfl rfl (encInt_val.2 rfl) q86304 ?_)
      intro w86308 hS86309
      have hS86310 := (hS86309).rows_back e86292 (setI_some q86306).2.1
      rw [← (setI_some q86306).2.2] at hS86310
      have hS86311 := (hS86310).f1
      refine WL_nil (ib_normal (at_normal ?_))
      refine W_region ?_
      refine WL_step rfl rfl (Exec.add rfl x86263 rfl ?_)
      refine WL_step rfl rfl (Exec.move (v := Value.int .i64 (IntKind.i64.wrap ((i86142 : Int) + 1))) rfl rfl ?_)
      refine WL_nil (at_normal ?_)
      have e86312 := Option.some.inj hm86252
      subst s86247
      have hS86313 := (hS86311).f2
      exact ⟨s86253, l86254, hS86313, p86256, p86257, p86258, p86259, p86260, p86261, p86262, (Eq.trans rfl (wrap_up hi86250 (by have h := must_some q86141; simp at h; simp only [maxLen]; omega)))⟩
    · intro f86314 w86315 hI86316
      obtain ⟨s86317, l86318, hS86319, p86320, p86321, p86322, p86323, p86324, p86325, p86326, x86327⟩ := hI86316
      refine W_seq ?_
      refine W_region ?_
      refine WL_step rfl rfl (Exec.lss rfl x86327 p86326 ?_)
      refine WL_nil (at_normal ?_)
      refine W_seq ?_
      refine W_false (congrArg Value.bool (decide_eq_false (by omega))) ?_
      refine W_exit (at_exit (at_exit (ib_here (at_normal ?_))))
      refine W_region ?_
      refine WL_step rfl rfl (Exec.move (v := v86136) rfl p86322 ?_)
      refine WL_step rfl rfl (Exec.move (v := Value.int .i64 ((i85530 : Int))) rfl p86323 ?_)
      obtain ⟨row86352, q86353, hm86095⟩ := bind_some hm86095
      obtain ⟨h86354, e86355, e86356, _⟩ := ((((hS86319).f2).f2).f1).rows_at q86353
      obtain ⟨g86357, c86358, e86359⟩ := (((hS86319).f2).f2).arr_at e86355
      refine WL_step rfl rfl (Exec.index_slice S61 rfl e86359 rfl (idx_some e86355).1 (idx_some e86355).2.1 ?_)
      refine WL_step rfl rfl (Exec.load_arr (F := encRaw) (((hS86319).f2).f2) e86359 A49 rfl rfl rfl e86355 (Sub.refl _) ?_)
      intro v86360 q86361
      replace q86361 := (encRaw_val.1 q86361).1
      subst v86360
      refine WL_step rfl rfl (Exec.move (v := Value.int .i64 ((i85530 : Int))) rfl p86323 ?_)
      obtain ⟨x86362, q86363, hm86095⟩ := bind_some hm86095
      obtain ⟨g86364, c86365, e86366⟩ := (((((hS86319).f2).f2).f1).rows_split e86356 (idx_some q86353).2.2).arr_at q86363
      refine WL_step rfl rfl (Exec.index_slice S49 rfl e86366 rfl (idx_some q86363).1 (idx_some q86363).2.1 ?_)
      obtain ⟨l86367, q86368, hm86095⟩ := bind_some hm86095
      obtain ⟨l86369, q86370, hm86095⟩ := bind_some hm86095
      have hS86371 := ((hS86319).f2).f2
      refine WL_step rfl rfl (Exec.store_arr (((hS86371).f1).rows_split e86356 (idx_some q86353).2.2) e86366 A3 rfl rfl rfl rfl (encInt_val.2 rfl) q86368 ?_)
      intro w86372 hS86373
      have hS86374 := (hS86373).rows_back e86356 (setI_some q86370).2.1
      rw [← (setI_some q86370).2.2] at hS86374
      have hS86375 := (hS86374).f1
      refine WL_nil (ib_normal (at_normal ?_))
      refine W_region ?_
      refine WL_step rfl rfl (Exec.add rfl p86325 rfl ?_)
      refine WL_step rfl rfl (Exec.move (v := Value.int .i64 (IntKind.i64.wrap ((i85530 : Int) + 1))) rfl rfl ?_)
      refine WL_nil (at_normal ?_)
      have e86376 := Option.some.inj hm86095
      subst s86090
      have hS86377 := (hS86375).f2
      exact ⟨s86317, v86136, (hs85808 ++ [v86124]), (PHeap.le.trans l86097 l86318), hS86377, p86320, p86321, p86322, p86324, (Eq.trans rfl (wrap_up hi86093 (by have h := must_some q85529; simp at h; simp only [maxLen]; omega)))⟩
  · intro f86378 w86379 hI86380
    obtain ⟨s86381, v85807, hs85808, l86382, hS86383, p86384, p86385, p86386, p86387, x86388⟩ := hI86380
    refine W_seq ?_
    refine W_region ?_
    refine WL_step rfl rfl (Exec.lss rfl x86388 p86387 ?_)
    refine WL_nil (at_normal ?_)
    refine W_seq ?_
    refine W_false (congrArg Value.bool (decide_eq_false (by omega))) ?_
    refine W_exit (at_exit (at_exit (ib_here (at_normal ?_))))
    refine W_seq ?_
    refine W_seq ?_
    refine W_region ?_
    refine WL_step rfl rfl (Exec.move (v := v24528) rfl p86385 ?_)
    refine WL_step rfl rfl (Exec.len_arr (hS86383) S22 rfl rfl ?_)
    refine WL_step rfl rfl (Exec.move (v := Value.int .i64 (0)) rfl rfl ?_)
    refine WL_nil (at_normal ?_)
    obtain ⟨l86885, hB87382, hm⟩ := bind_some hm
    refine W_block (W_forS (fun k' s' f' w' => (fun (l86885 : (List (List Int))) => ∃ (s87383 : PHeap) , PHeap.le s86381 s87383 ∧ St w0 s87383 (Res.arr encBound 32 v24528 bounds24527 :: Res.arr encRaw 49 v85807 hs85808 :: Res.rows (encInt .i64) 3 hs85808 l86885 :: H) w' ∧ f' 0 = Value.int .i64 (n24526) ∧ f' 6 = v85807 ∧ f' 42 = v24528 ∧ f' 43 = Value.int .i64 ((bounds24527.length : Int)) ∧ f' 44 = Value.int .i64 (k' : Int)) s') hB87382 ?_ ?_ ?_)
    · have hS87384 := ((hS86383).f2).f2
      have hS87385 := (hS87384).f2
      exact ⟨s86381, (PHeap.le_refl _), hS87385, p86384, p86386, rfl, rfl, rfl⟩
    · intro i86389 l86885 s87387 f87388 w87389 hi87390 hI87391 hm87392
      obtain ⟨s87393, l87394, hS87395, p87396, p87397, p87398, p87399, x87400⟩ := hI87391
      refine W_seq ?_
      refine W_region ?_
      refine WL_step rfl rfl (Exec.lss rfl x87400 p87399 ?_)
      refine WL_nil (at_normal ?_)
      refine W_seq ?_
      refine W_true (congrArg Value.bool (decide_eq_true (by omega))) ?_
      refine W_skip (at_normal ?_)
      refine W_seq ?_
      refine W_block ?_
      refine W_seq ?_
      refine W_region ?_
      obtain ⟨x87413, q87414, hm87392⟩ := bind_some hm87392
      obtain ⟨g87415, c87416, e87417⟩ := (hS87395).arr_at q87414
      refine WL_step rfl rfl (Exec.index_slice S22 rfl (Eq.trans p87398 e87417) x87400 (idx_some q87414).1 (idx_some q87414).2.1 ?_)
      refine WL_step rfl rfl (Exec.load_arr (F := encBound) (hS87395) e87417 A32 rfl rfl rfl q87414 (Sub.refl _) ?_)
      intro v87418 q87419
      obtain rfl := encBound_val.1 q87419
      refine WL_step rfl rfl (Exec.alloc (cs := [Value.int .i64 (0), Value.int .i64 (0), Value.int .i64 (0)]) hS87395 Z32 rfl rfl ?_)
      intro b87420 w87421 hS87422
      refine WL_step rfl rfl (Exec.store_box (ds := [Value.int .i64 (x87413.A), Value.int .i64 (x87413.B), Value.int .i64 (x87413.Most)]) (es := [Value.int .i64 (x87413.A), Value.int .i64 (x87413.B), Value.int .i64 (x87413.Most)]) hS87422 A32 rfl rfl rfl rfl (one_cons rfl (one_cons rfl (one_cons rfl one_nil))) (Nat.le_of_ble_eq_true rfl) rfl ?_)
      intro w87423 hS87424
      refine WL_nil (at_normal ?_)
      obtain ⟨row87676, q87677, hm87392⟩ := bind_some hm87392
      obtain ⟨h87678, e87679, e87680, _⟩ := ((((hS87424).f3).f3).f1).rows_at q87677
      obtain ⟨g87681, c87682, e87683⟩ := (((hS87424).f3).f3).arr_at e87679
      obtain ⟨g87684, c87685, e87686⟩ := (((hS87424).f3).f3).arr_at e87679
      obtain ⟨x87687, q87688, hm87392⟩ := bind_some hm87392
      obtain ⟨g87689, c87690, e87691⟩ := (((((hS87424).f3).f3).f1).rows_split e87680 (idx_some q87677).2.2).arr_at q87688
      obtain ⟨g87692, c87693, e87694⟩ := (((((hS87424).f3).f3).f1).rows_split e87680 (idx_some q87677).2.2).arr_at q87688
      obtain ⟨l87695, q87696, hm87392⟩ := bind_some hm87392
      obtain ⟨l87697, q87698, hm87392⟩ := bind_some hm87392
      have hS87699 := ((hS87424).f3).f3
      refine W_drawn (n0 := 20) hmix (by kernel_rfl) [RP.eq (v85807), RP.eq (Value.pointer (some ⟨b87420, 0, none⟩)), RP.eq (Value.int .i64 (x87413.A)), RP.eq (Value.pointer (some ⟨g87681, 0 + (x87413.A).toNat * 1, none⟩)), RP.eq (h87678), RP.eq (Value.pointer (some ⟨b87420, 1, none⟩)), RP.eq (Value.int .i64 (x87413.B)), RP.eq (v85807), RP.eq (Value.pointer (some ⟨b87420, 0, none⟩)), RP.eq (Value.int .i64 (x87413.A)), RP.eq (Value.pointer (some ⟨g87684, 0 + (x87413.A).toNat * 1, none⟩)), RP.eq (h87678), RP.eq (Value.pointer (some ⟨b87420, 1, none⟩)), RP.eq (Value.int .i64 (x87413.B)), RP.eq (Value.pointer (some ⟨g87689, 0 + (x87413.B).toNat * 1, none⟩)), RP.eq (Value.int .i64 (x87687)), RP.eq (Value.pointer (some ⟨b87420, 2, none⟩)), RP.eq (Value.int .i64 (x87413.Most)), RP.eq (Value.int .i64 (min x87687 x87413.Most)), RP.eq (Value.pointer (some ⟨g87692, 0 + (x87413.B).toNat * 1, none⟩))] hS87699 (HeadAll.cons ?_ (HeadAll.cons ?_ (HeadAll.cons ?_ (HeadAll.cons ?_ (HeadAll.cons ?_ (HeadAll.cons ?_ (HeadAll.cons ?_ (HeadAll.cons ?_ (HeadAll.cons ?_ (HeadAll.cons ?_ (HeadAll.cons ?_ (HeadAll.cons ?_ (HeadAll.cons ?_ (HeadAll.cons ?_ (HeadAll.cons ?_ (HeadAll.cons ?_ (HeadAll.cons ?_ (HeadAll.cons ?_ (HeadAll.cons ?_ (HeadAll.cons ?_ (HeadAll.nil))))))))))))))))))))) ?_
      · intro g87700 s87701 w87702 l87703 hS87704 fr87705 pre87706
        refine head_run rfl (Exec.move (v := v85807) rfl (Eq.trans (fr87705 6 rfl) p87397) ?_)
        exact head_done hS87704 rfl
      · intro g87707 s87708 w87709 l87710 hS87711 fr87712 pre87713
        refine head_run rfl (Exec.field F32_0 rfl (fr87712 10 rfl) rfl ?_)
        exact head_done hS87711 rfl
      · intro g87714 s87715 w87716 l87717 hS87718 fr87719 pre87720
        have p87721 : g87714 49 = (Value.pointer (some ⟨b87420, 0, none⟩)) := pre87720 0 _ rfl rfl
        refine head_run rfl (Exec.load_box ((hS87718).f2) A3 rfl p87721 rfl ?_)
        exact head_done hS87718 rfl
      · intro g87722 s87723 w87724 l87725 hS87726 fr87727 pre87728
        have p87729 : g87722 48 = (v85807) := pre87728 0 _ rfl rfl
        have p87730 : g87722 50 = (Value.int .i64 (x87413.A)) := pre87728 1 _ rfl rfl
        refine head_run rfl (Exec.index_slice S61 rfl (Eq.trans p87729 e87683) p87730 (idx_some e87679).1 (idx_some e87679).2.1 ?_)
        exact head_done hS87726 rfl
      · intro g87731 s87732 w87733 l87734 hS87735 fr87736 pre87737
        have p87738 : g87731 51 = (Value.pointer (some ⟨g87681, 0 + (x87413.A).toNat * 1, none⟩)) := pre87737 0 _ rfl rfl
        refine head_run rfl (Exec.load_arr (F := encRaw) (hS87735) e87683 A49 rfl p87738 rfl e87679 (Sub.refl _) ?_)
        intro v87739 q87740
        exact head_done hS87735 (encRaw_val.1 q87740).1
      · intro g87741 s87742 w87743 l87744 hS87745 fr87746 pre87747
        refine head_run rfl (Exec.field F32_1 rfl (fr87746 10 rfl) rfl ?_)
        exact head_done hS87745 rfl
      · intro g87748 s87749 w87750 l87751 hS87752 fr87753 pre87754
        have p87755 : g87748 53 = (Value.pointer (some ⟨b87420, 1, none⟩)) := pre87754 0 _ rfl rfl
        refine head_run rfl (Exec.load_box ((hS87752).f2) A3 rfl p87755 rfl ?_)
        exact head_done hS87752 rfl
      · intro g87756 s87757 w87758 l87759 hS87760 fr87761 pre87762
        refine head_run rfl (Exec.move (v := v85807) rfl (Eq.trans (fr87761 6 rfl) p87397) ?_)
        exact head_done hS87760 rfl
      · intro g87763 s87764 w87765 l87766 hS87767 fr87768 pre87769
        refine head_run rfl (Exec.field F32_0 rfl (fr87768 10 rfl) rfl ?_)
        exact head_done hS87767 rfl
      · intro g87770 s87771 w87772 l87773 hS87774 fr87775 pre87776
        have p87777 : g87770 56 = (Value.pointer (some ⟨b87420, 0, none⟩)) := pre87776 0 _ rfl rfl
        refine head_run rfl (Exec.load_box ((hS87774).f2) A3 rfl p87777 rfl ?_)
        exact head_done hS87774 rfl
      · intro g87778 s87779 w87780 l87781 hS87782 fr87783 pre87784
        have p87785 : g87778 57 = (Value.int .i64 (x87413.A)) := pre87784 1 _ rfl rfl
        have p87786 : g87778 55 = (v85807) := pre87784 0 _ rfl rfl
        refine head_run rfl (Exec.index_slice S61 rfl (Eq.trans p87786 e87686) p87785 (idx_some e87679).1 (idx_some e87679).2.1 ?_)
        exact head_done hS87782 rfl
      · intro g87787 s87788 w87789 l87790 hS87791 fr87792 pre87793
        have p87794 : g87787 58 = (Value.pointer (some ⟨g87684, 0 + (x87413.A).toNat * 1, none⟩)) := pre87793 0 _ rfl rfl
        refine head_run rfl (Exec.load_arr (F := encRaw) (hS87791) e87686 A49 rfl p87794 rfl e87679 (Sub.refl _) ?_)
        intro v87795 q87796
        exact head_done hS87791 (encRaw_val.1 q87796).1
      · intro g87797 s87798 w87799 l87800 hS87801 fr87802 pre87803
        refine head_run rfl (Exec.field F32_1 rfl (fr87802 10 rfl) rfl ?_)
        exact head_done hS87801 rfl
      · intro g87804 s87805 w87806 l87807 hS87808 fr87809 pre87810
        have p87811 : g87804 60 = (Value.pointer (some ⟨b87420, 1, none⟩)) := pre87810 0 _ rfl rfl
        refine head_run rfl (Exec.load_box ((hS87808).f2) A3 rfl p87811 rfl ?_)
        exact head_done hS87808 rfl
      · intro g87812 s87813 w87814 l87815 hS87816 fr87817 pre87818
        have p87819 : g87812 59 = (h87678) := pre87818 0 _ rfl rfl
        have p87820 : g87812 61 = (Value.int .i64 (x87413.B)) := pre87818 1 _ rfl rfl
        refine head_run rfl (Exec.index_slice S49 rfl (Eq.trans p87819 e87691) p87820 (idx_some q87688).1 (idx_some q87688).2.1 ?_)
        exact head_done hS87816 rfl
      · intro g87821 s87822 w87823 l87824 hS87825 fr87826 pre87827
        have p87828 : g87821 62 = (Value.pointer (some ⟨g87689, 0 + (x87413.B).toNat * 1, none⟩)) := pre87827 0 _ rfl rfl
        refine head_run rfl (Exec.load_arr (F := (encInt .i64)) (((hS87825).f1).rows_split e87680 (idx_some q87677).2.2) e87691 A3 rfl p87828 rfl q87688 (Sub.refl _) ?_)
        intro v87829 q87830
        exact head_done hS87825 (encInt_val.1 q87830)
      · intro g87831 s87832 w87833 l87834 hS87835 fr87836 pre87837
        refine head_run rfl (Exec.field F32_2 rfl (fr87836 10 rfl) rfl ?_)
        exact head_done hS87835 rfl
      · intro g87838 s87839 w87840 l87841 hS87842 fr87843 pre87844
        have p87845 : g87838 64 = (Value.pointer (some ⟨b87420, 2, none⟩)) := pre87844 0 _ rfl rfl
        refine head_run rfl (Exec.load_box ((hS87842).f2) A3 rfl p87845 rfl ?_)
        exact head_done hS87842 rfl
      · intro g87846 s87847 w87848 l87849 hS87850 fr87851 pre87852
        have p87853 : g87846 65 = (Value.int .i64 (x87413.Most)) := pre87852 1 _ rfl rfl
        have p87854 : g87846 63 = (Value.int .i64 (x87687)) := pre87852 0 _ rfl rfl
        refine head_run rfl (Exec.min2 rfl p87854 p87853 ?_)
        exact head_done hS87850 rfl
      · intro g87855 s87856 w87857 l87858 hS87859 fr87860 pre87861
        have p87862 : g87855 52 = (h87678) := pre87861 0 _ rfl rfl
        have p87863 : g87855 54 = (Value.int .i64 (x87413.B)) := pre87861 1 _ rfl rfl
        refine head_run rfl (Exec.index_slice S49 rfl (Eq.trans p87862 e87694) p87863 (idx_some q87688).1 (idx_some q87688).2.1 ?_)
        exact head_done hS87859 rfl
      · intro g87864 s87865 w87866 l87867 hS87868 fr87869 hR87870
        have p87871 : g87864 48 = (v85807) := hR87870 0 rfl
        have p87872 : g87864 49 = (Value.pointer (some ⟨b87420, 0, none⟩)) := hR87870 1 rfl
        have p87873 : g87864 50 = (Value.int .i64 (x87413.A)) := hR87870 2 rfl
        have p87874 : g87864 51 = (Value.pointer (some ⟨g87681, 0 + (x87413.A).toNat * 1, none⟩)) := hR87870 3 rfl
        have p87875 : g87864 52 = (h87678) := hR87870 4 rfl
        have p87876 : g87864 53 = (Value.pointer (some ⟨b87420, 1, none⟩)) := hR87870 5 rfl
        have p87877 : g87864 54 = (Value.int .i64 (x87413.B)) := hR87870 6 rfl
        have p87878 : g87864 55 = (v85807) := hR87870 7 rfl
        have p87879 : g87864 56 = (Value.pointer (some ⟨b87420, 0, none⟩)) := hR87870 8 rfl
        have p87880 : g87864 57 = (Value.int .i64 (x87413.A)) := hR87870 9 rfl
        have p87881 : g87864 58 = (Value.pointer (some ⟨g87684, 0 + (x87413.A).toNat * 1, none⟩)) := hR87870 10 rfl
        have p87882 : g87864 59 = (h87678) := hR87870 11 rfl
        have p87883 : g87864 60 = (Value.pointer (some ⟨b87420, 1, none⟩)) := hR87870 12 rfl
        have p87884 : g87864 61 = (Value.int .i64 (x87413.B)) := hR87870 13 rfl
        have p87885 : g87864 62 = (Value.pointer (some ⟨g87689, 0 + (x87413.B).toNat * 1, none⟩)) := hR87870 14 rfl
        have p87886 : g87864 63 = (Value.int .i64 (x87687)) := hR87870 15 rfl
        have p87887 : g87864 64 = (Value.pointer (some ⟨b87420, 2, none⟩)) := hR87870 16 rfl
        have p87888 : g87864 65 = (Value.int .i64 (x87413.Most)) := hR87870 17 rfl
        have p87889 : g87864 66 = (Value.int .i64 (min x87687 x87413.Most)) := hR87870 18 rfl
        have p87890 : g87864 67 = (Value.pointer (some ⟨g87692, 0 + (x87413.B).toNat * 1, none⟩)) := hR87870 19 rfl
        refine WL_step rfl rfl (Exec.store_arr (((hS87868).f1).rows_split e87680 (idx_some q87677).2.2) e87694 A3 rfl p87890 rfl p87889 (encInt_val.2 rfl) q87696 ?_)
        intro w87891 hS87892
        have hS87893 := (hS87892).rows_back e87680 (setI_some q87698).2.1
        rw [← (setI_some q87698).2.2] at hS87893
        have hS87894 := (hS87893).f1
        refine WL_nil (ib_normal (at_normal ?_))
        refine W_region ?_
        refine WL_step rfl rfl (Exec.add rfl (Eq.trans (fr87869 44 rfl) x87400) rfl ?_)
        refine WL_step rfl rfl (Exec.move (v := Value.int .i64 (IntKind.i64.wrap ((i86389 : Int) + 1))) rfl rfl ?_)
        refine WL_nil (at_normal ?_)
        have e87895 := Option.some.inj hm87392
        subst s87387
        have hS87896 := ((hS87894).f2).drop
        have hS87897 := (hS87896).f2
        exact ⟨s87865, (PHeap.le.trans l87394 l87867), hS87897, (Eq.trans (fr87869 0 rfl) p87396), (Eq.trans (fr87869 6 rfl) p87397), (Eq.trans (fr87869 42 rfl) p87398), (Eq.trans (fr87869 43 rfl) p87399), (Eq.trans rfl (wrap_up hi87390 (hS86383).arr_le))⟩
    · intro f87898 w87899 hI87900
      obtain ⟨s87901, l87902, hS87903, p87904, p87905, p87906, p87907, x87908⟩ := hI87900
      refine W_seq ?_
      refine W_region ?_
      refine WL_step rfl rfl (Exec.lss rfl x87908 p87907 ?_)
      refine WL_nil (at_normal ?_)
      refine W_seq ?_
      refine W_false (congrArg Value.bool (decide_eq_false (by omega))) ?_
      refine W_exit (at_exit (at_exit (ib_here (at_normal ?_))))
      refine W_seq ?_
      refine W_seq ?_
      refine W_region ?_
      refine WL_step rfl rfl (Exec.move (v := Value.int .i64 (n24526)) rfl p87904 ?_)
      refine WL_step rfl rfl (Exec.move (v := Value.int .i64 (0)) rfl rfl ?_)
      refine WL_nil (at_normal ?_)
      obtain ⟨u87909, q87910, hm⟩ := bind_some hm
      obtain ⟨c131830, hB131831, hr131832, hn131833, hb131834⟩ := ctl_some hm
      refine W_mid (M := fun f' w' => ∃ s', (c131830 = .next s' ∨ c131830 = .brk s') ∧ (fun (l131829 : (List (List Int))) => ∃ (s131836 : PHeap) , PHeap.le s87901 s131836 ∧ St w0 s131836 (Res.arr encBound 32 v24528 bounds24527 :: Res.arr encRaw 49 v85807 hs85808 :: Res.rows (encInt .i64) 3 hs85808 l131829 :: H) w' ∧ f' 0 = Value.int .i64 (n24526) ∧ f' 6 = v85807 ∧ f' 69 = Value.int .i64 (n24526)) s') ?_ ?_
      · refine W_block (W_forC (fun k' s' f' w' => (fun (l102550 : (List (List Int))) => ∃ (s131835 : PHeap) , PHeap.le s87901 s131835 ∧ St w0 s131835 (Res.arr encBound 32 v24528 bounds24527 :: Res.arr encRaw 49 v85807 hs85808 :: Res.rows (encInt .i64) 3 hs85808 l102550 :: H) w' ∧ f' 0 = Value.int .i64 (n24526) ∧ f' 6 = v85807 ∧ f' 69 = Value.int .i64 (n24526) ∧ f' 70 = Value.int .i64 (k' : Int)) s') hB131831 ?_ ?_ ?_)
        · have hS131837 := ((hS87903).f2).f2
          have hS131838 := (hS131837).f2
          exact ⟨s87901, (PHeap.le_refl _), hS131838, p87904, p87905, rfl, rfl⟩
        · intro i87911 l102550 c131840 f131841 w131842 hi131846 hI131843 hm131844 hres131845
          obtain ⟨s131847, l131848, hS131849, p131850, p131851, p131852, x131853⟩ := hI131843
          refine W_seq ?_
          refine W_region ?_
          refine WL_step rfl rfl (Exec.lss rfl x131853 p131852 ?_)
          refine WL_nil (at_normal ?_)
          refine W_seq ?_
          refine W_true (congrArg Value.bool (decide_eq_true (by omega))) ?_
          refine W_skip (at_normal ?_)
          refine W_seq ?_
          refine W_block ?_
          refine W_seq ?_
          refine W_region ?_
          refine WL_step rfl rfl (Exec.move (v := Value.int .i64 ((i87911 : Int))) rfl x131853 ?_)
          refine WL_step rfl rfl (Exec.assign (v := Value.int .i64 ((i87911 : Int))) rfl rfl ?_)
          refine WL_nil (at_normal ?_)
          refine W_seq ?_
          refine W_seq ?_
          refine W_region ?_
          refine WL_step rfl rfl (Exec.move (v := Value.int .i64 (n24526)) rfl p131850 ?_)
          refine WL_step rfl rfl (Exec.move (v := Value.int .i64 (0)) rfl rfl ?_)
          refine WL_nil (at_normal ?_)
          obtain ⟨u131854, q131855, hm131844⟩ := bind_some hm131844
          obtain ⟨l136666, hB141477, hm131844⟩ := bind_some hm131844
          refine W_block (W_forS (fun k' s' f' w' => (fun (l136666 : (List (List Int))) => ∃ (s141478 : PHeap) , PHeap.le s131847 s141478 ∧ St w0 s141478 (Res.arr encBound 32 v24528 bounds24527 :: Res.arr encRaw 49 v85807 hs85808 :: Res.rows (encInt .i64) 3 hs85808 l136666 :: H) w' ∧ f' 0 = Value.int .i64 (n24526) ∧ f' 6 = v85807 ∧ f' 11 = Value.int .i64 ((i87911 : Int)) ∧ f' 69 = Value.int .i64 (n24526) ∧ f' 70 = Value.int .i64 ((i87911 : Int)) ∧ f' 73 = Value.int .i64 (n24526) ∧ f' 74 = Value.int .i64 (k' : Int)) s') hB141477 ?_ ?_ ?_)
          · have hS141479 := ((hS131849).f2).f2
            have hS141480 := (hS141479).f2
            exact ⟨s131847, (PHeap.le_refl _), hS141480, p131850, p131851, rfl, p131852, x131853, rfl, rfl⟩
          · intro i131856 l136666 s141482 f141483 w141484 hi141485 hI141486 hm141487
            obtain ⟨s141488, l141489, hS141490, p141491, p141492, p141493, p141494, p141495, p141496, x141497⟩ := hI141486
            refine W_seq ?_
            refine W_region ?_
            refine WL_step rfl rfl (Exec.lss rfl x141497 p141496 ?_)
            refine WL_nil (at_normal ?_)
            refine W_seq ?_
            refine W_true (congrArg Value.bool (decide_eq_true (by omega))) ?_
            refine W_skip (at_normal ?_)
            refine W_seq ?_
            refine W_block ?_
            refine W_seq ?_
            refine W_region ?_
            refine WL_step rfl rfl (Exec.move (v := Value.int .i64 ((i131856 : Int))) rfl x141497 ?_)
            refine WL_step rfl rfl (Exec.assign (v := Value.int .i64 ((i131856 : Int))) rfl rfl ?_)
            refine WL_nil (at_normal ?_)
            refine W_seq ?_
            refine W_region ?_
            refine WL_step rfl rfl (Exec.move (v := Value.int .i64 (n24526)) rfl p141491 ?_)
            refine WL_step rfl rfl (Exec.move (v := Value.int .i64 (0)) rfl rfl ?_)
            refine WL_nil (at_normal ?_)
            obtain ⟨u141498, q141499, hm141487⟩ := bind_some hm141487
            obtain ⟨l143088, hB144677, hm141487⟩ := bind_some hm141487
            refine W_block (W_forS (fun k' s' f' w' => (fun (l143088 : (List (List Int))) => ∃ (s144678 : PHeap) , PHeap.le s141488 s144678 ∧ St w0 s144678 (Res.arr encBound 32 v24528 bounds24527 :: Res.arr encRaw 49 v85807 hs85808 :: Res.rows (encInt .i64) 3 hs85808 l143088 :: H) w' ∧ f' 0 = Value.int .i64 (n24526) ∧ f' 6 = v85807 ∧ f' 11 = Value.int .i64 ((i87911 : Int)) ∧ f' 12 = Value.int .i64 ((i131856 : Int)) ∧ f' 69 = Value.int .i64 (n24526) ∧ f' 70 = Value.int .i64 ((i87911 : Int)) ∧ f' 73 = Value.int .i64 (n24526) ∧ f' 74 = Value.int .i64 ((i131856 : Int)) ∧ f' 77 = Value.int .i64 (n24526) ∧ f' 78 = Value.int .i64 (k' : Int)) s') hB144677 ?_ ?_ ?_)
            · have hS144679 := ((hS141490).f2).f2
              have hS144680 := (hS144679).f2
              exact ⟨s141488, (PHeap.le_refl _), hS144680, p141491, p141492, p141493, rfl, p141494, p141495, p141496, x141497, rfl, rfl⟩
            · intro i141500 l143088 s144682 f144683 w144684 hi144685 hI144686 hm144687
              obtain ⟨s144688, l144689, hS144690, p144691, p144692, p144693, p144694, p144695, p144696, p144697, p144698, p144699, x144700⟩ := hI144686
              refine W_seq ?_
              refine W_region ?_
              refine WL_step rfl rfl (Exec.lss rfl x144700 p144699 ?_)
              refine WL_nil (at_normal ?_)
              refine W_seq ?_
              refine W_true (congrArg Value.bool (decide_eq_true (by omega))) ?_
              refine W_skip (at_normal ?_)
              refine W_seq ?_
              refine W_block ?_
              refine W_seq ?_
              refine W_region ?_
              refine WL_step rfl rfl (Exec.move (v := Value.int .i64 ((i141500 : Int))) rfl x144700 ?_)
              refine WL_step rfl rfl (Exec.assign (v := Value.int .i64 ((i141500 : Int))) rfl rfl ?_)
              refine WL_nil (at_normal ?_)
              refine W_seq ?_
              obtain ⟨z144736, ht144737, hm144687⟩ := bind_some hm144687
              refine W_mid (M := fun f' w' => (fun (z144736 : Bool) => ∃ (s144738 : PHeap) , PHeap.le s144688 s144738 ∧ St w0 s144738 (Res.arr encBound 32 v24528 bounds24527 :: Res.arr encRaw 49 v85807 hs85808 :: Res.rows (encInt .i64) 3 hs85808 l143088 :: H) w' ∧ f' 0 = Value.int .i64 (n24526) ∧ f' 6 = v85807 ∧ f' 11 = Value.int .i64 ((i87911 : Int)) ∧ f' 12 = Value.int .i64 ((i131856 : Int)) ∧ f' 13 = Value.int .i64 ((i141500 : Int)) ∧ f' 69 = Value.int .i64 (n24526) ∧ f' 70 = Value.int .i64 ((i87911 : Int)) ∧ f' 73 = Value.int .i64 (n24526) ∧ f' 74 = Value.int .i64 ((i131856 : Int)) ∧ f' 77 = Value.int .i64 (n24526) ∧ f' 78 = Value.int .i64 ((i141500 : Int)) ∧ f' 98 = Value.bool (z144736)) z144736) ?_ ?_
              · refine W_region ?_
                refine WL_step rfl rfl (Exec.move (v := v85807) rfl p144692 ?_)
                refine WL_step rfl rfl (Exec.move (v := Value.int .i64 ((i131856 : Int))) rfl p144694 ?_)
                obtain ⟨row144739, q144740, ht144737⟩ := bind_some ht144737
                obtain ⟨h144741, e144742, e144743, _⟩ := ((((hS144690).f2).f2).f1).rows_at q144740
                obtain ⟨g144744, c144745, e144746⟩ := (((hS144690).f2).f2).arr_at e144742
                refine WL_step rfl rfl (Exec.index_slice S61 rfl e144746 rfl (idx_some e144742).1 (idx_some e144742).2.1 ?_)
                refine WL_step rfl rfl (Exec.load_arr (F := encRaw) (((hS144690).f2).f2) e144746 A49 rfl rfl rfl e144742 (Sub.refl _) ?_)
                intro v144747 q144748
                replace q144748 := (encRaw_val.1 q144748).1
                subst v144747
                refine WL_step rfl rfl (Exec.move (v := Value.int .i64 ((i87911 : Int))) rfl p144693 ?_)
                obtain ⟨x144749, q144750, ht144737⟩ := bind_some ht144737
                obtain ⟨g144751, c144752, e144753⟩ := (((((hS144690).f2).f2).f1).rows_split e144743 (idx_some q144740).2.2).arr_at q144750
                refine WL_step rfl rfl (Exec.index_slice S49 rfl e144753 rfl (idx_some q144750).1 (idx_some q144750).2.1 ?_)
                refine WL_step rfl rfl (Exec.load_arr (F := (encInt .i64)) (((((hS144690).f2).f2).f1).rows_split e144743 (idx_some q144740).2.2) e144753 A3 rfl rfl rfl q144750 (Sub.refl _) ?_)
                intro v144754 q144755
                obtain rfl := encInt_val.1 q144755
                refine WL_step rfl rfl (Exec.lss rfl rfl rfl ?_)
                refine WL_step rfl rfl (Exec.move (v := Value.bool (decide (x144749 < 1125899906842624))) rfl rfl ?_)
                rcases ite_some ht144737 with ⟨hc144756, ht144737⟩ | ⟨hc144756, ht144737⟩
                · refine WL_run rfl (yield_of rfl (congrArg Value.bool hc144756)) rfl (Exec.move (v := v85807) rfl p144692 ?_)
                  refine WL_run rfl (yield_of rfl (congrArg Value.bool hc144756)) rfl (Exec.move (v := Value.int .i64 ((i87911 : Int))) rfl p144693 ?_)
                  obtain ⟨row144757, q144758, ht144737⟩ := bind_some ht144737
                  obtain ⟨h144759, e144760, e144761, _⟩ := ((((hS144690).f2).f2).f1).rows_at q144758
                  obtain ⟨g144762, c144763, e144764⟩ := (((hS144690).f2).f2).arr_at e144760
                  refine WL_run rfl (yield_of rfl (congrArg Value.bool hc144756)) rfl (Exec.index_slice S61 rfl e144764 rfl (idx_some e144760).1 (idx_some e144760).2.1 ?_)
                  refine WL_run rfl (yield_of rfl (congrArg Value.bool hc144756)) rfl (Exec.load_arr (F := encRaw) (((hS144690).f2).f2) e144764 A49 rfl rfl rfl e144760 (Sub.refl _) ?_)
                  intro v144765 q144766
                  replace q144766 := (encRaw_val.1 q144766).1
                  subst v144765
                  refine WL_run rfl (yield_of rfl (congrArg Value.bool hc144756)) rfl (Exec.move (v := Value.int .i64 ((i141500 : Int))) rfl rfl ?_)
                  obtain ⟨x144767, q144768, ht144737⟩ := bind_some ht144737
                  obtain ⟨g144769, c144770, e144771⟩ := (((((hS144690).f2).f2).f1).rows_split e144761 (idx_some q144758).2.2).arr_at q144768
                  refine WL_run rfl (yield_of rfl (congrArg Value.bool hc144756)) rfl (Exec.index_slice S49 rfl e144771 rfl (idx_some q144768).1 (idx_some q144768).2.1 ?_)
                  refine WL_run rfl (yield_of rfl (congrArg Value.bool hc144756)) rfl (Exec.load_arr (F := (encInt .i64)) (((((hS144690).f2).f2).f1).rows_split e144761 (idx_some q144758).2.2) e144771 A3 rfl rfl rfl q144768 (Sub.refl _) ?_)
                  intro v144772 q144773
                  obtain rfl := encInt_val.1 q144773
                  refine WL_run rfl (yield_of rfl (congrArg Value.bool hc144756)) rfl (Exec.lss rfl rfl rfl ?_)
                  refine WL_step rfl rfl (Exec.pick_t (v := Value.bool (decide (x144767 < 1125899906842624))) rfl (congrArg Value.bool hc144756) rfl ?_)
                  refine WL_nil (at_normal ?_)
                  have e144774 := Option.some.inj ht144737
                  subst z144736
                  have hS144775 := ((hS144690).f2).f2
                  have hS144776 := (hS144775).f2
                  exact ⟨s144688, (PHeap.le_refl _), hS144776, p144691, p144692, p144693, p144694, rfl, p144695, p144696, p144697, p144698, p144699, x144700, rfl⟩
                · replace hc144756 := not_true hc144756
                  refine WL_pass rfl (yield_of rfl (congrArg Value.bool hc144756)) rfl rfl ?_
                  refine WL_pass rfl (yield_of rfl (congrArg Value.bool hc144756)) rfl rfl ?_
                  refine WL_pass rfl (yield_of rfl (congrArg Value.bool hc144756)) rfl rfl ?_
                  refine WL_pass rfl (yield_of rfl (congrArg Value.bool hc144756)) rfl rfl ?_
                  refine WL_pass rfl (yield_of rfl (congrArg Value.bool hc144756)) rfl rfl ?_
                  refine WL_pass rfl (yield_of rfl (congrArg Value.bool hc144756)) rfl rfl ?_
                  refine WL_pass rfl (yield_of rfl (congrArg Value.bool hc144756)) rfl rfl ?_
                  refine WL_pass rfl (yield_of rfl (congrArg Value.bool hc144756)) rfl rfl ?_
                  refine WL_step rfl rfl (Exec.pick_f (v := Value.bool (false)) rfl (congrArg Value.bool hc144756) rfl ?_)
                  refine WL_nil (at_normal ?_)
                  have e144777 := Option.some.inj ht144737
                  subst z144736
                  have hS144778 := ((hS144690).f2).f2
                  have hS144779 := (hS144778).f2
                  exact ⟨s144688, (PHeap.le_refl _), hS144779, p144691, p144692, p144693, p144694, rfl, p144695, p144696, p144697, p144698, p144699, x144700, rfl⟩
              · intro f144780 w144781 hM144782
                obtain ⟨s144783, l144784, hS144785, p144786, p144787, p144788, p144789, p144790, p144791, p144792, p144793, p144794, p144795, p144796, p144797⟩ := hM144782
                refine (at_normal ?_)
                obtain ⟨l145530, ht145531, hm144687⟩ := bind_some hm144687
                refine W_mid (M := fun f' w' => (fun (l145530 : (List (List Int))) => ∃ (s145532 : PHeap) , PHeap.le s144783 s145532 ∧ St w0 s145532 (Res.arr encBound 32 v24528 bounds24527 :: Res.arr encRaw 49 v85807 hs85808 :: Res.rows (encInt .i64) 3 hs85808 l145530 :: H) w' ∧ f' 0 = Value.int .i64 (n24526) ∧ f' 6 = v85807 ∧ f' 11 = Value.int .i64 ((i87911 : Int)) ∧ f' 12 = Value.int .i64 ((i131856 : Int)) ∧ f' 69 = Value.int .i64 (n24526) ∧ f' 70 = Value.int .i64 ((i87911 : Int)) ∧ f' 73 = Value.int .i64 (n24526) ∧ f' 74 = Value.int .i64 ((i131856 : Int)) ∧ f' 77 = Value.int .i64 (n24526) ∧ f' 78 = Value.int .i64 ((i141500 : Int))) l145530) ?_ ?_
                · rcases ite_some ht145531 with ⟨hc145533, ht145531⟩ | ⟨hc145533, ht145531⟩
                  · refine W_cond_t p144797 hc145533 ?_
                    obtain ⟨row145937, q145938, ht145531⟩ := bind_some ht145531
                    obtain ⟨h145939, e145940, e145941, _⟩ := ((((hS144785).f2).f2).f1).rows_at q145938
                    obtain ⟨g145942, c145943, e145944⟩ := (((hS144785).f2).f2).arr_at e145940
                    obtain ⟨g145945, c145946, e145947⟩ := (((hS144785).f2).f2).arr_at e145940
                    obtain ⟨x145948, q145949, ht145531⟩ := bind_some ht145531
                    obtain ⟨g145950, c145951, e145952⟩ := (((((hS144785).f2).f2).f1).rows_split e145941 (idx_some q145938).2.2).arr_at q145949
                    obtain ⟨g145953, c145954, e145955⟩ := (((hS144785).f2).f2).arr_at e145940
                    obtain ⟨x145956, q145957, ht145531⟩ := bind_some ht145531
                    obtain ⟨g145958, c145959, e145960⟩ := (((((hS144785).f2).f2).f1).rows_split e145941 (idx_some q145938).2.2).arr_at q145957
                    obtain ⟨row145961, q145962, ht145531⟩ := bind_some ht145531
                    obtain ⟨h145963, e145964, e145965, _⟩ := ((((hS144785).f2).f2).f1).rows_at q145962
                    obtain ⟨g145966, c145967, e145968⟩ := (((hS144785).f2).f2).arr_at e145964
                    obtain ⟨x145969, q145970, ht145531⟩ := bind_some ht145531
                    obtain ⟨g145971, c145972, e145973⟩ := (((((hS144785).f2).f2).f1).rows_split e145965 (idx_some q145962).2.2).arr_at q145970
                    obtain ⟨g145974, c145975, e145976⟩ := (((((hS144785).f2).f2).f1).rows_split e145941 (idx_some q145938).2.2).arr_at q145949
                    obtain ⟨l145977, q145978, ht145531⟩ := bind_some ht145531
                    obtain ⟨l145979, q145980, ht145531⟩ := bind_some ht145531
                    have hS145981 := ((hS144785).f2).f2
                    refine W_drawn (n0 := 29) hmix (by kernel_rfl) [RP.eq (v85807), RP.eq (Value.int .i64 ((i131856 : Int))), RP.eq (Value.pointer (some ⟨g145942, 0 + ((i131856 : Int)).toNat * 1, none⟩)), RP.eq (h145939), RP.eq (Value.int .i64 ((i141500 : Int))), RP.eq (v85807), RP.eq (Value.int .i64 ((i131856 : Int))), RP.eq (Value.pointer (some ⟨g145945, 0 + ((i131856 : Int)).toNat * 1, none⟩)), RP.eq (h145939), RP.eq (Value.int .i64 ((i141500 : Int))), RP.eq (Value.pointer (some ⟨g145950, 0 + ((i141500 : Int)).toNat * 1, none⟩)), RP.eq (Value.int .i64 (x145948)), RP.eq (v85807), RP.eq (Value.int .i64 ((i131856 : Int))), RP.eq (Value.pointer (some ⟨g145953, 0 + ((i131856 : Int)).toNat * 1, none⟩)), RP.eq (h145939), RP.eq (Value.int .i64 ((i87911 : Int))), RP.eq (Value.pointer (some ⟨g145958, 0 + ((i87911 : Int)).toNat * 1, none⟩)), RP.eq (Value.int .i64 (x145956)), RP.eq (v85807), RP.eq (Value.int .i64 ((i87911 : Int))), RP.eq (Value.pointer (some ⟨g145966, 0 + ((i87911 : Int)).toNat * 1, none⟩)), RP.eq (h145963), RP.eq (Value.int .i64 ((i141500 : Int))), RP.eq (Value.pointer (some ⟨g145971, 0 + ((i141500 : Int)).toNat * 1, none⟩)), RP.eq (Value.int .i64 (x145969)), RP.eq (Value.int .i64 (IntKind.i64.wrap (x145956 + x145969))), RP.eq (Value.int .i64 (min x145948 (IntKind.i64.wrap (x145956 + x145969)))), RP.eq (Value.pointer (some ⟨g145974, 0 + ((i141500 : Int)).toNat * 1, none⟩))] hS145981 (HeadAll.cons ?_ (HeadAll.cons ?_ (HeadAll.cons ?_ (HeadAll.cons ?_ (HeadAll.cons ?_ (HeadAll.cons ?_ (HeadAll.cons ?_ (HeadAll.cons ?_ (HeadAll.cons ?_ (HeadAll.cons ?_ (HeadAll.cons ?_ (HeadAll.cons ?_ (HeadAll.cons ?_ (HeadAll.cons ?_ (HeadAll.cons ?_ (HeadAll.cons ?_ (HeadAll.cons ?_ (HeadAll.cons ?_ (HeadAll.cons ?_ (HeadAll.cons ?_ (HeadAll.cons ?_ (HeadAll.cons ?_ (HeadAll.cons ?_ (HeadAll.cons ?_ (HeadAll.cons ?_ (HeadAll.cons ?_ (HeadAll.cons ?_ (HeadAll.cons ?_ (HeadAll.cons ?_ (HeadAll.nil)))))))))))))))))))))))))))))) ?_
                    · intro g145982 s145983 w145984 l145985 hS145986 fr145987 pre145988
                      refine head_run rfl (Exec.move (v := v85807) rfl (Eq.trans (fr145987 6 rfl) p144787) ?_)
                      exact head_done hS145986 rfl
                    · intro g145989 s145990 w145991 l145992 hS145993 fr145994 pre145995
                      refine head_run rfl (Exec.move (v := Value.int .i64 ((i131856 : Int))) rfl (Eq.trans (fr145994 12 rfl) p144789) ?_)
                      exact head_done hS145993 rfl
                    · intro g145996 s145997 w145998 l145999 hS146000 fr146001 pre146002
                      have p146003 : g145996 99 = (v85807) := pre146002 0 _ rfl rfl
                      have p146004 : g145996 100 = (Value.int .i64 ((i131856 : Int))) := pre146002 1 _ rfl rfl
                      refine head_run rfl (Exec.index_slice S61 rfl (Eq.trans p146003 e145944) p146004 (idx_some e145940).1 (idx_some e145940).2.1 ?_)
                      exact head_done hS146000 rfl
                    · intro g146005 s146006 w146007 l146008 hS146009 fr146010 pre146011
                      have p146012 : g146005 101 = (Value.pointer (some ⟨g145942, 0 + ((i131856 : Int)).toNat * 1, none⟩)) := pre146011 0 _ rfl rfl
                      refine head_run rfl (Exec.load_arr (F := encRaw) (hS146009) e145944 A49 rfl p146012 rfl e145940 (Sub.refl _) ?_)
                      intro v146013 q146014
                      exact head_done hS146009 (encRaw_val.1 q146014).1
                    · intro g146015 s146016 w146017 l146018 hS146019 fr146020 pre146021
                      refine head_run rfl (Exec.move (v := Value.int .i64 ((i141500 : Int))) rfl (Eq.trans (fr146020 13 rfl) p144790) ?_)
                      exact head_done hS146019 rfl
                    · intro g146022 s146023 w146024 l146025 hS146026 fr146027 pre146028
                      refine head_run rfl (Exec.move (v := v85807) rfl (Eq.trans (fr146027 6 rfl) p144787) ?_)
                      exact head_done hS146026 rfl
                    · intro g146029 s146030 w146031 l146032 hS146033 fr146034 pre146035
                      refine head_run rfl (Exec.move (v := Value.int .i64 ((i131856 : Int))) rfl (Eq.trans (fr146034 12 rfl) p144789) ?_)
                      exact head_done hS146033 rfl
                    · intro g146036 s146037 w146038 l146039 hS146040 fr146041 pre146042
                      have p146043 : g146036 104 = (v85807) := pre146042 0 _ rfl rfl
                      have p146044 : g146036 105 = (Value.int .i64 ((i131856 : Int))) := pre146042 1 _ rfl rfl
                      refine head_run rfl (Exec.index_slice S61 rfl (Eq.trans p146043 e145947) p146044 (idx_some e145940).1 (idx_some e145940).2.1 ?_)
                      exact head_done hS146040 rfl
                    · intro g146045 s146046 w146047 l146048 hS146049 fr146050 pre146051
                      have p146052 : g146045 106 = (Value.pointer (some ⟨g145945, 0 + ((i131856 : Int)).toNat * 1, none⟩)) := pre146051 0 _ rfl rfl
                      refine head_run rfl (Exec.load_arr (F := encRaw) (hS146049) e145947 A49 rfl p146052 rfl e145940 (Sub.refl _) ?_)
                      intro v146053 q146054
                      exact head_done hS146049 (encRaw_val.1 q146054).1
                    · intro g146055 s146056 w146057 l146058 hS146059 fr146060 pre146061
                      refine head_run rfl (Exec.move (v := Value.int .i64 ((i141500 : Int))) rfl (Eq.trans (fr146060 13 rfl) p144790) ?_)
                      exact head_done hS146059 rfl
                    · intro g146062 s146063 w146064 l146065 hS146066 fr146067 pre146068
                      have p146069 : g146062 107 = (h145939) := pre146068 0 _ rfl rfl
                      have p146070 : g146062 108 = (Value.int .i64 ((i141500 : Int))) := pre146068 1 _ rfl rfl
                      refine head_run rfl (Exec.index_slice S49 rfl (Eq.trans p146069 e145952) p146070 (idx_some q145949).1 (idx_some q145949).2.1 ?_)
                      exact head_done hS146066 rfl
                    · intro g146071 s146072 w146073 l146074 hS146075 fr146076 pre146077
                      have p146078 : g146071 109 = (Value.pointer (some ⟨g145950, 0 + ((i141500 : Int)).toNat * 1, none⟩)) := pre146077 0 _ rfl rfl
                      refine head_run rfl (Exec.load_arr (F := (encInt .i64)) (((hS146075).f1).rows_split e145941 (idx_some q145938).2.2) e145952 A3 rfl p146078 rfl q145949 (Sub.refl _) ?_)
                      intro v146079 q146080
                      exact head_done hS146075 (encInt_val.1 q146080)
                    · intro g146081 s146082 w146083 l146084 hS146085 fr146086 pre146087
                      refine head_run rfl (Exec.move (v := v85807) rfl (Eq.trans (fr146086 6 rfl) p144787) ?_)
                      exact head_done hS146085 rfl
                    · intro g146088 s146089 w146090 l146091 hS146092 fr146093 pre146094
                      refine head_run rfl (Exec.move (v := Value.int .i64 ((i131856 : Int))) rfl (Eq.trans (fr146093 12 rfl) p144789) ?_)
                      exact head_done hS146092 rfl
                    · intro g146095 s146096 w146097 l146098 hS146099 fr146100 pre146101
                      have p146102 : g146095 112 = (Value.int .i64 ((i131856 : Int))) := pre146101 1 _ rfl rfl
                      have p146103 : g146095 111 = (v85807) := pre146101 0 _ rfl rfl
                      refine head_run rfl (Exec.index_slice S61 rfl (Eq.trans p146103 e145955) p146102 (idx_some e145940).1 (idx_some e145940).2.1 ?_)
                      exact head_done hS146099 rfl
                    · intro g146104 s146105 w146106 l146107 hS146108 fr146109 pre146110
                      have p146111 : g146104 113 = (Value.pointer (some ⟨g145953, 0 + ((i131856 : Int)).toNat * 1, none⟩)) := pre146110 0 _ rfl rfl
                      refine head_run rfl (Exec.load_arr (F := encRaw) (hS146108) e145955 A49 rfl p146111 rfl e145940 (Sub.refl _) ?_)
                      intro v146112 q146113
                      exact head_done hS146108 (encRaw_val.1 q146113).1
                    · intro g146114 s146115 w146116 l146117 hS146118 fr146119 pre146120
                      refine head_run rfl (Exec.move (v := Value.int .i64 ((i87911 : Int))) rfl (Eq.trans (fr146119 11 rfl) p144788) ?_)
                      exact head_done hS146118 rfl
                    · intro g146121 s146122 w146123 l146124 hS146125 fr146126 pre146127
                      have p146128 : g146121 114 = (h145939) := pre146127 0 _ rfl rfl
                      have p146129 : g146121 115 = (Value.int .i64 ((i87911 : Int))) := pre146127 1 _ rfl rfl
                      refine head_run rfl (Exec.index_slice S49 rfl (Eq.trans p146128 e145960) p146129 (idx_some q145957).1 (idx_some q145957).2.1 ?_)
                      exact head_done hS146125 rfl
                    · intro g146130 s146131 w146132 l146133 hS146134 fr146135 pre146136
                      have p146137 : g146130 116 = (Value.pointer (some ⟨g145958, 0 + ((i87911 : Int)).toNat * 1, none⟩)) := pre146136 0 _ rfl rfl
                      refine head_run rfl (Exec.load_arr (F := (encInt .i64)) (((hS146134).f1).rows_split e145941 (idx_some q145938).2.2) e145960 A3 rfl p146137 rfl q145957 (Sub.refl _) ?_)
                      intro v146138 q146139
                      exact head_done hS146134 (encInt_val.1 q146139)
                    · intro g146140 s146141 w146142 l146143 hS146144 fr146145 pre146146
                      refine head_run rfl (Exec.move (v := v85807) rfl (Eq.trans (fr146145 6 rfl) p144787) ?_)
                      exact head_done hS146144 rfl
                    · intro g146147 s146148 w146149 l146150 hS146151 fr146152 pre146153
                      refine head_run rfl (Exec.move (v := Value.int .i64 ((i87911 : Int))) rfl (Eq.trans (fr146152 11 rfl) p144788) ?_)
                      exact head_done hS146151 rfl
                    · intro g146154 s146155 w146156 l146157 hS146158 fr146159 pre146160
                      have p146161 : g146154 118 = (v85807) := pre146160 0 _ rfl rfl
                      have p146162 : g146154 119 = (Value.int .i64 ((i87911 : Int))) := pre146160 1 _ rfl rfl
                      refine head_run rfl (Exec.index_slice S61 rfl (Eq.trans p146161 e145968) p146162 (idx_some e145964).1 (idx_some e145964).2.1 ?_)
                      exact head_done hS146158 rfl
                    · intro g146163 s146164 w146165 l146166 hS146167 fr146168 pre146169
                      have p146170 : g146163 120 = (Value.pointer (some ⟨g145966, 0 + ((i87911 : Int)).toNat * 1, none⟩)) := pre146169 0 _ rfl rfl
                      refine head_run rfl (Exec.load_arr (F := encRaw) (hS146167) e145968 A49 rfl p146170 rfl e145964 (Sub.refl _) ?_)
                      intro v146171 q146172
                      exact head_done hS146167 (encRaw_val.1 q146172).1
                    · intro g146173 s146174 w146175 l146176 hS146177 fr146178 pre146179
                      refine head_run rfl (Exec.move (v := Value.int .i64 ((i141500 : Int))) rfl (Eq.trans (fr146178 13 rfl) p144790) ?_)
                      exact head_done hS146177 rfl
                    · intro g146180 s146181 w146182 l146183 hS146184 fr146185 pre146186
                      have p146187 : g146180 121 = (h145963) := pre146186 0 _ rfl rfl
                      have p146188 : g146180 122 = (Value.int .i64 ((i141500 : Int))) := pre146186 1 _ rfl rfl
                      refine head_run rfl (Exec.index_slice S49 rfl (Eq.trans p146187 e145973) p146188 (idx_some q145970).1 (idx_some q145970).2.1 ?_)
                      exact head_done hS146184 rfl
                    · intro g146189 s146190 w146191 l146192 hS146193 fr146194 pre146195
                      have p146196 : g146189 123 = (Value.pointer (some ⟨g145971, 0 + ((i141500 : Int)).toNat * 1, none⟩)) := pre146195 0 _ rfl rfl
                      refine head_run rfl (Exec.load_arr (F := (encInt .i64)) (((hS146193).f1).rows_split e145965 (idx_some q145962).2.2) e145973 A3 rfl p146196 rfl q145970 (Sub.refl _) ?_)
                      intro v146197 q146198
                      exact head_done hS146193 (encInt_val.1 q146198)
                    · intro g146199 s146200 w146201 l146202 hS146203 fr146204 pre146205
                      have p146206 : g146199 124 = (Value.int .i64 (x145969)) := pre146205 1 _ rfl rfl
                      have p146207 : g146199 117 = (Value.int .i64 (x145956)) := pre146205 0 _ rfl rfl
                      refine head_run rfl (Exec.add rfl p146207 p146206 ?_)
                      exact head_done hS146203 rfl
                    · intro g146208 s146209 w146210 l146211 hS146212 fr146213 pre146214
                      have p146215 : g146208 125 = (Value.int .i64 (IntKind.i64.wrap (x145956 + x145969))) := pre146214 1 _ rfl rfl
                      have p146216 : g146208 110 = (Value.int .i64 (x145948)) := pre146214 0 _ rfl rfl
                      refine head_run rfl (Exec.min2 rfl p146216 p146215 ?_)
                      exact head_done hS146212 rfl
                    · intro g146217 s146218 w146219 l146220 hS146221 fr146222 pre146223
                      have p146224 : g146217 102 = (h145939) := pre146223 0 _ rfl rfl
                      have p146225 : g146217 103 = (Value.int .i64 ((i141500 : Int))) := pre146223 1 _ rfl rfl
                      refine head_run rfl (Exec.index_slice S49 rfl (Eq.trans p146224 e145976) p146225 (idx_some q145949).1 (idx_some q145949).2.1 ?_)
                      exact head_done hS146221 rfl
                    · intro g146226 s146227 w146228 l146229 hS146230 fr146231 hR146232
                      have p146233 : g146226 99 = (v85807) := hR146232 0 rfl
                      have p146234 : g146226 100 = (Value.int .i64 ((i131856 : Int))) := hR146232 1 rfl
                      have p146235 : g146226 101 = (Value.pointer (some ⟨g145942, 0 + ((i131856 : Int)).toNat * 1, none⟩)) := hR146232 2 rfl
                      have p146236 : g146226 102 = (h145939) := hR146232 3 rfl
                      have p146237 : g146226 103 = (Value.int .i64 ((i141500 : Int))) := hR146232 4 rfl
                      have p146238 : g146226 104 = (v85807) := hR146232 5 rfl
                      have p146239 : g146226 105 = (Value.int .i64 ((i131856 : Int))) := hR146232 6 rfl
                      have p146240 : g146226 106 = (Value.pointer (some ⟨g145945, 0 + ((i131856 : Int)).toNat * 1, none⟩)) := hR146232 7 rfl
                      have p146241 : g146226 107 = (h145939) := hR146232 8 rfl
                      have p146242 : g146226 108 = (Value.int .i64 ((i141500 : Int))) := hR146232 9 rfl
                      have p146243 : g146226 109 = (Value.pointer (some ⟨g145950, 0 + ((i141500 : Int)).toNat * 1, none⟩)) := hR146232 10 rfl
                      have p146244 : g146226 110 = (Value.int .i64 (x145948)) := hR146232 11 rfl
                      have p146245 : g146226 111 = (v85807) := hR146232 12 rfl
                      have p146246 : g146226 112 = (Value.int .i64 ((i131856 : Int))) := hR146232 13 rfl
                      have p146247 : g146226 113 = (Value.pointer (some ⟨g145953, 0 + ((i131856 : Int)).toNat * 1, none⟩)) := hR146232 14 rfl
                      have p146248 : g146226 114 = (h145939) := hR146232 15 rfl
                      have p146249 : g146226 115 = (Value.int .i64 ((i87911 : Int))) := hR146232 16 rfl
                      have p146250 : g146226 116 = (Value.pointer (some ⟨g145958, 0 + ((i87911 : Int)).toNat * 1, none⟩)) := hR146232 17 rfl
                      have p146251 : g146226 117 = (Value.int .i64 (x145956)) := hR146232 18 rfl
                      have p146252 : g146226 118 = (v85807) := hR146232 19 rfl
                      have p146253 : g146226 119 = (Value.int .i64 ((i87911 : Int))) := hR146232 20 rfl
                      have p146254 : g146226 120 = (Value.pointer (some ⟨g145966, 0 + ((i87911 : Int)).toNat * 1, none⟩)) := hR146232 21 rfl
                      have p146255 : g146226 121 = (h145963) := hR146232 22 rfl
                      have p146256 : g146226 122 = (Value.int .i64 ((i141500 : Int))) := hR146232 23 rfl
                      have p146257 : g146226 123 = (Value.pointer (some ⟨g145971, 0 + ((i141500 : Int)).toNat * 1, none⟩)) := hR146232 24 rfl
                      have p146258 : g146226 124 = (Value.int .i64 (x145969)) := hR146232 25 rfl
                      have p146259 : g146226 125 = (Value.int .i64 (IntKind.i64.wrap (x145956 + x145969))) := hR146232 26 rfl
                      have p146260 : g146226 126 = (Value.int .i64 (min x145948 (IntKind.i64.wrap (x145956 + x145969)))) := hR146232 27 rfl
                      have p146261 : g146226 127 = (Value.pointer (some ⟨g145974, 0 + ((i141500 : Int)).toNat * 1, none⟩)) := hR146232 28 rfl
                      refine WL_step rfl rfl (Exec.store_arr (((hS146230).f1).rows_split e145941 (idx_some q145938).2.2) e145976 A3 rfl p146261 rfl p146260 (encInt_val.2 rfl) q145978 ?_)
                      intro w146262 hS146263
                      have hS146264 := (hS146263).rows_back e145941 (setI_some q145980).2.1
                      rw [← (setI_some q145980).2.2] at hS146264
                      have hS146265 := (hS146264).f1
                      refine WL_nil (at_normal ?_)
                      have e146266 := Option.some.inj ht145531
                      subst l145530
                      have hS146267 := (hS146265).f2
                      exact ⟨s146227, l146229, hS146267, (Eq.trans (fr146231 0 rfl) p144786), (Eq.trans (fr146231 6 rfl) p144787), (Eq.trans (fr146231 11 rfl) p144788), (Eq.trans (fr146231 12 rfl) p144789), (Eq.trans (fr146231 69 rfl) p144791), (Eq.trans (fr146231 70 rfl) p144792), (Eq.trans (fr146231 73 rfl) p144793), (Eq.trans (fr146231 74 rfl) p144794), (Eq.trans (fr146231 77 rfl) p144795), (Eq.trans (fr146231 78 rfl) p144796)⟩
                  · refine W_cond_f p144797 hc145533 ?_
                    replace hc145533 := not_true hc145533
                    refine W_skip (at_normal ?_)
                    have e146268 := Option.some.inj ht145531
                    subst l145530
                    have hS146269 := ((hS144785).f2).f2
                    have hS146270 := (hS146269).f2
                    exact ⟨s144783, (PHeap.le_refl _), hS146270, p144786, p144787, p144788, p144789, p144791, p144792, p144793, p144794, p144795, p144796⟩
                · intro f146271 w146272 hM146273
                  obtain ⟨s146274, l146275, hS146276, p146277, p146278, p146279, p146280, p146281, p146282, p146283, p146284, p146285, p146286⟩ := hM146273
                  refine (ib_normal (at_normal ?_))
                  refine W_region ?_
                  refine WL_step rfl rfl (Exec.add rfl p146286 rfl ?_)
                  refine WL_step rfl rfl (Exec.move (v := Value.int .i64 (IntKind.i64.wrap ((i141500 : Int) + 1))) rfl rfl ?_)
                  refine WL_nil (at_normal ?_)
                  have e146287 := Option.some.inj hm144687
                  subst s144682
                  have hS146288 := ((hS146276).f2).f2
                  have hS146289 := (hS146288).f2
                  exact ⟨s146274, (PHeap.le.trans (PHeap.le.trans l144689 l144784) l146275), hS146289, p146277, p146278, p146279, p146280, p146281, p146282, p146283, p146284, p146285, (Eq.trans rfl (wrap_up hi144685 (by have h := must_some q141499; simp at h; simp only [maxLen]; omega)))⟩
            · intro f146290 w146291 hI146292
              obtain ⟨s146293, l146294, hS146295, p146296, p146297, p146298, p146299, p146300, p146301, p146302, p146303, p146304, x146305⟩ := hI146292
              refine W_seq ?_
              refine W_region ?_
              refine WL_step rfl rfl (Exec.lss rfl x146305 p146304 ?_)
              refine WL_nil (at_normal ?_)
              refine W_seq ?_
              refine W_false (congrArg Value.bool (decide_eq_false (by omega))) ?_
              refine W_exit (at_exit (at_exit (ib_here (ib_normal (at_normal ?_)))))
              refine W_region ?_
              refine WL_step rfl rfl (Exec.add rfl p146303 rfl ?_)
              refine WL_step rfl rfl (Exec.move (v := Value.int .i64 (IntKind.i64.wrap ((i131856 : Int) + 1))) rfl rfl ?_)
              refine WL_nil (at_normal ?_)
              have e146306 := Option.some.inj hm141487
              subst s141482
              have hS146307 := ((hS146295).f2).f2
              have hS146308 := (hS146307).f2
              exact ⟨s146293, (PHeap.le.trans l141489 l146294), hS146308, p146296, p146297, p146298, p146300, p146301, p146302, (Eq.trans rfl (wrap_up hi141485 (by have h := must_some q131855; simp at h; simp only [maxLen]; omega)))⟩
          · intro f146309 w146310 hI146311
            obtain ⟨s146312, l146313, hS146314, p146315, p146316, p146317, p146318, p146319, p146320, x146321⟩ := hI146311
            refine W_seq ?_
            refine W_region ?_
            refine WL_step rfl rfl (Exec.lss rfl x146321 p146320 ?_)
            refine WL_nil (at_normal ?_)
            refine W_seq ?_
            refine W_false (congrArg Value.bool (decide_eq_false (by omega))) ?_
            refine W_exit (at_exit (at_exit (ib_here (at_normal ?_))))
            refine W_seq ?_
            refine W_region ?_
            refine WL_step rfl rfl (Exec.move (v := Value.int .i64 (n24526)) rfl p146315 ?_)
            refine WL_step rfl rfl (Exec.move (v := Value.int .i64 (0)) rfl rfl ?_)
            refine WL_nil (at_normal ?_)
            obtain ⟨u146322, q146323, hm131844⟩ := bind_some hm131844
            obtain ⟨c146397, hB146398, hr146399, hn146400, hb146401⟩ := ctl_some hm131844
            refine W_mid (M := fun f' w' => ∃ s', (c146397 = .next s' ∨ c146397 = .brk s') ∧ (fun (_ : Unit) => ∃ (s146403 : PHeap) , PHeap.le s146312 s146403 ∧ St w0 s146403 (Res.arr encBound 32 v24528 bounds24527 :: Res.arr encRaw 49 v85807 hs85808 :: Res.rows (encInt .i64) 3 hs85808 l136666 :: H) w' ∧ f' 0 = Value.int .i64 (n24526) ∧ f' 6 = v85807 ∧ f' 69 = Value.int .i64 (n24526) ∧ f' 70 = Value.int .i64 ((i87911 : Int)) ∧ f' 130 = Value.int .i64 (n24526)) s') ?_ ?_
            · refine W_block (W_forC (fun k' s' f' w' => (fun (_ : Unit) => ∃ (s146402 : PHeap) , PHeap.le s146312 s146402 ∧ St w0 s146402 (Res.arr encBound 32 v24528 bounds24527 :: Res.arr encRaw 49 v85807 hs85808 :: Res.rows (encInt .i64) 3 hs85808 l136666 :: H) w' ∧ f' 0 = Value.int .i64 (n24526) ∧ f' 6 = v85807 ∧ f' 69 = Value.int .i64 (n24526) ∧ f' 70 = Value.int .i64 ((i87911 : Int)) ∧ f' 130 = Value.int .i64 (n24526) ∧ f' 131 = Value.int .i64 (k' : Int)) s') hB146398 ?_ ?_ ?_)
              · have hS146404 := ((hS146314).f2).f2
                have hS146405 := (hS146404).f2
                exact ⟨s146312, (PHeap.le_refl _), hS146405, p146315, p146316, p146318, p146319, rfl, rfl⟩
              · intro i146324 t146413 c146407 f146408 w146409 hi146414 hI146410 hm146411 hres146412
                obtain ⟨s146415, l146416, hS146417, p146418, p146419, p146420, p146421, p146422, x146423⟩ := hI146410
                refine W_seq ?_
                refine W_region ?_
                refine WL_step rfl rfl (Exec.lss rfl x146423 p146422 ?_)
                refine WL_nil (at_normal ?_)
                refine W_seq ?_
                refine W_true (congrArg Value.bool (decide_eq_true (by omega))) ?_
                refine W_skip (at_normal ?_)
                refine W_seq ?_
                refine W_block ?_
                refine W_seq ?_
                refine W_region ?_
                refine WL_step rfl rfl (Exec.move (v := Value.int .i64 ((i146324 : Int))) rfl x146423 ?_)
                refine WL_step rfl rfl (Exec.assign (v := Value.int .i64 ((i146324 : Int))) rfl rfl ?_)
                refine WL_nil (at_normal ?_)
                refine W_seq ?_
                refine W_region ?_
                refine WL_step rfl rfl (Exec.move (v := v85807) rfl p146419 ?_)
                refine WL_step rfl rfl (Exec.move (v := Value.int .i64 ((i146324 : Int))) rfl rfl ?_)
                obtain ⟨row146441, q146442, hm146411⟩ := bind_some hm146411
                obtain ⟨h146443, e146444, e146445, _⟩ := ((((hS146417).f2).f2).f1).rows_at q146442
                obtain ⟨g146446, c146447, e146448⟩ := (((hS146417).f2).f2).arr_at e146444
                refine WL_step rfl rfl (Exec.index_slice S61 rfl e146448 rfl (idx_some e146444).1 (idx_some e146444).2.1 ?_)
                refine WL_step rfl rfl (Exec.load_arr (F := encRaw) (((hS146417).f2).f2) e146448 A49 rfl rfl rfl e146444 (Sub.refl _) ?_)
                intro v146449 q146450
                replace q146450 := (encRaw_val.1 q146450).1
                subst v146449
                refine WL_step rfl rfl (Exec.move (v := Value.int .i64 ((i146324 : Int))) rfl rfl ?_)
                obtain ⟨x146451, q146452, hm146411⟩ := bind_some hm146411
                obtain ⟨g146453, c146454, e146455⟩ := (((((hS146417).f2).f2).f1).rows_split e146445 (idx_some q146442).2.2).arr_at q146452
                refine WL_step rfl rfl (Exec.index_slice S49 rfl e146455 rfl (idx_some q146452).1 (idx_some q146452).2.1 ?_)
                refine WL_step rfl rfl (Exec.load_arr (F := (encInt .i64)) (((((hS146417).f2).f2).f1).rows_split e146445 (idx_some q146442).2.2) e146455 A3 rfl rfl rfl q146452 (Sub.refl _) ?_)
                intro v146456 q146457
                obtain rfl := encInt_val.1 q146457
                refine WL_step rfl rfl (Exec.lss rfl rfl rfl ?_)
                refine WL_nil (at_normal ?_)
                rcases ite_some hm146411 with ⟨hc146458, hm146411⟩ | ⟨hc146458, hm146411⟩
                · refine W_cond_t rfl hc146458 ?_
                  refine W_seq ?_
                  refine W_region ?_
                  refine WL_step rfl rfl (Exec.assign (v := Value.slice none 0 0) rfl rfl ?_)
                  refine WL_step rfl rfl (Exec.assign (v := Value.bool (false)) rfl rfl ?_)
                  refine WL_nil (at_normal ?_)
                  refine W_ret (ib_ret (at_ret (at_ret (ib_ret (at_ret (ib_ret (at_ret (at_ret (ib_ret (at_ret (at_ret ?_)))))))))))
                  have e146459 := Option.some.inj hm146411
                  subst c146407
                  have hq146460 := hr146399 _ (hres146412 (by intro _ h; cases h))
                  have e146461 := Option.some.inj hq146460
                  subst c131840
                  have hq146462 := hr131832 _ (hres131845 (by intro _ h; cases h))
                  have e146463 := Option.some.inj hq146462
                  subst r
                  refine ⟨_, ret2 rfl, ?_⟩
                  have hS146464 := ((((hS146417).f2).f2).drop).drop
                  exact ⟨s146415, (Value.slice none 0 0), (PHeap.le.trans (PHeap.le.trans (PHeap.le.trans (PHeap.le.trans l86382 l87902) l131848) l146313) l146416), hS146464, (tup2 rfl rfl), (SliceRep.nil _ _)⟩
                · refine W_cond_f rfl hc146458 ?_
                  replace hc146458 := not_true hc146458
                  refine W_skip (ib_normal (at_normal ?_))
                  refine W_region ?_
                  refine WL_step rfl rfl (Exec.add rfl x146423 rfl ?_)
                  refine WL_step rfl rfl (Exec.move (v := Value.int .i64 (IntKind.i64.wrap ((i146324 : Int) + 1))) rfl rfl ?_)
                  refine WL_nil (at_normal ?_)
                  have e146465 := Option.some.inj hm146411
                  subst c146407
                  have hS146466 := ((hS146417).f2).f2
                  have hS146467 := (hS146466).f2
                  refine ⟨_, rfl, ?_⟩; exact ⟨s146415, l146416, hS146467, p146418, p146419, p146420, p146421, p146422, (Eq.trans rfl (wrap_up hi146414 (by have h := must_some q146323; simp at h; simp only [maxLen]; omega)))⟩
              · intro t146468 f146469 w146470 hI146471 hres146472
                obtain ⟨s146473, l146474, hS146475, p146476, p146477, p146478, p146479, p146480, x146481⟩ := hI146471
                refine W_seq ?_
                refine W_region ?_
                refine WL_step rfl rfl (Exec.lss rfl x146481 p146480 ?_)
                refine WL_nil (at_normal ?_)
                refine W_seq ?_
                refine W_false (congrArg Value.bool (decide_eq_false (by omega))) ?_
                refine W_exit (at_exit (at_exit (ib_here (at_normal ?_))))
                have hS146482 := ((hS146475).f2).f2
                have hS146483 := (hS146482).f2
                refine ⟨_, .inl hres146472, ?_⟩; exact ⟨s146473, l146474, hS146483, p146476, p146477, p146478, p146479, p146480⟩
            · rintro f146484 w146485 ⟨t146486, hc146487, hM146488⟩
              have hm131844 := hc146487.elim (hn146400 _) (hb146401 _)
              clear hc146487
              obtain ⟨s146489, l146490, hS146491, p146492, p146493, p146494, p146495, p146496⟩ := hM146488
              refine (ib_normal (at_normal ?_))
              refine W_region ?_
              refine WL_step rfl rfl (Exec.add rfl p146495 rfl ?_)
              refine WL_step rfl rfl (Exec.move (v := Value.int .i64 (IntKind.i64.wrap ((i87911 : Int) + 1))) rfl rfl ?_)
              refine WL_nil (at_normal ?_)
              have e146497 := Option.some.inj hm131844
              subst c131840
              have hS146498 := ((hS146491).f2).f2
              have hS146499 := (hS146498).f2
              refine ⟨_, rfl, ?_⟩; exact ⟨s146489, (PHeap.le.trans (PHeap.le.trans l131848 l146313) l146490), hS146499, p146492, p146493, p146494, (Eq.trans rfl (wrap_up hi131846 (by have h := must_some q87910; simp at h; simp only [maxLen]; omega)))⟩
        · intro l102550 f146500 w146501 hI146502 hres146503
          obtain ⟨s146504, l146505, hS146506, p146507, p146508, p146509, x146510⟩ := hI146502
          refine W_seq ?_
          refine W_region ?_
          refine WL_step rfl rfl (Exec.lss rfl x146510 p146509 ?_)
          refine WL_nil (at_normal ?_)
          refine W_seq ?_
          refine W_false (congrArg Value.bool (decide_eq_false (by omega))) ?_
          refine W_exit (at_exit (at_exit (ib_here (at_normal ?_))))
          have hS146511 := ((hS146506).f2).f2
          have hS146512 := (hS146511).f2
          refine ⟨_, .inl hres146503, ?_⟩; exact ⟨s146504, l146505, hS146512, p146507, p146508, p146509⟩
      · rintro f146513 w146514 ⟨l131829, hc146515, hM146516⟩
        have hm := hc146515.elim (hn131833 _) (hb131834 _)
        clear hc146515
        obtain ⟨s146517, l146518, hS146519, p146520, p146521, p146522⟩ := hM146516
        refine (at_normal ?_)
        refine W_seq ?_
        refine W_region ?_
        refine WL_step rfl rfl (Exec.move (v := v85807) rfl p146521 ?_)
        refine WL_step rfl rfl (Exec.assign (v := v85807) rfl rfl ?_)
        refine WL_step rfl rfl (Exec.assign (v := Value.bool (true)) rfl rfl ?_)
        refine WL_nil (at_normal ?_)
        refine W_ret ?_
        have e146524 := Option.some.inj hm
        subst r
        refine ⟨_, ret2 rfl, ?_⟩
        have hS146525 := ((hS146519).f2).f2
        obtain ⟨s146526, l146527, hS146528, r146529⟩ := hS146525.freezeGrid
        exact ⟨s146526, v85807, (PHeap.le.trans (PHeap.le.trans (PHeap.le.trans l86382 l87902) l146518) l146527), hS146528, (tup2 rfl rfl), r146529⟩

theorem N12 : (Try.f12.name == "runtime.NumGoroutine") = false := by kernel_rfl

theorem ref54_Add_sim {w0 w : World} {s : PHeap} {H : List Res} {n24187 : Int} {bounds24188 : (List Bound)} {b24191 : Bound} {v24189 : Value} {r : (List Bound) × Int} (hm : ref54_Add_p n24187 bounds24188 b24191 = some r) (hS : St w0 s (H) w) (a24190 : SliceRep encBound s v24189 bounds24188) :
    Calls Try.prog 12 #[Value.int .i64 (n24187), v24189, Value.agg #[Value.int .i64 (b24191.A), Value.int .i64 (b24191.B), Value.int .i64 (b24191.Most)]] w fun e w' => ∃ v, e = .returned v ∧ ((un2 fun (y146552 : (List Bound)) (y146553 : Int) => ∃ (s146559 : PHeap) (v146558 : Value), PHeap.le s s146559 ∧ St w0 s146559 (H) w' ∧ v = Value.tuple #[v146558, Value.int .i64 (y146553)] ∧ SliceRep encBound s146559 v146558 y146552) r) := by
  unfold ref54_Add_p at hm
  refine calls_of_W Try.func12 rfl rfl ?_
  refine W_seq ?_
  refine W_region ?_
  refine WL_step rfl rfl (Exec.box (cs := [Value.int .i64 (b24191.A), Value.int .i64 (b24191.B), Value.int .i64 (b24191.Most)]) hS rfl rfl rfl ?_)
  intro b146563 w146564 hS146565
  refine WL_step rfl rfl (Exec.assign (v := Value.slice none 0 0) rfl rfl ?_)
  refine WL_step rfl rfl (Exec.assign (v := Value.int .i64 (0)) rfl rfl ?_)
  refine WL_nil (at_normal ?_)
  refine W_seq ?_
  refine W_seq ?_
  refine W_region ?_
  refine WL_step rfl rfl (Exec.move (v := Value.int .i64 (n24187)) rfl rfl ?_)
  refine WL_step rfl rfl (Exec.load_box_agg (ds := [Value.int .i64 (b24191.A), Value.int .i64 (b24191.B), Value.int .i64 (b24191.Most)]) (hS146565) A32 rfl rfl rfl ?_)
  refine WL_step rfl rfl (Exec.call rfl rfl Try.func24 rfl N24 (args_cons rfl (args_cons rfl args_nil)) ((ref54_Right_sim (ref54_Right_tot n24187 b24191) hS146565 ).mono ?_))
  rintro _ w146570 ⟨_, rfl, ⟨s146571, l146572, hS146573, rfl⟩⟩
  refine ⟨_, rfl, ?_⟩
  refine WL_step rfl rfl (Exec.not rfl rfl ?_)
  refine WL_nil (at_normal ?_)
  rcases ite_some hm with ⟨hc146574, hm⟩ | ⟨hc146574, hm⟩
  · refine W_cond_t rfl hc146574 ?_
    refine W_seq ?_
    refine W_region ?_
    refine WL_step rfl rfl (Exec.move (v := v24189) rfl rfl ?_)
    refine WL_step rfl rfl (Exec.assign (v := v24189) rfl rfl ?_)
    refine WL_step rfl rfl (Exec.assign (v := Value.int .i64 (1)) rfl rfl ?_)
    refine WL_nil (at_normal ?_)
    refine W_ret (at_ret ?_)
    have e146576 := Option.some.inj hm
    subst r
    refine ⟨_, ret2 rfl, ?_⟩
    have hS146577 := (hS146573).drop
    exact ⟨s146571, v24189, l146572, hS146577, (tup2 rfl rfl), (a24190.mono l146572)⟩
  · refine W_cond_f rfl hc146574 ?_
    replace hc146574 := not_true hc146574
    refine W_skip (at_normal ?_)
    refine W_seq ?_
    obtain ⟨l146708, q146709, hm⟩ := bind_some hm
    obtain ⟨l146716, q146717, hm⟩ := bind_some hm
    refine W_drawnR (n0 := 6) (Hs := Res.box b146563 32 [Value.int .i64 (b24191.A), Value.int .i64 (b24191.B), Value.int .i64 (b24191.Most)] :: []) hmix (by kernel_rfl) [RR.lit encBound 32 0 [], RR.of (RP.eq (v24189)), RR.arr encBound 32 l146708, RR.of (RP.eq (Value.agg #[Value.int .i64 (b24191.A), Value.int .i64 (b24191.B), Value.int .i64 (b24191.Most)])), RR.lit encBound 32 1 [b24191], RR.arr encBound 32 l146716] [[], [], [0], [], [], [2, 4]] (by kernel_rfl) hS146573 (HeadAll.cons ?_ (HeadAll.cons ?_ (HeadAll.cons ?_ (HeadAll.cons ?_ (HeadAll.cons ?_ (HeadAll.cons ?_ (HeadAll.nil))))))) ?_
    · intro g146722 s146723 w146724 F146725 L146726 le146727 hS146728 fr146729 pre146730
      have hS146731 : St w0 s146723 (Res.box b146563 32 [Value.int .i64 (b24191.A), Value.int .i64 (b24191.B), Value.int .i64 (b24191.Most)] :: F146725) w146724 := hS146728
      refine head_runR rfl (Exec.buildSlice (Te := 32) (cs := []) hS146731 rfl parts_nil (fun _ => by kernel_rfl) ?_)
      intro b146732 w146733 hS146734
      have hS146735 := (hS146734).f1
      have hS146736 := (hS146735).f1
      exact ⟨s146723, [Res.box b146732 32 []], (PHeap.le_refl _), hS146736, ⟨_, _, rfl, rfl, rfl⟩⟩
    · intro g146737 s146738 w146739 F146740 L146741 le146742 hS146743 fr146744 pre146745
      have hS146746 : St w0 s146738 (Res.box b146563 32 [Value.int .i64 (b24191.A), Value.int .i64 (b24191.B), Value.int .i64 (b24191.Most)] :: F146740) w146739 := hS146743
      refine head_runR rfl (Exec.move (v := v24189) rfl (fr146744 1 rfl) ?_)
      exact head_doneR hS146746 ⟨rfl, rfl⟩
    · intro g146747 s146748 w146749 F146750 L146751 le146752 hS146753 fr146754 pre146755
      obtain ⟨b146757, cs146758, ev146759, e146756, hr146760⟩ := (show ∃ b cs, g146747 16 = .slice (some ⟨b, 0, none⟩) 0 0 ∧ L146751 0 = [.box b 32 cs] ∧ reps encBound s146748 cs [] from (pre146755 0 _ rfl rfl (Or.inr (show 0 ∈ [0] by decide))))
      have hS146761 : St w0 s146748 (Res.box b146757 32 cs146758 :: Res.box b146563 32 [Value.int .i64 (b24191.A), Value.int .i64 (b24191.B), Value.int .i64 (b24191.Most)] :: F146750) w146749 := flat1 (show St _ _ ([0].flatMap L146751 ++ (Res.box b146563 32 [Value.int .i64 (b24191.A), Value.int .i64 (b24191.B), Value.int .i64 (b24191.Most)] :: [] ++ F146750)) _ from hS146753) e146756
      have p146762 : g146747 17 = (v24189) := (pre146755 1 _ rfl rfl (Or.inl rfl)).2
      have hS146763 := St.boxArr (E := encBound) (xs := []) hS146761 hr146760 (by simp [maxLen])
      refine head_runR rfl (Exec.append_rep (E := encBound) (ys := bounds24188) hS146763 S22 Z32 rfl (by decide) rfl ev146759 p146762 (a24190.mono (PHeap.le.trans l146572 le146752)) q146709 ?_)
      intro v146764 w146765 hS146766
      have hS146767 := (hS146766).f1
      have hS146768 := (hS146767).f1
      exact ⟨s146748, [Res.arr encBound 32 v146764 l146708], (PHeap.le_refl _), hS146768, rfl⟩
    · intro g146769 s146770 w146771 F146772 L146773 le146774 hS146775 fr146776 pre146777
      have hS146778 : St w0 s146770 (Res.box b146563 32 [Value.int .i64 (b24191.A), Value.int .i64 (b24191.B), Value.int .i64 (b24191.Most)] :: F146772) w146771 := hS146775
      refine head_runR rfl (Exec.load_box_agg (ds := [Value.int .i64 (b24191.A), Value.int .i64 (b24191.B), Value.int .i64 (b24191.Most)]) (hS146778) A32 rfl (fr146776 5 rfl) rfl ?_)
      exact head_doneR hS146778 ⟨rfl, rfl⟩
    · intro g146779 s146780 w146781 F146782 L146783 le146784 hS146785 fr146786 pre146787
      have hS146788 : St w0 s146780 (Res.box b146563 32 [Value.int .i64 (b24191.A), Value.int .i64 (b24191.B), Value.int .i64 (b24191.Most)] :: F146782) w146781 := hS146785
      have p146789 : g146779 19 = (Value.agg #[Value.int .i64 (b24191.A), Value.int .i64 (b24191.B), Value.int .i64 (b24191.Most)]) := (pre146787 0 _ rfl rfl (Or.inl rfl)).2
      refine head_runR rfl (Exec.buildSlice (Te := 32) (cs := [Value.int .i64 (b24191.A), Value.int .i64 (b24191.B), Value.int .i64 (b24191.Most)]) hS146788 rfl (parts_cons (c := [Value.int .i64 (b24191.A), Value.int .i64 (b24191.B), Value.int .i64 (b24191.Most)]) (cells_of p146789 rfl) parts_nil) (fun _ => by kernel_rfl) ?_)
      intro b146790 w146791 hS146792
      have hS146793 := (hS146792).f1
      have hS146794 := (hS146793).f1
      exact ⟨s146780, [Res.box b146790 32 [Value.int .i64 (b24191.A), Value.int .i64 (b24191.B), Value.int .i64 (b24191.Most)]], (PHeap.le_refl _), hS146794, ⟨_, _, rfl, rfl, ⟨[Value.int .i64 (b24191.A), Value.int .i64 (b24191.B), Value.int .i64 (b24191.Most)], [], rfl, ⟨[Value.int .i64 (b24191.A)], [Value.int .i64 (b24191.B), Value.int .i64 (b24191.Most)], rfl, rfl, ⟨[Value.int .i64 (b24191.B)], [Value.int .i64 (b24191.Most)], rfl, rfl, rfl⟩⟩, rfl⟩⟩⟩
    · intro g146795 s146796 w146797 F146798 L146799 le146800 hS146801 fr146802 pre146803
      have e146804 : L146799 2 = [Res.arr encBound 32 (g146795 18) l146708] := (pre146803 0 _ rfl rfl (Or.inr (show 2 ∈ [2, 4] by decide)))
      obtain ⟨b146806, cs146807, ev146808, e146805, hr146809⟩ := (show ∃ b cs, g146795 20 = .slice (some ⟨b, 0, none⟩) 1 1 ∧ L146799 4 = [.box b 32 cs] ∧ reps encBound s146796 cs [b24191] from (pre146803 1 _ rfl rfl (Or.inr (show 4 ∈ [2, 4] by decide))))
      have hS146810 : St w0 s146796 (Res.arr encBound 32 (g146795 18) l146708 :: Res.box b146806 32 cs146807 :: Res.box b146563 32 [Value.int .i64 (b24191.A), Value.int .i64 (b24191.B), Value.int .i64 (b24191.Most)] :: F146798) w146797 := flat2 (show St _ _ ([2, 4].flatMap L146799 ++ (Res.box b146563 32 [Value.int .i64 (b24191.A), Value.int .i64 (b24191.B), Value.int .i64 (b24191.Most)] :: [] ++ F146798)) _ from hS146801) e146804 e146805
      have hS146811 := (hS146810).f1
      have hS146812 := (hS146811).f1
      refine head_runR rfl (Exec.append_box (E := encBound) (ys := [b24191]) hS146812 S22 Z32 rfl (by decide) rfl rfl ev146808 rfl hr146809 rfl q146717 ?_)
      intro v146813 w146814 hS146815
      have hS146816 := (hS146815).f1
      have hS146817 := (hS146816).f1
      exact ⟨s146796, [Res.arr encBound 32 v146813 l146716], (PHeap.le_refl _), hS146817, rfl⟩
    · intro g146818 s146819 w146820 L146821 le146822 hS146823 fr146824 hR146825
      have e146826 : L146821 5 = [Res.arr encBound 32 (g146818 21) l146716] := (hR146825 5 rfl (Or.inr (show 5 ∈ [5] by decide)))
      have hS146827 : St w0 s146819 (Res.arr encBound 32 (g146818 21) l146716 :: Res.box b146563 32 [Value.int .i64 (b24191.A), Value.int .i64 (b24191.B), Value.int .i64 (b24191.Most)] :: H) w146820 := flat1 (show St _ _ ([5].flatMap L146821 ++ (Res.box b146563 32 [Value.int .i64 (b24191.A), Value.int .i64 (b24191.B), Value.int .i64 (b24191.Most)] :: [] ++ H)) _ from hS146823) e146826
      have p146828 : g146818 17 = (v24189) := (hR146825 1 rfl (Or.inl rfl)).2
      have p146829 : g146818 19 = (Value.agg #[Value.int .i64 (b24191.A), Value.int .i64 (b24191.B), Value.int .i64 (b24191.Most)]) := (hR146825 3 rfl (Or.inl rfl)).2
      refine WL_step rfl rfl (Exec.assign (v := (g146818 21)) rfl rfl ?_)
      refine WL_nil (at_normal ?_)
      refine W_seq ?_
      refine W_seq ?_
      refine W_region ?_
      refine WL_step rfl rfl (Exec.move (v := Value.int .i64 (n24187)) rfl (fr146824 0 rfl) ?_)
      refine WL_step rfl rfl (Exec.move (v := (g146818 21)) rfl rfl ?_)
      obtain ⟨t146840, q146841, hm⟩ := bind_some hm
      obtain ⟨y146842, y146843⟩ := t146840
      replace hm := un2_eq hm
      refine WL_step rfl rfl (Exec.call rfl rfl Try.func25 rfl N25 (args_cons rfl (args_cons rfl args_nil)) ((ref54_Distances_o_sim q146841 hS146827 ).mono ?_))
      rintro _ w146844 ⟨_, rfl, ⟨s146845, v146848, l146846, hS146847, rfl, r146849⟩⟩
      refine ⟨_, rfl, ?_⟩
      refine WL_step rfl rfl (Exec.move (v := Value.tuple #[v146848, Value.bool (y146843)]) rfl rfl ?_)
      refine WL_step rfl rfl (Exec.extract (v := v146848) rfl rfl rfl ?_)
      refine WL_step rfl rfl (Exec.extract (v := Value.bool (y146843)) rfl rfl rfl ?_)
      refine WL_step rfl rfl (Exec.assign (v := v146848) rfl rfl ?_)
      refine WL_step rfl rfl (Exec.assign (v := Value.bool (y146843)) rfl rfl ?_)
      refine WL_nil (at_normal ?_)
      refine W_seq ?_
      refine W_region ?_
      refine WL_step rfl rfl (Exec.move (v := Value.bool (y146843)) rfl rfl ?_)
      refine WL_step rfl rfl (Exec.not rfl rfl ?_)
      refine WL_nil (at_normal ?_)
      rcases ite_some hm with ⟨hc146850, hm⟩ | ⟨hc146850, hm⟩
      · refine W_cond_t rfl hc146850 ?_
        refine W_seq ?_
        refine W_region ?_
        refine WL_step rfl rfl (Exec.move (v := v24189) rfl (fr146824 1 rfl) ?_)
        refine WL_step rfl rfl (Exec.assign (v := v24189) rfl rfl ?_)
        refine WL_step rfl rfl (Exec.assign (v := Value.int .i64 (21)) rfl rfl ?_)
        refine WL_nil (at_normal ?_)
        refine W_ret (at_ret ?_)
        have e146852 := Option.some.inj hm
        subst r
        refine ⟨_, ret2 rfl, ?_⟩
        have hS146853 := (hS146847).drop
        have hS146854 := (hS146853).drop
        exact ⟨s146845, v24189, (PHeap.le.trans (PHeap.le.trans l146572 le146822) l146846), hS146854, (tup2 rfl rfl), (a24190.mono (PHeap.le.trans (PHeap.le.trans l146572 le146822) l146846))⟩
      · refine W_cond_f rfl hc146850 ?_
        replace hc146850 := not_true hc146850
        refine W_skip (at_normal ?_)
        refine W_seq ?_
        refine W_region ?_
        refine WL_step rfl rfl (Exec.move (v := (g146818 21)) rfl rfl ?_)
        refine WL_step rfl rfl (Exec.assign (v := (g146818 21)) rfl rfl ?_)
        refine WL_step rfl rfl (Exec.assign (v := Value.int .i64 (0)) rfl rfl ?_)
        refine WL_nil (at_normal ?_)
        refine W_ret ?_
        have e146856 := Option.some.inj hm
        subst r
        refine ⟨_, ret2 rfl, ?_⟩
        obtain ⟨s146857, l146858, hS146859, r146860⟩ := hS146847.freezeArr
        have hS146861 := (hS146859).drop
        exact ⟨s146857, (g146818 21), (PHeap.le.trans (PHeap.le.trans (PHeap.le.trans l146572 le146822) l146846) l146858), hS146861, (tup2 rfl rfl), r146860⟩

theorem ref54_Distances_sim {w0 w : World} {s : PHeap} {H : List Res} {n147272 : Int} {bounds147273 : (List Bound)} {v147274 : Value} {r : (List (List Int)) × Bool} (hm : ref54_Distances_p n147272 bounds147273 = some r) (hS : St w0 s (H) w) (a147275 : SliceRep encBound s v147274 bounds147273) :
    Calls Try.prog 25 #[Value.int .i64 (n147272), v147274] w fun e w' => ∃ v, e = .returned v ∧ ((un2 fun (y207741 : (List (List Int))) (y207742 : Bool) => ∃ (s207748 : PHeap) (v207747 : Value), PHeap.le s s207748 ∧ St w0 s207748 (H) w' ∧ v = Value.tuple #[v207747, Value.bool (y207742)] ∧ SliceRep (encSlice (encInt .i64)) s207748 v207747 y207741) r) := by
  unfold ref54_Distances_p at hm
  refine calls_of_W Try.func25 rfl rfl ?_
  refine W_seq ?_
  refine W_region ?_
  refine WL_step rfl rfl (Exec.assign (v := Value.slice none 0 0) rfl rfl ?_)
  refine WL_step rfl rfl (Exec.assign (v := Value.bool (false)) rfl rfl ?_)
  refine WL_nil (at_normal ?_)
  refine W_seq ?_
  refine W_region ?_
  refine WL_step rfl rfl (Exec.assign (v := Value.slice none 0 0) rfl rfl ?_)
  refine WL_nil (at_normal ?_)
  refine W_seq ?_
  refine W_seq ?_
  refine W_region ?_
  refine WL_step rfl rfl (Exec.move (v := Value.int .i64 (n147272)) rfl rfl ?_)
  refine WL_step rfl rfl (Exec.move (v := Value.int .i64 (0)) rfl rfl ?_)
  refine WL_nil (at_normal ?_)
  obtain ⟨u207749, q207750, hm⟩ := bind_some hm
  obtain ⟨out208017, hB208286, hm⟩ := bind_some hm
  refine W_block (W_forS (fun k' s' f' w' => (fun (out208017 : (List (List Int))) => ∃ (s208287 : PHeap) (v208018 : Value) (hs208019 : List Value), PHeap.le s s208287 ∧ St w0 s208287 (Res.arr encRaw 49 v208018 hs208019 :: Res.rows (encInt .i64) 3 hs208019 out208017 :: H) w' ∧ f' 0 = Value.int .i64 (n147272) ∧ f' 1 = v147274 ∧ f' 6 = v208018 ∧ f' 15 = Value.int .i64 (n147272) ∧ f' 16 = Value.int .i64 (k' : Int)) s') hB208286 ?_ ?_ ?_)
  · have hS208288 := (hS.rows_nil (encInt .i64) 3).nilArr encRaw 49
    exact ⟨s, (Value.slice none 0 0), [], (PHeap.le_refl _), hS208288, rfl, rfl, rfl, rfl, rfl⟩
  · intro i207751 out208017 s208290 f208291 w208292 hi208293 hI208294 hm208295
    obtain ⟨s208296, v208018, hs208019, l208297, hS208298, p208299, p208300, p208301, p208302, x208303⟩ := hI208294
    refine W_seq ?_
    refine W_region ?_
    refine WL_step rfl rfl (Exec.lss rfl x208303 p208302 ?_)
    refine WL_nil (at_normal ?_)
    refine W_seq ?_
    refine W_true (congrArg Value.bool (decide_eq_true (by omega))) ?_
    refine W_skip (at_normal ?_)
    refine W_seq ?_
    refine W_block ?_
    refine W_seq ?_
    refine W_region ?_
    refine WL_step rfl rfl (Exec.move (v := Value.int .i64 ((i207751 : Int))) rfl x208303 ?_)
    refine WL_step rfl rfl (Exec.assign (v := Value.int .i64 ((i207751 : Int))) rfl rfl ?_)
    refine WL_nil (at_normal ?_)
    refine W_seq ?_
    refine W_region ?_
    refine WL_step rfl rfl (Exec.move (v := v208018) rfl p208301 ?_)
    refine WL_step rfl rfl (Exec.move (v := Value.int .i64 (n147272)) rfl p208299 ?_)
    obtain ⟨l208322, q208323, hm208295⟩ := bind_some hm208295
    refine WL_step rfl rfl (Exec.make (E := (encInt .i64)) hS208298 S49 Z3 rfl rfl rfl rfl q208323 ?_)
    intro v208324 w208325 hS208326
    refine WL_step rfl rfl (Exec.buildSlice (Te := 49) (cs := [v208324]) hS208326 rfl (parts_cons (c := [v208324]) (cells_of rfl (cells_one (hS208326).arr_one)) parts_nil) (fun _ => by kernel_rfl) ?_)
    intro b208327 w208328 hS208329
    obtain ⟨l208330, q208331, hm208295⟩ := bind_some hm208295
    have hS208332 := (hS208329).f1
    have hS208333 := (hS208332).f1
    have hS208334 := ((hS208333).f3).f3
    have hS208335 := ((hS208334).f2).f1
    refine WL_step rfl rfl (Exec.append_grid (E := encRaw) (ys := [v208324]) hS208335 S61 Z49 rfl (by decide) rfl rfl rfl rfl (reps_one ⟨rfl, ((hS208335).f3).arr_one⟩) rfl rfl ((hS208335).f2).rows_len q208331 ?_)
    intro v208336 w208337 hS208338
    have hS208339 := ((hS208338).f1.f2.rows_push).f1
    rw [← (app_some q208331).2] at hS208339
    refine WL_step rfl rfl (Exec.assign (v := v208336) rfl rfl ?_)
    refine WL_nil (at_normal ?_)
    refine W_seq ?_
    refine W_seq ?_
    refine W_region ?_
    refine WL_step rfl rfl (Exec.move (v := Value.int .i64 (n147272)) rfl p208299 ?_)
    refine WL_step rfl rfl (Exec.move (v := Value.int .i64 (0)) rfl rfl ?_)
    refine WL_nil (at_normal ?_)
    obtain ⟨u208340, q208341, hm208295⟩ := bind_some hm208295
    obtain ⟨l208390, hB208439, hm208295⟩ := bind_some hm208295
    refine W_block (W_forS (fun k' s' f' w' => (fun (l208390 : (List (List Int))) => ∃ (s208440 : PHeap) , PHeap.le s208296 s208440 ∧ St w0 s208440 (Res.arr encRaw 49 v208336 (hs208019 ++ [v208324]) :: Res.rows (encInt .i64) 3 (hs208019 ++ [v208324]) l208390 :: H) w' ∧ f' 0 = Value.int .i64 (n147272) ∧ f' 1 = v147274 ∧ f' 6 = v208336 ∧ f' 7 = Value.int .i64 ((i207751 : Int)) ∧ f' 15 = Value.int .i64 (n147272) ∧ f' 16 = Value.int .i64 ((i207751 : Int)) ∧ f' 24 = Value.int .i64 (n147272) ∧ f' 25 = Value.int .i64 (k' : Int)) s') hB208439 ?_ ?_ ?_)
    · exact ⟨s208296, (PHeap.le_refl _), hS208339, p208299, p208300, rfl, rfl, p208302, x208303, rfl, rfl⟩
    · intro i208342 l208390 s208442 f208443 w208444 hi208445 hI208446 hm208447
      obtain ⟨s208448, l208449, hS208450, p208451, p208452, p208453, p208454, p208455, p208456, p208457, x208458⟩ := hI208446
      refine W_seq ?_
      refine W_region ?_
      refine WL_step rfl rfl (Exec.lss rfl x208458 p208457 ?_)
      refine WL_nil (at_normal ?_)
      refine W_seq ?_
      refine W_true (congrArg Value.bool (decide_eq_true (by omega))) ?_
      refine W_skip (at_normal ?_)
      refine W_seq ?_
      refine W_block ?_
      refine W_seq ?_
      refine W_region ?_
      refine WL_step rfl rfl (Exec.move (v := Value.int .i64 ((i208342 : Int))) rfl x208458 ?_)
      refine WL_step rfl rfl (Exec.assign (v := Value.int .i64 ((i208342 : Int))) rfl rfl ?_)
      refine WL_nil (at_normal ?_)
      refine W_region ?_
      refine WL_step rfl rfl (Exec.move (v := v208336) rfl p208453 ?_)
      refine WL_step rfl rfl (Exec.move (v := Value.int .i64 ((i207751 : Int))) rfl p208454 ?_)
      obtain ⟨row208482, q208483, hm208447⟩ := bind_some hm208447
      obtain ⟨h208484, e208485, e208486, _⟩ := ((hS208450).f1).rows_at q208483
      obtain ⟨g208487, c208488, e208489⟩ := (hS208450).arr_at e208485
      refine WL_step rfl rfl (Exec.index_slice S61 rfl e208489 rfl (idx_some e208485).1 (idx_some e208485).2.1 ?_)
      refine WL_step rfl rfl (Exec.load_arr (F := encRaw) (hS208450) e208489 A49 rfl rfl rfl e208485 (Sub.refl _) ?_)
      intro v208490 q208491
      replace q208491 := (encRaw_val.1 q208491).1
      subst v208490
      refine WL_step rfl rfl (Exec.move (v := Value.int .i64 ((i208342 : Int))) rfl rfl ?_)
      obtain ⟨x208492, q208493, hm208447⟩ := bind_some hm208447
      obtain ⟨g208494, c208495, e208496⟩ := (((hS208450).f1).rows_split e208486 (idx_some q208483).2.2).arr_at q208493
      refine WL_step rfl rfl (Exec.index_slice S49 rfl e208496 rfl (idx_some q208493).1 (idx_some q208493).2.1 ?_)
      obtain ⟨l208497, q208498, hm208447⟩ := bind_some hm208447
      obtain ⟨l208499, q208500, hm208447⟩ := bind_some hm208447
      refine WL_step rfl rfl (Exec.store_arr (((hS208450).f1).rows_split e208486 (idx_some q208483).2.2) e208496 A3 rfl rfl rfl rfl (encInt_val.2 rfl) q208498 ?_)
      intro w208501 hS208502
      have hS208503 := (hS208502).rows_back e208486 (setI_some q208500).2.1
      rw [← (setI_some q208500).2.2] at hS208503
      have hS208504 := (hS208503).f1
      refine WL_nil (ib_normal (at_normal ?_))
      refine W_region ?_
      refine WL_step rfl rfl (Exec.add rfl x208458 rfl ?_)
      refine WL_step rfl rfl (Exec.move (v := Value.int .i64 (IntKind.i64.wrap ((i208342 : Int) + 1))) rfl rfl ?_)
      refine WL_nil (at_normal ?_)
      have e208505 := Option.some.inj hm208447
      subst s208442
      exact ⟨s208448, l208449, hS208504, p208451, p208452, p208453, p208454, p208455, p208456, p208457, (Eq.trans rfl (wrap_up hi208445 (by have h := must_some q208341; simp at h; simp only [maxLen]; omega)))⟩
    · intro f208506 w208507 hI208508
      obtain ⟨s208509, l208510, hS208511, p208512, p208513, p208514, p208515, p208516, p208517, p208518, x208519⟩ := hI208508
      refine W_seq ?_
      refine W_region ?_
      refine WL_step rfl rfl (Exec.lss rfl x208519 p208518 ?_)
      refine WL_nil (at_normal ?_)
      refine W_seq ?_
      refine W_false (congrArg Value.bool (decide_eq_false (by omega))) ?_
      refine W_exit (at_exit (at_exit (ib_here (at_normal ?_))))
      refine W_region ?_
      refine WL_step rfl rfl (Exec.move (v := v208336) rfl p208514 ?_)
      refine WL_step rfl rfl (Exec.move (v := Value.int .i64 ((i207751 : Int))) rfl p208515 ?_)
      obtain ⟨row208543, q208544, hm208295⟩ := bind_some hm208295
      obtain ⟨h208545, e208546, e208547, _⟩ := ((hS208511).f1).rows_at q208544
      obtain ⟨g208548, c208549, e208550⟩ := (hS208511).arr_at e208546
      refine WL_step rfl rfl (Exec.index_slice S61 rfl e208550 rfl (idx_some e208546).1 (idx_some e208546).2.1 ?_)
      refine WL_step rfl rfl (Exec.load_arr (F := encRaw) (hS208511) e208550 A49 rfl rfl rfl e208546 (Sub.refl _) ?_)
      intro v208551 q208552
      replace q208552 := (encRaw_val.1 q208552).1
      subst v208551
      refine WL_step rfl rfl (Exec.move (v := Value.int .i64 ((i207751 : Int))) rfl p208515 ?_)
      obtain ⟨x208553, q208554, hm208295⟩ := bind_some hm208295
      obtain ⟨g208555, c208556, e208557⟩ := (((hS208511).f1).rows_split e208547 (idx_some q208544).2.2).arr_at q208554
      refine WL_step rfl rfl (Exec.index_slice S49 rfl e208557 rfl (idx_some q208554).1 (idx_some q208554).2.1 ?_)
      obtain ⟨l208558, q208559, hm208295⟩ := bind_some hm208295
      obtain ⟨l208560, q208561, hm208295⟩ := bind_some hm208295
      refine WL_step rfl rfl (Exec.store_arr (((hS208511).f1).rows_split e208547 (idx_some q208544).2.2) e208557 A3 rfl rfl rfl rfl (encInt_val.2 rfl) q208559 ?_)
      intro w208562 hS208563
      have hS208564 := (hS208563).rows_back e208547 (setI_some q208561).2.1
      rw [← (setI_some q208561).2.2] at hS208564
      have hS208565 := (hS208564).f1
      refine WL_nil (ib_normal (at_normal ?_))
      refine W_region ?_
      refine WL_step rfl rfl (Exec.add rfl p208517 rfl ?_)
      refine WL_step rfl rfl (Exec.move (v := Value.int .i64 (IntKind.i64.wrap ((i207751 : Int) + 1))) rfl rfl ?_)
      refine WL_nil (at_normal ?_)
      have e208566 := Option.some.inj hm208295
      subst s208290
      exact ⟨s208509, v208336, (hs208019 ++ [v208324]), (PHeap.le.trans l208297 l208510), hS208565, p208512, p208513, p208514, p208516, (Eq.trans rfl (wrap_up hi208293 (by have h := must_some q207750; simp at h; simp only [maxLen]; omega)))⟩
  · intro f208567 w208568 hI208569
    obtain ⟨s208570, v208018, hs208019, l208571, hS208572, p208573, p208574, p208575, p208576, x208577⟩ := hI208569
    refine W_seq ?_
    refine W_region ?_
    refine WL_step rfl rfl (Exec.lss rfl x208577 p208576 ?_)
    refine WL_nil (at_normal ?_)
    refine W_seq ?_
    refine W_false (congrArg Value.bool (decide_eq_false (by omega))) ?_
    refine W_exit (at_exit (at_exit (ib_here (at_normal ?_))))
    refine W_seq ?_
    refine W_seq ?_
    refine W_region ?_
    refine WL_step rfl rfl (Exec.move (v := v147274) rfl p208574 ?_)
    refine WL_step rfl rfl (Exec.len_rep S22 rfl rfl (a147275.mono l208571) ?_)
    refine WL_step rfl rfl (Exec.move (v := Value.int .i64 (0)) rfl rfl ?_)
    refine WL_nil (at_normal ?_)
    obtain ⟨l209074, hB209571, hm⟩ := bind_some hm
    refine W_block (W_forS (fun k' s' f' w' => (fun (l209074 : (List (List Int))) => ∃ (s209572 : PHeap) , PHeap.le s208570 s209572 ∧ St w0 s209572 (Res.arr encRaw 49 v208018 hs208019 :: Res.rows (encInt .i64) 3 hs208019 l209074 :: H) w' ∧ f' 0 = Value.int .i64 (n147272) ∧ f' 6 = v208018 ∧ f' 42 = v147274 ∧ f' 43 = Value.int .i64 ((bounds147273.length : Int)) ∧ f' 44 = Value.int .i64 (k' : Int)) s') hB209571 ?_ ?_ ?_)
    · exact ⟨s208570, (PHeap.le_refl _), hS208572, p208573, p208575, rfl, rfl, rfl⟩
    · intro i208578 l209074 s209574 f209575 w209576 hi209577 hI209578 hm209579
      obtain ⟨s209580, l209581, hS209582, p209583, p209584, p209585, p209586, x209587⟩ := hI209578
      refine W_seq ?_
      refine W_region ?_
      refine WL_step rfl rfl (Exec.lss rfl x209587 p209586 ?_)
      refine WL_nil (at_normal ?_)
      refine W_seq ?_
      refine W_true (congrArg Value.bool (decide_eq_true (by omega))) ?_
      refine W_skip (at_normal ?_)
      refine W_seq ?_
      refine W_block ?_
      refine W_seq ?_
      refine W_region ?_
      obtain ⟨x209600, q209601, hm209579⟩ := bind_some hm209579
      refine WL_step rfl rfl (Exec.index_rep S22 rfl p209585 x209587 (a147275.mono (PHeap.le.trans l208571 l209581)) q209601 ?_)
      intro b209602 o209603 a209604
      refine WL_step rfl rfl (Exec.load_at (E := encBound) hS209582 A32 rfl rfl rfl a209604 ?_)
      intro v209605 q209606
      obtain rfl := encBound_val.1 q209606
      refine WL_step rfl rfl (Exec.alloc (cs := [Value.int .i64 (0), Value.int .i64 (0), Value.int .i64 (0)]) hS209582 Z32 rfl rfl ?_)
      intro b209607 w209608 hS209609
      refine WL_step rfl rfl (Exec.store_box (ds := [Value.int .i64 (x209600.A), Value.int .i64 (x209600.B), Value.int .i64 (x209600.Most)]) (es := [Value.int .i64 (x209600.A), Value.int .i64 (x209600.B), Value.int .i64 (x209600.Most)]) hS209609 A32 rfl rfl rfl rfl (one_cons rfl (one_cons rfl (one_cons rfl one_nil))) (Nat.le_of_ble_eq_true rfl) rfl ?_)
      intro w209610 hS209611
      refine WL_nil (at_normal ?_)
      obtain ⟨row209863, q209864, hm209579⟩ := bind_some hm209579
      obtain ⟨h209865, e209866, e209867, _⟩ := ((((hS209611).f2).f2).f1).rows_at q209864
      obtain ⟨g209868, c209869, e209870⟩ := (((hS209611).f2).f2).arr_at e209866
      obtain ⟨g209871, c209872, e209873⟩ := (((hS209611).f2).f2).arr_at e209866
      obtain ⟨x209874, q209875, hm209579⟩ := bind_some hm209579
      obtain ⟨g209876, c209877, e209878⟩ := (((((hS209611).f2).f2).f1).rows_split e209867 (idx_some q209864).2.2).arr_at q209875
      obtain ⟨g209879, c209880, e209881⟩ := (((((hS209611).f2).f2).f1).rows_split e209867 (idx_some q209864).2.2).arr_at q209875
      obtain ⟨l209882, q209883, hm209579⟩ := bind_some hm209579
      obtain ⟨l209884, q209885, hm209579⟩ := bind_some hm209579
      have hS209886 := ((hS209611).f2).f2
      refine W_drawn (n0 := 20) hmix (by kernel_rfl) [RP.eq (v208018), RP.eq (Value.pointer (some ⟨b209607, 0, none⟩)), RP.eq (Value.int .i64 (x209600.A)), RP.eq (Value.pointer (some ⟨g209868, 0 + (x209600.A).toNat * 1, none⟩)), RP.eq (h209865), RP.eq (Value.pointer (some ⟨b209607, 1, none⟩)), RP.eq (Value.int .i64 (x209600.B)), RP.eq (v208018), RP.eq (Value.pointer (some ⟨b209607, 0, none⟩)), RP.eq (Value.int .i64 (x209600.A)), RP.eq (Value.pointer (some ⟨g209871, 0 + (x209600.A).toNat * 1, none⟩)), RP.eq (h209865), RP.eq (Value.pointer (some ⟨b209607, 1, none⟩)), RP.eq (Value.int .i64 (x209600.B)), RP.eq (Value.pointer (some ⟨g209876, 0 + (x209600.B).toNat * 1, none⟩)), RP.eq (Value.int .i64 (x209874)), RP.eq (Value.pointer (some ⟨b209607, 2, none⟩)), RP.eq (Value.int .i64 (x209600.Most)), RP.eq (Value.int .i64 (min x209874 x209600.Most)), RP.eq (Value.pointer (some ⟨g209879, 0 + (x209600.B).toNat * 1, none⟩))] hS209886 (HeadAll.cons ?_ (HeadAll.cons ?_ (HeadAll.cons ?_ (HeadAll.cons ?_ (HeadAll.cons ?_ (HeadAll.cons ?_ (HeadAll.cons ?_ (HeadAll.cons ?_ (HeadAll.cons ?_ (HeadAll.cons ?_ (HeadAll.cons ?_ (HeadAll.cons ?_ (HeadAll.cons ?_ (HeadAll.cons ?_ (HeadAll.cons ?_ (HeadAll.cons ?_ (HeadAll.cons ?_ (HeadAll.cons ?_ (HeadAll.cons ?_ (HeadAll.cons ?_ (HeadAll.nil))))))))))))))))))))) ?_
      · intro g209887 s209888 w209889 l209890 hS209891 fr209892 pre209893
        refine head_run rfl (Exec.move (v := v208018) rfl (Eq.trans (fr209892 6 rfl) p209584) ?_)
        exact head_done hS209891 rfl
      · intro g209894 s209895 w209896 l209897 hS209898 fr209899 pre209900
        refine head_run rfl (Exec.field F32_0 rfl (fr209899 10 rfl) rfl ?_)
        exact head_done hS209898 rfl
      · intro g209901 s209902 w209903 l209904 hS209905 fr209906 pre209907
        have p209908 : g209901 49 = (Value.pointer (some ⟨b209607, 0, none⟩)) := pre209907 0 _ rfl rfl
        refine head_run rfl (Exec.load_box ((hS209905).f2) A3 rfl p209908 rfl ?_)
        exact head_done hS209905 rfl
      · intro g209909 s209910 w209911 l209912 hS209913 fr209914 pre209915
        have p209916 : g209909 48 = (v208018) := pre209915 0 _ rfl rfl
        have p209917 : g209909 50 = (Value.int .i64 (x209600.A)) := pre209915 1 _ rfl rfl
        refine head_run rfl (Exec.index_slice S61 rfl (Eq.trans p209916 e209870) p209917 (idx_some e209866).1 (idx_some e209866).2.1 ?_)
        exact head_done hS209913 rfl
      · intro g209918 s209919 w209920 l209921 hS209922 fr209923 pre209924
        have p209925 : g209918 51 = (Value.pointer (some ⟨g209868, 0 + (x209600.A).toNat * 1, none⟩)) := pre209924 0 _ rfl rfl
        refine head_run rfl (Exec.load_arr (F := encRaw) (hS209922) e209870 A49 rfl p209925 rfl e209866 (Sub.refl _) ?_)
        intro v209926 q209927
        exact head_done hS209922 (encRaw_val.1 q209927).1
      · intro g209928 s209929 w209930 l209931 hS209932 fr209933 pre209934
        refine head_run rfl (Exec.field F32_1 rfl (fr209933 10 rfl) rfl ?_)
        exact head_done hS209932 rfl
      · intro g209935 s209936 w209937 l209938 hS209939 fr209940 pre209941
        have p209942 : g209935 53 = (Value.pointer (some ⟨b209607, 1, none⟩)) := pre209941 0 _ rfl rfl
        refine head_run rfl (Exec.load_box ((hS209939).f2) A3 rfl p209942 rfl ?_)
        exact head_done hS209939 rfl
      · intro g209943 s209944 w209945 l209946 hS209947 fr209948 pre209949
        refine head_run rfl (Exec.move (v := v208018) rfl (Eq.trans (fr209948 6 rfl) p209584) ?_)
        exact head_done hS209947 rfl
      · intro g209950 s209951 w209952 l209953 hS209954 fr209955 pre209956
        refine head_run rfl (Exec.field F32_0 rfl (fr209955 10 rfl) rfl ?_)
        exact head_done hS209954 rfl
      · intro g209957 s209958 w209959 l209960 hS209961 fr209962 pre209963
        have p209964 : g209957 56 = (Value.pointer (some ⟨b209607, 0, none⟩)) := pre209963 0 _ rfl rfl
        refine head_run rfl (Exec.load_box ((hS209961).f2) A3 rfl p209964 rfl ?_)
        exact head_done hS209961 rfl
      · intro g209965 s209966 w209967 l209968 hS209969 fr209970 pre209971
        have p209972 : g209965 57 = (Value.int .i64 (x209600.A)) := pre209971 1 _ rfl rfl
        have p209973 : g209965 55 = (v208018) := pre209971 0 _ rfl rfl
        refine head_run rfl (Exec.index_slice S61 rfl (Eq.trans p209973 e209873) p209972 (idx_some e209866).1 (idx_some e209866).2.1 ?_)
        exact head_done hS209969 rfl
      · intro g209974 s209975 w209976 l209977 hS209978 fr209979 pre209980
        have p209981 : g209974 58 = (Value.pointer (some ⟨g209871, 0 + (x209600.A).toNat * 1, none⟩)) := pre209980 0 _ rfl rfl
        refine head_run rfl (Exec.load_arr (F := encRaw) (hS209978) e209873 A49 rfl p209981 rfl e209866 (Sub.refl _) ?_)
        intro v209982 q209983
        exact head_done hS209978 (encRaw_val.1 q209983).1
      · intro g209984 s209985 w209986 l209987 hS209988 fr209989 pre209990
        refine head_run rfl (Exec.field F32_1 rfl (fr209989 10 rfl) rfl ?_)
        exact head_done hS209988 rfl
      · intro g209991 s209992 w209993 l209994 hS209995 fr209996 pre209997
        have p209998 : g209991 60 = (Value.pointer (some ⟨b209607, 1, none⟩)) := pre209997 0 _ rfl rfl
        refine head_run rfl (Exec.load_box ((hS209995).f2) A3 rfl p209998 rfl ?_)
        exact head_done hS209995 rfl
      · intro g209999 s210000 w210001 l210002 hS210003 fr210004 pre210005
        have p210006 : g209999 59 = (h209865) := pre210005 0 _ rfl rfl
        have p210007 : g209999 61 = (Value.int .i64 (x209600.B)) := pre210005 1 _ rfl rfl
        refine head_run rfl (Exec.index_slice S49 rfl (Eq.trans p210006 e209878) p210007 (idx_some q209875).1 (idx_some q209875).2.1 ?_)
        exact head_done hS210003 rfl
      · intro g210008 s210009 w210010 l210011 hS210012 fr210013 pre210014
        have p210015 : g210008 62 = (Value.pointer (some ⟨g209876, 0 + (x209600.B).toNat * 1, none⟩)) := pre210014 0 _ rfl rfl
        refine head_run rfl (Exec.load_arr (F := (encInt .i64)) (((hS210012).f1).rows_split e209867 (idx_some q209864).2.2) e209878 A3 rfl p210015 rfl q209875 (Sub.refl _) ?_)
        intro v210016 q210017
        exact head_done hS210012 (encInt_val.1 q210017)
      · intro g210018 s210019 w210020 l210021 hS210022 fr210023 pre210024
        refine head_run rfl (Exec.field F32_2 rfl (fr210023 10 rfl) rfl ?_)
        exact head_done hS210022 rfl
      · intro g210025 s210026 w210027 l210028 hS210029 fr210030 pre210031
        have p210032 : g210025 64 = (Value.pointer (some ⟨b209607, 2, none⟩)) := pre210031 0 _ rfl rfl
        refine head_run rfl (Exec.load_box ((hS210029).f2) A3 rfl p210032 rfl ?_)
        exact head_done hS210029 rfl
      · intro g210033 s210034 w210035 l210036 hS210037 fr210038 pre210039
        have p210040 : g210033 65 = (Value.int .i64 (x209600.Most)) := pre210039 1 _ rfl rfl
        have p210041 : g210033 63 = (Value.int .i64 (x209874)) := pre210039 0 _ rfl rfl
        refine head_run rfl (Exec.min2 rfl p210041 p210040 ?_)
        exact head_done hS210037 rfl
      · intro g210042 s210043 w210044 l210045 hS210046 fr210047 pre210048
        have p210049 : g210042 52 = (h209865) := pre210048 0 _ rfl rfl
        have p210050 : g210042 54 = (Value.int .i64 (x209600.B)) := pre210048 1 _ rfl rfl
        refine head_run rfl (Exec.index_slice S49 rfl (Eq.trans p210049 e209881) p210050 (idx_some q209875).1 (idx_some q209875).2.1 ?_)
        exact head_done hS210046 rfl
      · intro g210051 s210052 w210053 l210054 hS210055 fr210056 hR210057
        have p210058 : g210051 48 = (v208018) := hR210057 0 rfl
        have p210059 : g210051 49 = (Value.pointer (some ⟨b209607, 0, none⟩)) := hR210057 1 rfl
        have p210060 : g210051 50 = (Value.int .i64 (x209600.A)) := hR210057 2 rfl
        have p210061 : g210051 51 = (Value.pointer (some ⟨g209868, 0 + (x209600.A).toNat * 1, none⟩)) := hR210057 3 rfl
        have p210062 : g210051 52 = (h209865) := hR210057 4 rfl
        have p210063 : g210051 53 = (Value.pointer (some ⟨b209607, 1, none⟩)) := hR210057 5 rfl
        have p210064 : g210051 54 = (Value.int .i64 (x209600.B)) := hR210057 6 rfl
        have p210065 : g210051 55 = (v208018) := hR210057 7 rfl
        have p210066 : g210051 56 = (Value.pointer (some ⟨b209607, 0, none⟩)) := hR210057 8 rfl
        have p210067 : g210051 57 = (Value.int .i64 (x209600.A)) := hR210057 9 rfl
        have p210068 : g210051 58 = (Value.pointer (some ⟨g209871, 0 + (x209600.A).toNat * 1, none⟩)) := hR210057 10 rfl
        have p210069 : g210051 59 = (h209865) := hR210057 11 rfl
        have p210070 : g210051 60 = (Value.pointer (some ⟨b209607, 1, none⟩)) := hR210057 12 rfl
        have p210071 : g210051 61 = (Value.int .i64 (x209600.B)) := hR210057 13 rfl
        have p210072 : g210051 62 = (Value.pointer (some ⟨g209876, 0 + (x209600.B).toNat * 1, none⟩)) := hR210057 14 rfl
        have p210073 : g210051 63 = (Value.int .i64 (x209874)) := hR210057 15 rfl
        have p210074 : g210051 64 = (Value.pointer (some ⟨b209607, 2, none⟩)) := hR210057 16 rfl
        have p210075 : g210051 65 = (Value.int .i64 (x209600.Most)) := hR210057 17 rfl
        have p210076 : g210051 66 = (Value.int .i64 (min x209874 x209600.Most)) := hR210057 18 rfl
        have p210077 : g210051 67 = (Value.pointer (some ⟨g209879, 0 + (x209600.B).toNat * 1, none⟩)) := hR210057 19 rfl
        refine WL_step rfl rfl (Exec.store_arr (((hS210055).f1).rows_split e209867 (idx_some q209864).2.2) e209881 A3 rfl p210077 rfl p210076 (encInt_val.2 rfl) q209883 ?_)
        intro w210078 hS210079
        have hS210080 := (hS210079).rows_back e209867 (setI_some q209885).2.1
        rw [← (setI_some q209885).2.2] at hS210080
        have hS210081 := (hS210080).f1
        refine WL_nil (ib_normal (at_normal ?_))
        refine W_region ?_
        refine WL_step rfl rfl (Exec.add rfl (Eq.trans (fr210056 44 rfl) x209587) rfl ?_)
        refine WL_step rfl rfl (Exec.move (v := Value.int .i64 (IntKind.i64.wrap ((i208578 : Int) + 1))) rfl rfl ?_)
        refine WL_nil (at_normal ?_)
        have e210082 := Option.some.inj hm209579
        subst s209574
        have hS210083 := ((hS210081).f2).drop
        exact ⟨s210052, (PHeap.le.trans l209581 l210054), hS210083, (Eq.trans (fr210056 0 rfl) p209583), (Eq.trans (fr210056 6 rfl) p209584), (Eq.trans (fr210056 42 rfl) p209585), (Eq.trans (fr210056 43 rfl) p209586), (Eq.trans rfl (wrap_up hi209577 (SliceRep.le (a147275.mono l208571))))⟩
    · intro f210084 w210085 hI210086
      obtain ⟨s210087, l210088, hS210089, p210090, p210091, p210092, p210093, x210094⟩ := hI210086
      refine W_seq ?_
      refine W_region ?_
      refine WL_step rfl rfl (Exec.lss rfl x210094 p210093 ?_)
      refine WL_nil (at_normal ?_)
      refine W_seq ?_
      refine W_false (congrArg Value.bool (decide_eq_false (by omega))) ?_
      refine W_exit (at_exit (at_exit (ib_here (at_normal ?_))))
      refine W_seq ?_
      refine W_seq ?_
      refine W_region ?_
      refine WL_step rfl rfl (Exec.move (v := Value.int .i64 (n147272)) rfl p210090 ?_)
      refine WL_step rfl rfl (Exec.move (v := Value.int .i64 (0)) rfl rfl ?_)
      refine WL_nil (at_normal ?_)
      obtain ⟨u210095, q210096, hm⟩ := bind_some hm
      obtain ⟨c253653, hB253654, hr253655, hn253656, hb253657⟩ := ctl_some hm
      refine W_mid (M := fun f' w' => ∃ s', (c253653 = .next s' ∨ c253653 = .brk s') ∧ (fun (l253652 : (List (List Int))) => ∃ (s253659 : PHeap) , PHeap.le s210087 s253659 ∧ St w0 s253659 (Res.arr encRaw 49 v208018 hs208019 :: Res.rows (encInt .i64) 3 hs208019 l253652 :: H) w' ∧ f' 0 = Value.int .i64 (n147272) ∧ f' 6 = v208018 ∧ f' 69 = Value.int .i64 (n147272)) s') ?_ ?_
      · refine W_block (W_forC (fun k' s' f' w' => (fun (l224615 : (List (List Int))) => ∃ (s253658 : PHeap) , PHeap.le s210087 s253658 ∧ St w0 s253658 (Res.arr encRaw 49 v208018 hs208019 :: Res.rows (encInt .i64) 3 hs208019 l224615 :: H) w' ∧ f' 0 = Value.int .i64 (n147272) ∧ f' 6 = v208018 ∧ f' 69 = Value.int .i64 (n147272) ∧ f' 70 = Value.int .i64 (k' : Int)) s') hB253654 ?_ ?_ ?_)
        · exact ⟨s210087, (PHeap.le_refl _), hS210089, p210090, p210091, rfl, rfl⟩
        · intro i210097 l224615 c253661 f253662 w253663 hi253667 hI253664 hm253665 hres253666
          obtain ⟨s253668, l253669, hS253670, p253671, p253672, p253673, x253674⟩ := hI253664
          refine W_seq ?_
          refine W_region ?_
          refine WL_step rfl rfl (Exec.lss rfl x253674 p253673 ?_)
          refine WL_nil (at_normal ?_)
          refine W_seq ?_
          refine W_true (congrArg Value.bool (decide_eq_true (by omega))) ?_
          refine W_skip (at_normal ?_)
          refine W_seq ?_
          refine W_block ?_
          refine W_seq ?_
          refine W_region ?_
          refine WL_step rfl rfl (Exec.move (v := Value.int .i64 ((i210097 : Int))) rfl x253674 ?_)
          refine WL_step rfl rfl (Exec.assign (v := Value.int .i64 ((i210097 : Int))) rfl rfl ?_)
          refine WL_nil (at_normal ?_)
          refine W_seq ?_
          refine W_seq ?_
          refine W_region ?_
          refine WL_step rfl rfl (Exec.move (v := Value.int .i64 (n147272)) rfl p253671 ?_)
          refine WL_step rfl rfl (Exec.move (v := Value.int .i64 (0)) rfl rfl ?_)
          refine WL_nil (at_normal ?_)
          obtain ⟨u253675, q253676, hm253665⟩ := bind_some hm253665
          obtain ⟨l258450, hB263224, hm253665⟩ := bind_some hm253665
          refine W_block (W_forS (fun k' s' f' w' => (fun (l258450 : (List (List Int))) => ∃ (s263225 : PHeap) , PHeap.le s253668 s263225 ∧ St w0 s263225 (Res.arr encRaw 49 v208018 hs208019 :: Res.rows (encInt .i64) 3 hs208019 l258450 :: H) w' ∧ f' 0 = Value.int .i64 (n147272) ∧ f' 6 = v208018 ∧ f' 11 = Value.int .i64 ((i210097 : Int)) ∧ f' 69 = Value.int .i64 (n147272) ∧ f' 70 = Value.int .i64 ((i210097 : Int)) ∧ f' 73 = Value.int .i64 (n147272) ∧ f' 74 = Value.int .i64 (k' : Int)) s') hB263224 ?_ ?_ ?_)
          · exact ⟨s253668, (PHeap.le_refl _), hS253670, p253671, p253672, rfl, p253673, x253674, rfl, rfl⟩
          · intro i253677 l258450 s263227 f263228 w263229 hi263230 hI263231 hm263232
            obtain ⟨s263233, l263234, hS263235, p263236, p263237, p263238, p263239, p263240, p263241, x263242⟩ := hI263231
            refine W_seq ?_
            refine W_region ?_
            refine WL_step rfl rfl (Exec.lss rfl x263242 p263241 ?_)
            refine WL_nil (at_normal ?_)
            refine W_seq ?_
            refine W_true (congrArg Value.bool (decide_eq_true (by omega))) ?_
            refine W_skip (at_normal ?_)
            refine W_seq ?_
            refine W_block ?_
            refine W_seq ?_
            refine W_region ?_
            refine WL_step rfl rfl (Exec.move (v := Value.int .i64 ((i253677 : Int))) rfl x263242 ?_)
            refine WL_step rfl rfl (Exec.assign (v := Value.int .i64 ((i253677 : Int))) rfl rfl ?_)
            refine WL_nil (at_normal ?_)
            refine W_seq ?_
            refine W_region ?_
            refine WL_step rfl rfl (Exec.move (v := Value.int .i64 (n147272)) rfl p263236 ?_)
            refine WL_step rfl rfl (Exec.move (v := Value.int .i64 (0)) rfl rfl ?_)
            refine WL_nil (at_normal ?_)
            obtain ⟨u263243, q263244, hm263232⟩ := bind_some hm263232
            obtain ⟨l264822, hB266400, hm263232⟩ := bind_some hm263232
            refine W_block (W_forS (fun k' s' f' w' => (fun (l264822 : (List (List Int))) => ∃ (s266401 : PHeap) , PHeap.le s263233 s266401 ∧ St w0 s266401 (Res.arr encRaw 49 v208018 hs208019 :: Res.rows (encInt .i64) 3 hs208019 l264822 :: H) w' ∧ f' 0 = Value.int .i64 (n147272) ∧ f' 6 = v208018 ∧ f' 11 = Value.int .i64 ((i210097 : Int)) ∧ f' 12 = Value.int .i64 ((i253677 : Int)) ∧ f' 69 = Value.int .i64 (n147272) ∧ f' 70 = Value.int .i64 ((i210097 : Int)) ∧ f' 73 = Value.int .i64 (n147272) ∧ f' 74 = Value.int .i64 ((i253677 : Int)) ∧ f' 77 = Value.int .i64 (n147272) ∧ f' 78 = Value.int .i64 (k' : Int)) s') hB266400 ?_ ?_ ?_)
            · exact ⟨s263233, (PHeap.le_refl _), hS263235, p263236, p263237, p263238, rfl, p263239, p263240, p263241, x263242, rfl, rfl⟩
            · intro i263245 l264822 s266403 f266404 w266405 hi266406 hI266407 hm266408
              obtain ⟨s266409, l266410, hS266411, p266412, p266413, p266414, p266415, p266416, p266417, p266418, p266419, p266420, x266421⟩ := hI266407
              refine W_seq ?_
              refine W_region ?_
              refine WL_step rfl rfl (Exec.lss rfl x266421 p266420 ?_)
              refine WL_nil (at_normal ?_)
              refine W_seq ?_
              refine W_true (congrArg Value.bool (decide_eq_true (by omega))) ?_
              refine W_skip (at_normal ?_)
              refine W_seq ?_
              refine W_block ?_
              refine W_seq ?_
              refine W_region ?_
              refine WL_step rfl rfl (Exec.move (v := Value.int .i64 ((i263245 : Int))) rfl x266421 ?_)
              refine WL_step rfl rfl (Exec.assign (v := Value.int .i64 ((i263245 : Int))) rfl rfl ?_)
              refine WL_nil (at_normal ?_)
              refine W_seq ?_
              obtain ⟨z266457, ht266458, hm266408⟩ := bind_some hm266408
              refine W_mid (M := fun f' w' => (fun (z266457 : Bool) => ∃ (s266459 : PHeap) , PHeap.le s266409 s266459 ∧ St w0 s266459 (Res.arr encRaw 49 v208018 hs208019 :: Res.rows (encInt .i64) 3 hs208019 l264822 :: H) w' ∧ f' 0 = Value.int .i64 (n147272) ∧ f' 6 = v208018 ∧ f' 11 = Value.int .i64 ((i210097 : Int)) ∧ f' 12 = Value.int .i64 ((i253677 : Int)) ∧ f' 13 = Value.int .i64 ((i263245 : Int)) ∧ f' 69 = Value.int .i64 (n147272) ∧ f' 70 = Value.int .i64 ((i210097 : Int)) ∧ f' 73 = Value.int .i64 (n147272) ∧ f' 74 = Value.int .i64 ((i253677 : Int)) ∧ f' 77 = Value.int .i64 (n147272) ∧ f' 78 = Value.int .i64 ((i263245 : Int)) ∧ f' 98 = Value.bool (z266457)) z266457) ?_ ?_
              · refine W_region ?_
                refine WL_step rfl rfl (Exec.move (v := v208018) rfl p266413 ?_)
                refine WL_step rfl rfl (Exec.move (v := Value.int .i64 ((i253677 : Int))) rfl p266415 ?_)
                obtain ⟨row266460, q266461, ht266458⟩ := bind_some ht266458
                obtain ⟨h266462, e266463, e266464, _⟩ := ((hS266411).f1).rows_at q266461
                obtain ⟨g266465, c266466, e266467⟩ := (hS266411).arr_at e266463
                refine WL_step rfl rfl (Exec.index_slice S61 rfl e266467 rfl (idx_some e266463).1 (idx_some e266463).2.1 ?_)
                refine WL_step rfl rfl (Exec.load_arr (F := encRaw) (hS266411) e266467 A49 rfl rfl rfl e266463 (Sub.refl _) ?_)
                intro v266468 q266469
                replace q266469 := (encRaw_val.1 q266469).1
                subst v266468
                refine WL_step rfl rfl (Exec.move (v := Value.int .i64 ((i210097 : Int))) rfl p266414 ?_)
                obtain ⟨x266470, q266471, ht266458⟩ := bind_some ht266458
                obtain ⟨g266472, c266473, e266474⟩ := (((hS266411).f1).rows_split e266464 (idx_some q266461).2.2).arr_at q266471
                refine WL_step rfl rfl (Exec.index_slice S49 rfl e266474 rfl (idx_some q266471).1 (idx_some q266471).2.1 ?_)
                refine WL_step rfl rfl (Exec.load_arr (F := (encInt .i64)) (((hS266411).f1).rows_split e266464 (idx_some q266461).2.2) e266474 A3 rfl rfl rfl q266471 (Sub.refl _) ?_)
                intro v266475 q266476
                obtain rfl := encInt_val.1 q266476
                refine WL_step rfl rfl (Exec.lss rfl rfl rfl ?_)
                refine WL_step rfl rfl (Exec.move (v := Value.bool (decide (x266470 < 1125899906842624))) rfl rfl ?_)
                rcases ite_some ht266458 with ⟨hc266477, ht266458⟩ | ⟨hc266477, ht266458⟩
                · refine WL_run rfl (yield_of rfl (congrArg Value.bool hc266477)) rfl (Exec.move (v := v208018) rfl p266413 ?_)
                  refine WL_run rfl (yield_of rfl (congrArg Value.bool hc266477)) rfl (Exec.move (v := Value.int .i64 ((i210097 : Int))) rfl p266414 ?_)
                  obtain ⟨row266478, q266479, ht266458⟩ := bind_some ht266458
                  obtain ⟨h266480, e266481, e266482, _⟩ := ((hS266411).f1).rows_at q266479
                  obtain ⟨g266483, c266484, e266485⟩ := (hS266411).arr_at e266481
                  refine WL_run rfl (yield_of rfl (congrArg Value.bool hc266477)) rfl (Exec.index_slice S61 rfl e266485 rfl (idx_some e266481).1 (idx_some e266481).2.1 ?_)
                  refine WL_run rfl (yield_of rfl (congrArg Value.bool hc266477)) rfl (Exec.load_arr (F := encRaw) (hS266411) e266485 A49 rfl rfl rfl e266481 (Sub.refl _) ?_)
                  intro v266486 q266487
                  replace q266487 := (encRaw_val.1 q266487).1
                  subst v266486
                  refine WL_run rfl (yield_of rfl (congrArg Value.bool hc266477)) rfl (Exec.move (v := Value.int .i64 ((i263245 : Int))) rfl rfl ?_)
                  obtain ⟨x266488, q266489, ht266458⟩ := bind_some ht266458
                  obtain ⟨g266490, c266491, e266492⟩ := (((hS266411).f1).rows_split e266482 (idx_some q266479).2.2).arr_at q266489
                  refine WL_run rfl (yield_of rfl (congrArg Value.bool hc266477)) rfl (Exec.index_slice S49 rfl e266492 rfl (idx_some q266489).1 (idx_some q266489).2.1 ?_)
                  refine WL_run rfl (yield_of rfl (congrArg Value.bool hc266477)) rfl (Exec.load_arr (F := (encInt .i64)) (((hS266411).f1).rows_split e266482 (idx_some q266479).2.2) e266492 A3 rfl rfl rfl q266489 (Sub.refl _) ?_)
                  intro v266493 q266494
                  obtain rfl := encInt_val.1 q266494
                  refine WL_run rfl (yield_of rfl (congrArg Value.bool hc266477)) rfl (Exec.lss rfl rfl rfl ?_)
                  refine WL_step rfl rfl (Exec.pick_t (v := Value.bool (decide (x266488 < 1125899906842624))) rfl (congrArg Value.bool hc266477) rfl ?_)
                  refine WL_nil (at_normal ?_)
                  have e266495 := Option.some.inj ht266458
                  subst z266457
                  exact ⟨s266409, (PHeap.le_refl _), hS266411, p266412, p266413, p266414, p266415, rfl, p266416, p266417, p266418, p266419, p266420, x266421, rfl⟩
                · replace hc266477 := not_true hc266477
                  refine WL_pass rfl (yield_of rfl (congrArg Value.bool hc266477)) rfl rfl ?_
                  refine WL_pass rfl (yield_of rfl (congrArg Value.bool hc266477)) rfl rfl ?_
                  refine WL_pass rfl (yield_of rfl (congrArg Value.bool hc266477)) rfl rfl ?_
                  refine WL_pass rfl (yield_of rfl (congrArg Value.bool hc266477)) rfl rfl ?_
                  refine WL_pass rfl (yield_of rfl (congrArg Value.bool hc266477)) rfl rfl ?_
                  refine WL_pass rfl (yield_of rfl (congrArg Value.bool hc266477)) rfl rfl ?_
                  refine WL_pass rfl (yield_of rfl (congrArg Value.bool hc266477)) rfl rfl ?_
                  refine WL_pass rfl (yield_of rfl (congrArg Value.bool hc266477)) rfl rfl ?_
                  refine WL_step rfl rfl (Exec.pick_f (v := Value.bool (false)) rfl (congrArg Value.bool hc266477) rfl ?_)
                  refine WL_nil (at_normal ?_)
                  have e266496 := Option.some.inj ht266458
                  subst z266457
                  exact ⟨s266409, (PHeap.le_refl _), hS266411, p266412, p266413, p266414, p266415, rfl, p266416, p266417, p266418, p266419, p266420, x266421, rfl⟩
              · intro f266497 w266498 hM266499
                obtain ⟨s266500, l266501, hS266502, p266503, p266504, p266505, p266506, p266507, p266508, p266509, p266510, p266511, p266512, p266513, p266514⟩ := hM266499
                refine (at_normal ?_)
                obtain ⟨l267245, ht267246, hm266408⟩ := bind_some hm266408
                refine W_mid (M := fun f' w' => (fun (l267245 : (List (List Int))) => ∃ (s267247 : PHeap) , PHeap.le s266500 s267247 ∧ St w0 s267247 (Res.arr encRaw 49 v208018 hs208019 :: Res.rows (encInt .i64) 3 hs208019 l267245 :: H) w' ∧ f' 0 = Value.int .i64 (n147272) ∧ f' 6 = v208018 ∧ f' 11 = Value.int .i64 ((i210097 : Int)) ∧ f' 12 = Value.int .i64 ((i253677 : Int)) ∧ f' 69 = Value.int .i64 (n147272) ∧ f' 70 = Value.int .i64 ((i210097 : Int)) ∧ f' 73 = Value.int .i64 (n147272) ∧ f' 74 = Value.int .i64 ((i253677 : Int)) ∧ f' 77 = Value.int .i64 (n147272) ∧ f' 78 = Value.int .i64 ((i263245 : Int))) l267245) ?_ ?_
                · rcases ite_some ht267246 with ⟨hc267248, ht267246⟩ | ⟨hc267248, ht267246⟩
                  · refine W_cond_t p266514 hc267248 ?_
                    obtain ⟨row267651, q267652, ht267246⟩ := bind_some ht267246
                    obtain ⟨h267653, e267654, e267655, _⟩ := ((hS266502).f1).rows_at q267652
                    obtain ⟨g267656, c267657, e267658⟩ := (hS266502).arr_at e267654
                    obtain ⟨g267659, c267660, e267661⟩ := (hS266502).arr_at e267654
                    obtain ⟨x267662, q267663, ht267246⟩ := bind_some ht267246
                    obtain ⟨g267664, c267665, e267666⟩ := (((hS266502).f1).rows_split e267655 (idx_some q267652).2.2).arr_at q267663
                    obtain ⟨g267667, c267668, e267669⟩ := (hS266502).arr_at e267654
                    obtain ⟨x267670, q267671, ht267246⟩ := bind_some ht267246
                    obtain ⟨g267672, c267673, e267674⟩ := (((hS266502).f1).rows_split e267655 (idx_some q267652).2.2).arr_at q267671
                    obtain ⟨row267675, q267676, ht267246⟩ := bind_some ht267246
                    obtain ⟨h267677, e267678, e267679, _⟩ := ((hS266502).f1).rows_at q267676
                    obtain ⟨g267680, c267681, e267682⟩ := (hS266502).arr_at e267678
                    obtain ⟨x267683, q267684, ht267246⟩ := bind_some ht267246
                    obtain ⟨g267685, c267686, e267687⟩ := (((hS266502).f1).rows_split e267679 (idx_some q267676).2.2).arr_at q267684
                    obtain ⟨g267688, c267689, e267690⟩ := (((hS266502).f1).rows_split e267655 (idx_some q267652).2.2).arr_at q267663
                    obtain ⟨l267691, q267692, ht267246⟩ := bind_some ht267246
                    obtain ⟨l267693, q267694, ht267246⟩ := bind_some ht267246
                    refine W_drawn (n0 := 29) hmix (by kernel_rfl) [RP.eq (v208018), RP.eq (Value.int .i64 ((i253677 : Int))), RP.eq (Value.pointer (some ⟨g267656, 0 + ((i253677 : Int)).toNat * 1, none⟩)), RP.eq (h267653), RP.eq (Value.int .i64 ((i263245 : Int))), RP.eq (v208018), RP.eq (Value.int .i64 ((i253677 : Int))), RP.eq (Value.pointer (some ⟨g267659, 0 + ((i253677 : Int)).toNat * 1, none⟩)), RP.eq (h267653), RP.eq (Value.int .i64 ((i263245 : Int))), RP.eq (Value.pointer (some ⟨g267664, 0 + ((i263245 : Int)).toNat * 1, none⟩)), RP.eq (Value.int .i64 (x267662)), RP.eq (v208018), RP.eq (Value.int .i64 ((i253677 : Int))), RP.eq (Value.pointer (some ⟨g267667, 0 + ((i253677 : Int)).toNat * 1, none⟩)), RP.eq (h267653), RP.eq (Value.int .i64 ((i210097 : Int))), RP.eq (Value.pointer (some ⟨g267672, 0 + ((i210097 : Int)).toNat * 1, none⟩)), RP.eq (Value.int .i64 (x267670)), RP.eq (v208018), RP.eq (Value.int .i64 ((i210097 : Int))), RP.eq (Value.pointer (some ⟨g267680, 0 + ((i210097 : Int)).toNat * 1, none⟩)), RP.eq (h267677), RP.eq (Value.int .i64 ((i263245 : Int))), RP.eq (Value.pointer (some ⟨g267685, 0 + ((i263245 : Int)).toNat * 1, none⟩)), RP.eq (Value.int .i64 (x267683)), RP.eq (Value.int .i64 (IntKind.i64.wrap (x267670 + x267683))), RP.eq (Value.int .i64 (min x267662 (IntKind.i64.wrap (x267670 + x267683)))), RP.eq (Value.pointer (some ⟨g267688, 0 + ((i263245 : Int)).toNat * 1, none⟩))] hS266502 (HeadAll.cons ?_ (HeadAll.cons ?_ (HeadAll.cons ?_ (HeadAll.cons ?_ (HeadAll.cons ?_ (HeadAll.cons ?_ (HeadAll.cons ?_ (HeadAll.cons ?_ (HeadAll.cons ?_ (HeadAll.cons ?_ (HeadAll.cons ?_ (HeadAll.cons ?_ (HeadAll.cons ?_ (HeadAll.cons ?_ (HeadAll.cons ?_ (HeadAll.cons ?_ (HeadAll.cons ?_ (HeadAll.cons ?_ (HeadAll.cons ?_ (HeadAll.cons ?_ (HeadAll.cons ?_ (HeadAll.cons ?_ (HeadAll.cons ?_ (HeadAll.cons ?_ (HeadAll.cons ?_ (HeadAll.cons ?_ (HeadAll.cons ?_ (HeadAll.cons ?_ (HeadAll.cons ?_ (HeadAll.nil)))))))))))))))))))))))))))))) ?_
                    · intro g267695 s267696 w267697 l267698 hS267699 fr267700 pre267701
                      refine head_run rfl (Exec.move (v := v208018) rfl (Eq.trans (fr267700 6 rfl) p266504) ?_)
                      exact head_done hS267699 rfl
                    · intro g267702 s267703 w267704 l267705 hS267706 fr267707 pre267708
                      refine head_run rfl (Exec.move (v := Value.int .i64 ((i253677 : Int))) rfl (Eq.trans (fr267707 12 rfl) p266506) ?_)
                      exact head_done hS267706 rfl
                    · intro g267709 s267710 w267711 l267712 hS267713 fr267714 pre267715
                      have p267716 : g267709 99 = (v208018) := pre267715 0 _ rfl rfl
                      have p267717 : g267709 100 = (Value.int .i64 ((i253677 : Int))) := pre267715 1 _ rfl rfl
                      refine head_run rfl (Exec.index_slice S61 rfl (Eq.trans p267716 e267658) p267717 (idx_some e267654).1 (idx_some e267654).2.1 ?_)
                      exact head_done hS267713 rfl
                    · intro g267718 s267719 w267720 l267721 hS267722 fr267723 pre267724
                      have p267725 : g267718 101 = (Value.pointer (some ⟨g267656, 0 + ((i253677 : Int)).toNat * 1, none⟩)) := pre267724 0 _ rfl rfl
                      refine head_run rfl (Exec.load_arr (F := encRaw) (hS267722) e267658 A49 rfl p267725 rfl e267654 (Sub.refl _) ?_)
                      intro v267726 q267727
                      exact head_done hS267722 (encRaw_val.1 q267727).1
                    · intro g267728 s267729 w267730 l267731 hS267732 fr267733 pre267734
                      refine head_run rfl (Exec.move (v := Value.int .i64 ((i263245 : Int))) rfl (Eq.trans (fr267733 13 rfl) p266507) ?_)
                      exact head_done hS267732 rfl
                    · intro g267735 s267736 w267737 l267738 hS267739 fr267740 pre267741
                      refine head_run rfl (Exec.move (v := v208018) rfl (Eq.trans (fr267740 6 rfl) p266504) ?_)
                      exact head_done hS267739 rfl
                    · intro g267742 s267743 w267744 l267745 hS267746 fr267747 pre267748
                      refine head_run rfl (Exec.move (v := Value.int .i64 ((i253677 : Int))) rfl (Eq.trans (fr267747 12 rfl) p266506) ?_)
                      exact head_done hS267746 rfl
                    · intro g267749 s267750 w267751 l267752 hS267753 fr267754 pre267755
                      have p267756 : g267749 104 = (v208018) := pre267755 0 _ rfl rfl
                      have p267757 : g267749 105 = (Value.int .i64 ((i253677 : Int))) := pre267755 1 _ rfl rfl
                      refine head_run rfl (Exec.index_slice S61 rfl (Eq.trans p267756 e267661) p267757 (idx_some e267654).1 (idx_some e267654).2.1 ?_)
                      exact head_done hS267753 rfl
                    · intro g267758 s267759 w267760 l267761 hS267762 fr267763 pre267764
                      have p267765 : g267758 106 = (Value.pointer (some ⟨g267659, 0 + ((i253677 : Int)).toNat * 1, none⟩)) := pre267764 0 _ rfl rfl
                      refine head_run rfl (Exec.load_arr (F := encRaw) (hS267762) e267661 A49 rfl p267765 rfl e267654 (Sub.refl _) ?_)
                      intro v267766 q267767
                      exact head_done hS267762 (encRaw_val.1 q267767).1
                    · intro g267768 s267769 w267770 l267771 hS267772 fr267773 pre267774
                      refine head_run rfl (Exec.move (v := Value.int .i64 ((i263245 : Int))) rfl (Eq.trans (fr267773 13 rfl) p266507) ?_)
                      exact head_done hS267772 rfl
                    · intro g267775 s267776 w267777 l267778 hS267779 fr267780 pre267781
                      have p267782 : g267775 107 = (h267653) := pre267781 0 _ rfl rfl
                      have p267783 : g267775 108 = (Value.int .i64 ((i263245 : Int))) := pre267781 1 _ rfl rfl
                      refine head_run rfl (Exec.index_slice S49 rfl (Eq.trans p267782 e267666) p267783 (idx_some q267663).1 (idx_some q267663).2.1 ?_)
                      exact head_done hS267779 rfl
                    · intro g267784 s267785 w267786 l267787 hS267788 fr267789 pre267790
                      have p267791 : g267784 109 = (Value.pointer (some ⟨g267664, 0 + ((i263245 : Int)).toNat * 1, none⟩)) := pre267790 0 _ rfl rfl
                      refine head_run rfl (Exec.load_arr (F := (encInt .i64)) (((hS267788).f1).rows_split e267655 (idx_some q267652).2.2) e267666 A3 rfl p267791 rfl q267663 (Sub.refl _) ?_)
                      intro v267792 q267793
                      exact head_done hS267788 (encInt_val.1 q267793)
                    · intro g267794 s267795 w267796 l267797 hS267798 fr267799 pre267800
                      refine head_run rfl (Exec.move (v := v208018) rfl (Eq.trans (fr267799 6 rfl) p266504) ?_)
                      exact head_done hS267798 rfl
                    · intro g267801 s267802 w267803 l267804 hS267805 fr267806 pre267807
                      refine head_run rfl (Exec.move (v := Value.int .i64 ((i253677 : Int))) rfl (Eq.trans (fr267806 12 rfl) p266506) ?_)
                      exact head_done hS267805 rfl
                    · intro g267808 s267809 w267810 l267811 hS267812 fr267813 pre267814
                      have p267815 : g267808 112 = (Value.int .i64 ((i253677 : Int))) := pre267814 1 _ rfl rfl
                      have p267816 : g267808 111 = (v208018) := pre267814 0 _ rfl rfl
                      refine head_run rfl (Exec.index_slice S61 rfl (Eq.trans p267816 e267669) p267815 (idx_some e267654).1 (idx_some e267654).2.1 ?_)
                      exact head_done hS267812 rfl
                    · intro g267817 s267818 w267819 l267820 hS267821 fr267822 pre267823
                      have p267824 : g267817 113 = (Value.pointer (some ⟨g267667, 0 + ((i253677 : Int)).toNat * 1, none⟩)) := pre267823 0 _ rfl rfl
                      refine head_run rfl (Exec.load_arr (F := encRaw) (hS267821) e267669 A49 rfl p267824 rfl e267654 (Sub.refl _) ?_)
                      intro v267825 q267826
                      exact head_done hS267821 (encRaw_val.1 q267826).1
                    · intro g267827 s267828 w267829 l267830 hS267831 fr267832 pre267833
                      refine head_run rfl (Exec.move (v := Value.int .i64 ((i210097 : Int))) rfl (Eq.trans (fr267832 11 rfl) p266505) ?_)
                      exact head_done hS267831 rfl
                    · intro g267834 s267835 w267836 l267837 hS267838 fr267839 pre267840
                      have p267841 : g267834 114 = (h267653) := pre267840 0 _ rfl rfl
                      have p267842 : g267834 115 = (Value.int .i64 ((i210097 : Int))) := pre267840 1 _ rfl rfl
                      refine head_run rfl (Exec.index_slice S49 rfl (Eq.trans p267841 e267674) p267842 (idx_some q267671).1 (idx_some q267671).2.1 ?_)
                      exact head_done hS267838 rfl
                    · intro g267843 s267844 w267845 l267846 hS267847 fr267848 pre267849
                      have p267850 : g267843 116 = (Value.pointer (some ⟨g267672, 0 + ((i210097 : Int)).toNat * 1, none⟩)) := pre267849 0 _ rfl rfl
                      refine head_run rfl (Exec.load_arr (F := (encInt .i64)) (((hS267847).f1).rows_split e267655 (idx_some q267652).2.2) e267674 A3 rfl p267850 rfl q267671 (Sub.refl _) ?_)
                      intro v267851 q267852
                      exact head_done hS267847 (encInt_val.1 q267852)
                    · intro g267853 s267854 w267855 l267856 hS267857 fr267858 pre267859
                      refine head_run rfl (Exec.move (v := v208018) rfl (Eq.trans (fr267858 6 rfl) p266504) ?_)
                      exact head_done hS267857 rfl
                    · intro g267860 s267861 w267862 l267863 hS267864 fr267865 pre267866
                      refine head_run rfl (Exec.move (v := Value.int .i64 ((i210097 : Int))) rfl (Eq.trans (fr267865 11 rfl) p266505) ?_)
                      exact head_done hS267864 rfl
                    · intro g267867 s267868 w267869 l267870 hS267871 fr267872 pre267873
                      have p267874 : g267867 118 = (v208018) := pre267873 0 _ rfl rfl
                      have p267875 : g267867 119 = (Value.int .i64 ((i210097 : Int))) := pre267873 1 _ rfl rfl
                      refine head_run rfl (Exec.index_slice S61 rfl (Eq.trans p267874 e267682) p267875 (idx_some e267678).1 (idx_some e267678).2.1 ?_)
                      exact head_done hS267871 rfl
                    · intro g267876 s267877 w267878 l267879 hS267880 fr267881 pre267882
                      have p267883 : g267876 120 = (Value.pointer (some ⟨g267680, 0 + ((i210097 : Int)).toNat * 1, none⟩)) := pre267882 0 _ rfl rfl
                      refine head_run rfl (Exec.load_arr (F := encRaw) (hS267880) e267682 A49 rfl p267883 rfl e267678 (Sub.refl _) ?_)
                      intro v267884 q267885
                      exact head_done hS267880 (encRaw_val.1 q267885).1
                    · intro g267886 s267887 w267888 l267889 hS267890 fr267891 pre267892
                      refine head_run rfl (Exec.move (v := Value.int .i64 ((i263245 : Int))) rfl (Eq.trans (fr267891 13 rfl) p266507) ?_)
                      exact head_done hS267890 rfl
                    · intro g267893 s267894 w267895 l267896 hS267897 fr267898 pre267899
                      have p267900 : g267893 121 = (h267677) := pre267899 0 _ rfl rfl
                      have p267901 : g267893 122 = (Value.int .i64 ((i263245 : Int))) := pre267899 1 _ rfl rfl
                      refine head_run rfl (Exec.index_slice S49 rfl (Eq.trans p267900 e267687) p267901 (idx_some q267684).1 (idx_some q267684).2.1 ?_)
                      exact head_done hS267897 rfl
                    · intro g267902 s267903 w267904 l267905 hS267906 fr267907 pre267908
                      have p267909 : g267902 123 = (Value.pointer (some ⟨g267685, 0 + ((i263245 : Int)).toNat * 1, none⟩)) := pre267908 0 _ rfl rfl
                      refine head_run rfl (Exec.load_arr (F := (encInt .i64)) (((hS267906).f1).rows_split e267679 (idx_some q267676).2.2) e267687 A3 rfl p267909 rfl q267684 (Sub.refl _) ?_)
                      intro v267910 q267911
                      exact head_done hS267906 (encInt_val.1 q267911)
                    · intro g267912 s267913 w267914 l267915 hS267916 fr267917 pre267918
                      have p267919 : g267912 124 = (Value.int .i64 (x267683)) := pre267918 1 _ rfl rfl
                      have p267920 : g267912 117 = (Value.int .i64 (x267670)) := pre267918 0 _ rfl rfl
                      refine head_run rfl (Exec.add rfl p267920 p267919 ?_)
                      exact head_done hS267916 rfl
                    · intro g267921 s267922 w267923 l267924 hS267925 fr267926 pre267927
                      have p267928 : g267921 125 = (Value.int .i64 (IntKind.i64.wrap (x267670 + x267683))) := pre267927 1 _ rfl rfl
                      have p267929 : g267921 110 = (Value.int .i64 (x267662)) := pre267927 0 _ rfl rfl
                      refine head_run rfl (Exec.min2 rfl p267929 p267928 ?_)
                      exact head_done hS267925 rfl
                    · intro g267930 s267931 w267932 l267933 hS267934 fr267935 pre267936
                      have p267937 : g267930 102 = (h267653) := pre267936 0 _ rfl rfl
                      have p267938 : g267930 103 = (Value.int .i64 ((i263245 : Int))) := pre267936 1 _ rfl rfl
                      refine head_run rfl (Exec.index_slice S49 rfl (Eq.trans p267937 e267690) p267938 (idx_some q267663).1 (idx_some q267663).2.1 ?_)
                      exact head_done hS267934 rfl
                    · intro g267939 s267940 w267941 l267942 hS267943 fr267944 hR267945
                      have p267946 : g267939 99 = (v208018) := hR267945 0 rfl
                      have p267947 : g267939 100 = (Value.int .i64 ((i253677 : Int))) := hR267945 1 rfl
                      have p267948 : g267939 101 = (Value.pointer (some ⟨g267656, 0 + ((i253677 : Int)).toNat * 1, none⟩)) := hR267945 2 rfl
                      have p267949 : g267939 102 = (h267653) := hR267945 3 rfl
                      have p267950 : g267939 103 = (Value.int .i64 ((i263245 : Int))) := hR267945 4 rfl
                      have p267951 : g267939 104 = (v208018) := hR267945 5 rfl
                      have p267952 : g267939 105 = (Value.int .i64 ((i253677 : Int))) := hR267945 6 rfl
                      have p267953 : g267939 106 = (Value.pointer (some ⟨g267659, 0 + ((i253677 : Int)).toNat * 1, none⟩)) := hR267945 7 rfl
                      have p267954 : g267939 107 = (h267653) := hR267945 8 rfl
                      have p267955 : g267939 108 = (Value.int .i64 ((i263245 : Int))) := hR267945 9 rfl
                      have p267956 : g267939 109 = (Value.pointer (some ⟨g267664, 0 + ((i263245 : Int)).toNat * 1, none⟩)) := hR267945 10 rfl
                      have p267957 : g267939 110 = (Value.int .i64 (x267662)) := hR267945 11 rfl
                      have p267958 : g267939 111 = (v208018) := hR267945 12 rfl
                      have p267959 : g267939 112 = (Value.int .i64 ((i253677 : Int))) := hR267945 13 rfl
                      have p267960 : g267939 113 = (Value.pointer (some ⟨g267667, 0 + ((i253677 : Int)).toNat * 1, none⟩)) := hR267945 14 rfl
                      have p267961 : g267939 114 = (h267653) := hR267945 15 rfl
                      have p267962 : g267939 115 = (Value.int .i64 ((i210097 : Int))) := hR267945 16 rfl
                      have p267963 : g267939 116 = (Value.pointer (some ⟨g267672, 0 + ((i210097 : Int)).toNat * 1, none⟩)) := hR267945 17 rfl
                      have p267964 : g267939 117 = (Value.int .i64 (x267670)) := hR267945 18 rfl
                      have p267965 : g267939 118 = (v208018) := hR267945 19 rfl
                      have p267966 : g267939 119 = (Value.int .i64 ((i210097 : Int))) := hR267945 20 rfl
                      have p267967 : g267939 120 = (Value.pointer (some ⟨g267680, 0 + ((i210097 : Int)).toNat * 1, none⟩)) := hR267945 21 rfl
                      have p267968 : g267939 121 = (h267677) := hR267945 22 rfl
                      have p267969 : g267939 122 = (Value.int .i64 ((i263245 : Int))) := hR267945 23 rfl
                      have p267970 : g267939 123 = (Value.pointer (some ⟨g267685, 0 + ((i263245 : Int)).toNat * 1, none⟩)) := hR267945 24 rfl
                      have p267971 : g267939 124 = (Value.int .i64 (x267683)) := hR267945 25 rfl
                      have p267972 : g267939 125 = (Value.int .i64 (IntKind.i64.wrap (x267670 + x267683))) := hR267945 26 rfl
                      have p267973 : g267939 126 = (Value.int .i64 (min x267662 (IntKind.i64.wrap (x267670 + x267683)))) := hR267945 27 rfl
                      have p267974 : g267939 127 = (Value.pointer (some ⟨g267688, 0 + ((i263245 : Int)).toNat * 1, none⟩)) := hR267945 28 rfl
                      refine WL_step rfl rfl (Exec.store_arr (((hS267943).f1).rows_split e267655 (idx_some q267652).2.2) e267690 A3 rfl p267974 rfl p267973 (encInt_val.2 rfl) q267692 ?_)
                      intro w267975 hS267976
                      have hS267977 := (hS267976).rows_back e267655 (setI_some q267694).2.1
                      rw [← (setI_some q267694).2.2] at hS267977
                      have hS267978 := (hS267977).f1
                      refine WL_nil (at_normal ?_)
                      have e267979 := Option.some.inj ht267246
                      subst l267245
                      exact ⟨s267940, l267942, hS267978, (Eq.trans (fr267944 0 rfl) p266503), (Eq.trans (fr267944 6 rfl) p266504), (Eq.trans (fr267944 11 rfl) p266505), (Eq.trans (fr267944 12 rfl) p266506), (Eq.trans (fr267944 69 rfl) p266508), (Eq.trans (fr267944 70 rfl) p266509), (Eq.trans (fr267944 73 rfl) p266510), (Eq.trans (fr267944 74 rfl) p266511), (Eq.trans (fr267944 77 rfl) p266512), (Eq.trans (fr267944 78 rfl) p266513)⟩
                  · refine W_cond_f p266514 hc267248 ?_
                    replace hc267248 := not_true hc267248
                    refine W_skip (at_normal ?_)
                    have e267980 := Option.some.inj ht267246
                    subst l267245
                    exact ⟨s266500, (PHeap.le_refl _), hS266502, p266503, p266504, p266505, p266506, p266508, p266509, p266510, p266511, p266512, p266513⟩
                · intro f267981 w267982 hM267983
                  obtain ⟨s267984, l267985, hS267986, p267987, p267988, p267989, p267990, p267991, p267992, p267993, p267994, p267995, p267996⟩ := hM267983
                  refine (ib_normal (at_normal ?_))
                  refine W_region ?_
                  refine WL_step rfl rfl (Exec.add rfl p267996 rfl ?_)
                  refine WL_step rfl rfl (Exec.move (v := Value.int .i64 (IntKind.i64.wrap ((i263245 : Int) + 1))) rfl rfl ?_)
                  refine WL_nil (at_normal ?_)
                  have e267997 := Option.some.inj hm266408
                  subst s266403
                  exact ⟨s267984, (PHeap.le.trans (PHeap.le.trans l266410 l266501) l267985), hS267986, p267987, p267988, p267989, p267990, p267991, p267992, p267993, p267994, p267995, (Eq.trans rfl (wrap_up hi266406 (by have h := must_some q263244; simp at h; simp only [maxLen]; omega)))⟩
            · intro f267998 w267999 hI268000
              obtain ⟨s268001, l268002, hS268003, p268004, p268005, p268006, p268007, p268008, p268009, p268010, p268011, p268012, x268013⟩ := hI268000
              refine W_seq ?_
              refine W_region ?_
              refine WL_step rfl rfl (Exec.lss rfl x268013 p268012 ?_)
              refine WL_nil (at_normal ?_)
              refine W_seq ?_
              refine W_false (congrArg Value.bool (decide_eq_false (by omega))) ?_
              refine W_exit (at_exit (at_exit (ib_here (ib_normal (at_normal ?_)))))
              refine W_region ?_
              refine WL_step rfl rfl (Exec.add rfl p268011 rfl ?_)
              refine WL_step rfl rfl (Exec.move (v := Value.int .i64 (IntKind.i64.wrap ((i253677 : Int) + 1))) rfl rfl ?_)
              refine WL_nil (at_normal ?_)
              have e268014 := Option.some.inj hm263232
              subst s263227
              exact ⟨s268001, (PHeap.le.trans l263234 l268002), hS268003, p268004, p268005, p268006, p268008, p268009, p268010, (Eq.trans rfl (wrap_up hi263230 (by have h := must_some q253676; simp at h; simp only [maxLen]; omega)))⟩
          · intro f268015 w268016 hI268017
            obtain ⟨s268018, l268019, hS268020, p268021, p268022, p268023, p268024, p268025, p268026, x268027⟩ := hI268017
            refine W_seq ?_
            refine W_region ?_
            refine WL_step rfl rfl (Exec.lss rfl x268027 p268026 ?_)
            refine WL_nil (at_normal ?_)
            refine W_seq ?_
            refine W_false (congrArg Value.bool (decide_eq_false (by omega))) ?_
            refine W_exit (at_exit (at_exit (ib_here (at_normal ?_))))
            refine W_seq ?_
            refine W_region ?_
            refine WL_step rfl rfl (Exec.move (v := Value.int .i64 (n147272)) rfl p268021 ?_)
            refine WL_step rfl rfl (Exec.move (v := Value.int .i64 (0)) rfl rfl ?_)
            refine WL_nil (at_normal ?_)
            obtain ⟨u268028, q268029, hm253665⟩ := bind_some hm253665
            obtain ⟨c268103, hB268104, hr268105, hn268106, hb268107⟩ := ctl_some hm253665
            refine W_mid (M := fun f' w' => ∃ s', (c268103 = .next s' ∨ c268103 = .brk s') ∧ (fun (_ : Unit) => ∃ (s268109 : PHeap) , PHeap.le s268018 s268109 ∧ St w0 s268109 (Res.arr encRaw 49 v208018 hs208019 :: Res.rows (encInt .i64) 3 hs208019 l258450 :: H) w' ∧ f' 0 = Value.int .i64 (n147272) ∧ f' 6 = v208018 ∧ f' 69 = Value.int .i64 (n147272) ∧ f' 70 = Value.int .i64 ((i210097 : Int)) ∧ f' 130 = Value.int .i64 (n147272)) s') ?_ ?_
            · refine W_block (W_forC (fun k' s' f' w' => (fun (_ : Unit) => ∃ (s268108 : PHeap) , PHeap.le s268018 s268108 ∧ St w0 s268108 (Res.arr encRaw 49 v208018 hs208019 :: Res.rows (encInt .i64) 3 hs208019 l258450 :: H) w' ∧ f' 0 = Value.int .i64 (n147272) ∧ f' 6 = v208018 ∧ f' 69 = Value.int .i64 (n147272) ∧ f' 70 = Value.int .i64 ((i210097 : Int)) ∧ f' 130 = Value.int .i64 (n147272) ∧ f' 131 = Value.int .i64 (k' : Int)) s') hB268104 ?_ ?_ ?_)
              · exact ⟨s268018, (PHeap.le_refl _), hS268020, p268021, p268022, p268024, p268025, rfl, rfl⟩
              · intro i268030 t268117 c268111 f268112 w268113 hi268118 hI268114 hm268115 hres268116
                obtain ⟨s268119, l268120, hS268121, p268122, p268123, p268124, p268125, p268126, x268127⟩ := hI268114
                refine W_seq ?_
                refine W_region ?_
                refine WL_step rfl rfl (Exec.lss rfl x268127 p268126 ?_)
                refine WL_nil (at_normal ?_)
                refine W_seq ?_
                refine W_true (congrArg Value.bool (decide_eq_true (by omega))) ?_
                refine W_skip (at_normal ?_)
                refine W_seq ?_
                refine W_block ?_
                refine W_seq ?_
                refine W_region ?_
                refine WL_step rfl rfl (Exec.move (v := Value.int .i64 ((i268030 : Int))) rfl x268127 ?_)
                refine WL_step rfl rfl (Exec.assign (v := Value.int .i64 ((i268030 : Int))) rfl rfl ?_)
                refine WL_nil (at_normal ?_)
                refine W_seq ?_
                refine W_region ?_
                refine WL_step rfl rfl (Exec.move (v := v208018) rfl p268123 ?_)
                refine WL_step rfl rfl (Exec.move (v := Value.int .i64 ((i268030 : Int))) rfl rfl ?_)
                obtain ⟨row268145, q268146, hm268115⟩ := bind_some hm268115
                obtain ⟨h268147, e268148, e268149, _⟩ := ((hS268121).f1).rows_at q268146
                obtain ⟨g268150, c268151, e268152⟩ := (hS268121).arr_at e268148
                refine WL_step rfl rfl (Exec.index_slice S61 rfl e268152 rfl (idx_some e268148).1 (idx_some e268148).2.1 ?_)
                refine WL_step rfl rfl (Exec.load_arr (F := encRaw) (hS268121) e268152 A49 rfl rfl rfl e268148 (Sub.refl _) ?_)
                intro v268153 q268154
                replace q268154 := (encRaw_val.1 q268154).1
                subst v268153
                refine WL_step rfl rfl (Exec.move (v := Value.int .i64 ((i268030 : Int))) rfl rfl ?_)
                obtain ⟨x268155, q268156, hm268115⟩ := bind_some hm268115
                obtain ⟨g268157, c268158, e268159⟩ := (((hS268121).f1).rows_split e268149 (idx_some q268146).2.2).arr_at q268156
                refine WL_step rfl rfl (Exec.index_slice S49 rfl e268159 rfl (idx_some q268156).1 (idx_some q268156).2.1 ?_)
                refine WL_step rfl rfl (Exec.load_arr (F := (encInt .i64)) (((hS268121).f1).rows_split e268149 (idx_some q268146).2.2) e268159 A3 rfl rfl rfl q268156 (Sub.refl _) ?_)
                intro v268160 q268161
                obtain rfl := encInt_val.1 q268161
                refine WL_step rfl rfl (Exec.lss rfl rfl rfl ?_)
                refine WL_nil (at_normal ?_)
                rcases ite_some hm268115 with ⟨hc268162, hm268115⟩ | ⟨hc268162, hm268115⟩
                · refine W_cond_t rfl hc268162 ?_
                  refine W_seq ?_
                  refine W_region ?_
                  refine WL_step rfl rfl (Exec.assign (v := Value.slice none 0 0) rfl rfl ?_)
                  refine WL_step rfl rfl (Exec.assign (v := Value.bool (false)) rfl rfl ?_)
                  refine WL_nil (at_normal ?_)
                  refine W_ret (ib_ret (at_ret (at_ret (ib_ret (at_ret (ib_ret (at_ret (at_ret (ib_ret (at_ret (at_ret ?_)))))))))))
                  have e268163 := Option.some.inj hm268115
                  subst c268111
                  have hq268164 := hr268105 _ (hres268116 (by intro _ h; cases h))
                  have e268165 := Option.some.inj hq268164
                  subst c253661
                  have hq268166 := hr253655 _ (hres253666 (by intro _ h; cases h))
                  have e268167 := Option.some.inj hq268166
                  subst r
                  refine ⟨_, ret2 rfl, ?_⟩
                  have hS268168 := ((hS268121).drop).drop
                  exact ⟨s268119, (Value.slice none 0 0), (PHeap.le.trans (PHeap.le.trans (PHeap.le.trans (PHeap.le.trans l208571 l210088) l253669) l268019) l268120), hS268168, (tup2 rfl rfl), (SliceRep.nil _ _)⟩
                · refine W_cond_f rfl hc268162 ?_
                  replace hc268162 := not_true hc268162
                  refine W_skip (ib_normal (at_normal ?_))
                  refine W_region ?_
                  refine WL_step rfl rfl (Exec.add rfl x268127 rfl ?_)
                  refine WL_step rfl rfl (Exec.move (v := Value.int .i64 (IntKind.i64.wrap ((i268030 : Int) + 1))) rfl rfl ?_)
                  refine WL_nil (at_normal ?_)
                  have e268169 := Option.some.inj hm268115
                  subst c268111
                  refine ⟨_, rfl, ?_⟩; exact ⟨s268119, l268120, hS268121, p268122, p268123, p268124, p268125, p268126, (Eq.trans rfl (wrap_up hi268118 (by have h := must_some q268029; simp at h; simp only [maxLen]; omega)))⟩
              · intro t268170 f268171 w268172 hI268173 hres268174
                obtain ⟨s268175, l268176, hS268177, p268178, p268179, p268180, p268181, p268182, x268183⟩ := hI268173
                refine W_seq ?_
                refine W_region ?_
                refine WL_step rfl rfl (Exec.lss rfl x268183 p268182 ?_)
                refine WL_nil (at_normal ?_)
                refine W_seq ?_
                refine W_false (congrArg Value.bool (decide_eq_false (by omega))) ?_
                refine W_exit (at_exit (at_exit (ib_here (at_normal ?_))))
                refine ⟨_, .inl hres268174, ?_⟩; exact ⟨s268175, l268176, hS268177, p268178, p268179, p268180, p268181, p268182⟩
            · rintro f268184 w268185 ⟨t268186, hc268187, hM268188⟩
              have hm253665 := hc268187.elim (hn268106 _) (hb268107 _)
              clear hc268187
              obtain ⟨s268189, l268190, hS268191, p268192, p268193, p268194, p268195, p268196⟩ := hM268188
              refine (ib_normal (at_normal ?_))
              refine W_region ?_
              refine WL_step rfl rfl (Exec.add rfl p268195 rfl ?_)
              refine WL_step rfl rfl (Exec.move (v := Value.int .i64 (IntKind.i64.wrap ((i210097 : Int) + 1))) rfl rfl ?_)
              refine WL_nil (at_normal ?_)
              have e268197 := Option.some.inj hm253665
              subst c253661
              refine ⟨_, rfl, ?_⟩; exact ⟨s268189, (PHeap.le.trans (PHeap.le.trans l253669 l268019) l268190), hS268191, p268192, p268193, p268194, (Eq.trans rfl (wrap_up hi253667 (by have h := must_some q210096; simp at h; simp only [maxLen]; omega)))⟩
        · intro l224615 f268198 w268199 hI268200 hres268201
          obtain ⟨s268202, l268203, hS268204, p268205, p268206, p268207, x268208⟩ := hI268200
          refine W_seq ?_
          refine W_region ?_
          refine WL_step rfl rfl (Exec.lss rfl x268208 p268207 ?_)
          refine WL_nil (at_normal ?_)
          refine W_seq ?_
          refine W_false (congrArg Value.bool (decide_eq_false (by omega))) ?_
          refine W_exit (at_exit (at_exit (ib_here (at_normal ?_))))
          refine ⟨_, .inl hres268201, ?_⟩; exact ⟨s268202, l268203, hS268204, p268205, p268206, p268207⟩
      · rintro f268209 w268210 ⟨l253652, hc268211, hM268212⟩
        have hm := hc268211.elim (hn253656 _) (hb253657 _)
        clear hc268211
        obtain ⟨s268213, l268214, hS268215, p268216, p268217, p268218⟩ := hM268212
        refine (at_normal ?_)
        refine W_seq ?_
        refine W_region ?_
        refine WL_step rfl rfl (Exec.move (v := v208018) rfl p268217 ?_)
        refine WL_step rfl rfl (Exec.assign (v := v208018) rfl rfl ?_)
        refine WL_step rfl rfl (Exec.assign (v := Value.bool (true)) rfl rfl ?_)
        refine WL_nil (at_normal ?_)
        refine W_ret ?_
        have e268220 := Option.some.inj hm
        subst r
        refine ⟨_, ret2 rfl, ?_⟩
        obtain ⟨s268221, l268222, hS268223, r268224⟩ := hS268215.freezeGrid
        exact ⟨s268221, v208018, (PHeap.le.trans (PHeap.le.trans (PHeap.le.trans l208571 l210088) l268214) l268222), hS268223, (tup2 rfl rfl), r268224⟩

theorem base_Ints_o_sim {w0 w : World} {s : PHeap} {H : List Res} {a271382 : (List Int)} {b271385 : (List Int)} {v271383 : Value} {v271386 : Value} {r : Bool} (hm : base_Ints_o_p a271382 b271385 = some r) (hS : St w0 s (Res.arr (encInt .i64) 3 v271386 b271385 :: H) w) (a271384 : SliceRep (encInt .i64) s v271383 a271382) :
    Calls Try.prog 23 #[v271383, v271386] w fun e w' => ∃ v, e = .returned v ∧ ((fun (y272138 : Bool) => ∃ (s272139 : PHeap) , PHeap.le s s272139 ∧ St w0 s272139 (Res.arr (encInt .i64) 3 v271386 b271385 :: H) w' ∧ v = Value.bool (y272138)) r) := by
  unfold base_Ints_o_p at hm
  refine calls_of_W Try.func23 rfl rfl ?_
  refine W_seq ?_
  refine W_region ?_
  refine WL_step rfl rfl (Exec.assign (v := Value.bool (false)) rfl rfl ?_)
  refine WL_nil (at_normal ?_)
  refine W_seq ?_
  refine W_seq ?_
  refine W_region ?_
  refine WL_step rfl rfl (Exec.move (v := v271383) rfl rfl ?_)
  refine WL_step rfl rfl (Exec.len_rep S49 rfl rfl a271384 ?_)
  refine WL_step rfl rfl (Exec.move (v := v271386) rfl rfl ?_)
  refine WL_step rfl rfl (Exec.len_arr (hS) S49 rfl rfl ?_)
  refine WL_step rfl rfl (Exec.neq rfl rfl rfl ?_)
  refine WL_nil (at_normal ?_)
  rcases ite_some hm with ⟨hc272140, hm⟩ | ⟨hc272140, hm⟩
  · refine W_cond_t rfl hc272140 ?_
    refine W_seq ?_
    refine W_region ?_
    refine WL_step rfl rfl (Exec.assign (v := Value.bool (false)) rfl rfl ?_)
    refine WL_nil (at_normal ?_)
    refine W_ret (at_ret ?_)
    have e272142 := Option.some.inj hm
    subst r
    refine ⟨_, ret1 rfl, ?_⟩
    exact ⟨s, (PHeap.le_refl _), hS, rfl⟩
  · refine W_cond_f rfl hc272140 ?_
    replace hc272140 := not_true hc272140
    refine W_skip (at_normal ?_)
    refine W_seq ?_
    refine W_seq ?_
    refine W_region ?_
    refine WL_step rfl rfl (Exec.move (v := v271383) rfl rfl ?_)
    refine WL_step rfl rfl (Exec.len_rep S49 rfl rfl a271384 ?_)
    refine WL_step rfl rfl (Exec.move (v := Value.int .i64 (0)) rfl rfl ?_)
    refine WL_nil (at_normal ?_)
    obtain ⟨c272612, hB272613, hr272614, hn272615, hb272616⟩ := ctl_some hm
    refine W_mid (M := fun f' w' => ∃ s', (c272612 = .next s' ∨ c272612 = .brk s') ∧ (fun (_ : Unit) => ∃ (s272618 : PHeap) , PHeap.le s s272618 ∧ St w0 s272618 (Res.arr (encInt .i64) 3 v271386 b271385 :: H) w' ∧ f' 0 = v271383 ∧ f' 1 = v271386 ∧ f' 12 = Value.int .i64 ((a271382.length : Int))) s') ?_ ?_
    · refine W_block (W_forC (fun k' s' f' w' => (fun (_ : Unit) => ∃ (s272617 : PHeap) , PHeap.le s s272617 ∧ St w0 s272617 (Res.arr (encInt .i64) 3 v271386 b271385 :: H) w' ∧ f' 0 = v271383 ∧ f' 1 = v271386 ∧ f' 12 = Value.int .i64 ((a271382.length : Int)) ∧ f' 13 = Value.int .i64 (k' : Int)) s') hB272613 ?_ ?_ ?_)
      · exact ⟨s, (PHeap.le_refl _), hS, rfl, rfl, rfl, rfl⟩
      · intro i272143 t272626 c272620 f272621 w272622 hi272627 hI272623 hm272624 hres272625
        obtain ⟨s272628, l272629, hS272630, p272631, p272632, p272633, x272634⟩ := hI272623
        refine W_seq ?_
        refine W_region ?_
        refine WL_step rfl rfl (Exec.lss rfl x272634 p272633 ?_)
        refine WL_nil (at_normal ?_)
        refine W_seq ?_
        refine W_true (congrArg Value.bool (decide_eq_true (by omega))) ?_
        refine W_skip (at_normal ?_)
        refine W_seq ?_
        refine W_block ?_
        refine W_seq ?_
        refine W_region ?_
        refine WL_step rfl rfl (Exec.move (v := Value.int .i64 ((i272143 : Int))) rfl x272634 ?_)
        refine WL_step rfl rfl (Exec.assign (v := Value.int .i64 ((i272143 : Int))) rfl rfl ?_)
        refine WL_nil (at_normal ?_)
        refine W_seq ?_
        obtain ⟨x272758, q272759, hm272624⟩ := bind_some hm272624
        obtain ⟨x272760, q272761, hm272624⟩ := bind_some hm272624
        obtain ⟨g272762, c272763, e272764⟩ := (hS272630).arr_at q272761
        refine W_drawn (n0 := 9) hmix (by kernel_rfl) [RP.eq (v271383), RP.eq (Value.int .i64 ((i272143 : Int))), RP.at (encInt .i64) x272758, RP.eq (Value.int .i64 (x272758)), RP.eq (v271386), RP.eq (Value.int .i64 ((i272143 : Int))), RP.eq (Value.pointer (some ⟨g272762, 0 + ((i272143 : Int)).toNat * 1, none⟩)), RP.eq (Value.int .i64 (x272760)), RP.eq (Value.bool (!decide (x272758 = x272760)))] hS272630 (HeadAll.cons ?_ (HeadAll.cons ?_ (HeadAll.cons ?_ (HeadAll.cons ?_ (HeadAll.cons ?_ (HeadAll.cons ?_ (HeadAll.cons ?_ (HeadAll.cons ?_ (HeadAll.cons ?_ (HeadAll.nil)))))))))) ?_
        · intro g272765 s272766 w272767 l272768 hS272769 fr272770 pre272771
          refine head_run rfl (Exec.move (v := v271383) rfl (Eq.trans (fr272770 0 rfl) p272631) ?_)
          exact head_done hS272769 rfl
        · intro g272772 s272773 w272774 l272775 hS272776 fr272777 pre272778
          refine head_run rfl (Exec.move (v := Value.int .i64 ((i272143 : Int))) rfl (fr272777 5 rfl) ?_)
          exact head_done hS272776 rfl
        · intro g272779 s272780 w272781 l272782 hS272783 fr272784 pre272785
          have p272786 : g272779 16 = (v271383) := pre272785 0 _ rfl rfl
          have p272787 : g272779 17 = (Value.int .i64 ((i272143 : Int))) := pre272785 1 _ rfl rfl
          refine head_run rfl (Exec.index_rep S49 rfl p272786 p272787 (a271384.mono (PHeap.le.trans l272629 l272782)) q272759 ?_)
          intro b272788 o272789 a272790
          exact head_done hS272783 ⟨_, _, rfl, a272790⟩
        · intro g272791 s272792 w272793 l272794 hS272795 fr272796 pre272797
          obtain ⟨b272799, o272800, e272801, a272802⟩ := (show ∃ b off, g272791 18 = .pointer (some ⟨b, off, none⟩) ∧ At s272792 b off (encInt .i64) x272758 from pre272797 0 _ rfl rfl)
          refine head_run rfl (Exec.load_at (E := (encInt .i64)) hS272795 A3 rfl e272801 rfl a272802 ?_)
          intro v272803 q272804
          exact head_done hS272795 (encInt_val.1 q272804)
        · intro g272805 s272806 w272807 l272808 hS272809 fr272810 pre272811
          refine head_run rfl (Exec.move (v := v271386) rfl (Eq.trans (fr272810 1 rfl) p272632) ?_)
          exact head_done hS272809 rfl
        · intro g272812 s272813 w272814 l272815 hS272816 fr272817 pre272818
          refine head_run rfl (Exec.move (v := Value.int .i64 ((i272143 : Int))) rfl (fr272817 5 rfl) ?_)
          exact head_done hS272816 rfl
        · intro g272819 s272820 w272821 l272822 hS272823 fr272824 pre272825
          have p272826 : g272819 20 = (v271386) := pre272825 0 _ rfl rfl
          have p272827 : g272819 21 = (Value.int .i64 ((i272143 : Int))) := pre272825 1 _ rfl rfl
          refine head_run rfl (Exec.index_slice S49 rfl (Eq.trans p272826 e272764) p272827 (idx_some q272761).1 (idx_some q272761).2.1 ?_)
          exact head_done hS272823 rfl
        · intro g272828 s272829 w272830 l272831 hS272832 fr272833 pre272834
          have p272835 : g272828 22 = (Value.pointer (some ⟨g272762, 0 + ((i272143 : Int)).toNat * 1, none⟩)) := pre272834 0 _ rfl rfl
          refine head_run rfl (Exec.load_arr (F := (encInt .i64)) (hS272832) e272764 A3 rfl p272835 rfl q272761 (Sub.refl _) ?_)
          intro v272836 q272837
          exact head_done hS272832 (encInt_val.1 q272837)
        · intro g272838 s272839 w272840 l272841 hS272842 fr272843 pre272844
          have p272845 : g272838 19 = (Value.int .i64 (x272758)) := pre272844 0 _ rfl rfl
          have p272846 : g272838 23 = (Value.int .i64 (x272760)) := pre272844 1 _ rfl rfl
          refine head_run rfl (Exec.neq rfl p272845 p272846 ?_)
          exact head_done hS272842 rfl
        · intro g272847 s272848 w272849 l272850 hS272851 fr272852 hR272853
          have p272854 : g272847 16 = (v271383) := hR272853 0 rfl
          have p272855 : g272847 17 = (Value.int .i64 ((i272143 : Int))) := hR272853 1 rfl
          obtain ⟨b272857, o272858, e272859, a272860⟩ := (show ∃ b off, g272847 18 = .pointer (some ⟨b, off, none⟩) ∧ At s272848 b off (encInt .i64) x272758 from hR272853 2 rfl)
          have p272861 : g272847 19 = (Value.int .i64 (x272758)) := hR272853 3 rfl
          have p272862 : g272847 20 = (v271386) := hR272853 4 rfl
          have p272863 : g272847 21 = (Value.int .i64 ((i272143 : Int))) := hR272853 5 rfl
          have p272864 : g272847 22 = (Value.pointer (some ⟨g272762, 0 + ((i272143 : Int)).toNat * 1, none⟩)) := hR272853 6 rfl
          have p272865 : g272847 23 = (Value.int .i64 (x272760)) := hR272853 7 rfl
          have p272866 : g272847 24 = (Value.bool (!decide (x272758 = x272760))) := hR272853 8 rfl
          refine WL_nil (at_normal ?_)
          rcases ite_some hm272624 with ⟨hc272867, hm272624⟩ | ⟨hc272867, hm272624⟩
          · refine W_cond_t p272866 hc272867 ?_
            refine W_seq ?_
            refine W_region ?_
            refine WL_step rfl rfl (Exec.assign (v := Value.bool (false)) rfl rfl ?_)
            refine WL_nil (at_normal ?_)
            refine W_ret (ib_ret (at_ret (at_ret (ib_ret (at_ret (at_ret ?_))))))
            have e272868 := Option.some.inj hm272624
            subst c272620
            have hq272869 := hr272614 _ (hres272625 (by intro _ h; cases h))
            have e272870 := Option.some.inj hq272869
            subst r
            refine ⟨_, ret1 rfl, ?_⟩
            exact ⟨s272848, (PHeap.le.trans l272629 l272850), hS272851, rfl⟩
          · refine W_cond_f p272866 hc272867 ?_
            replace hc272867 := not_true hc272867
            refine W_skip (ib_normal (at_normal ?_))
            refine W_region ?_
            refine WL_step rfl rfl (Exec.add rfl (Eq.trans (fr272852 13 rfl) x272634) rfl ?_)
            refine WL_step rfl rfl (Exec.move (v := Value.int .i64 (IntKind.i64.wrap ((i272143 : Int) + 1))) rfl rfl ?_)
            refine WL_nil (at_normal ?_)
            have e272871 := Option.some.inj hm272624
            subst c272620
            refine ⟨_, rfl, ?_⟩; exact ⟨s272848, (PHeap.le.trans l272629 l272850), hS272851, (Eq.trans (fr272852 0 rfl) p272631), (Eq.trans (fr272852 1 rfl) p272632), (Eq.trans (fr272852 12 rfl) p272633), (Eq.trans rfl (wrap_up hi272627 (SliceRep.le a271384)))⟩
      · intro t272872 f272873 w272874 hI272875 hres272876
        obtain ⟨s272877, l272878, hS272879, p272880, p272881, p272882, x272883⟩ := hI272875
        refine W_seq ?_
        refine W_region ?_
        refine WL_step rfl rfl (Exec.lss rfl x272883 p272882 ?_)
        refine WL_nil (at_normal ?_)
        refine W_seq ?_
        refine W_false (congrArg Value.bool (decide_eq_false (by omega))) ?_
        refine W_exit (at_exit (at_exit (ib_here (at_normal ?_))))
        refine ⟨_, .inl hres272876, ?_⟩; exact ⟨s272877, l272878, hS272879, p272880, p272881, p272882⟩
    · rintro f272884 w272885 ⟨t272886, hc272887, hM272888⟩
      have hm := hc272887.elim (hn272615 _) (hb272616 _)
      clear hc272887
      obtain ⟨s272889, l272890, hS272891, p272892, p272893, p272894⟩ := hM272888
      refine (at_normal ?_)
      refine W_seq ?_
      refine W_region ?_
      refine WL_step rfl rfl (Exec.assign (v := Value.bool (true)) rfl rfl ?_)
      refine WL_nil (at_normal ?_)
      refine W_ret ?_
      have e272896 := Option.some.inj hm
      subst r
      refine ⟨_, ret1 rfl, ?_⟩
      exact ⟨s272889, l272890, hS272891, rfl⟩

theorem N18 : (Try.f18.name == "runtime.NumGoroutine") = false := by kernel_rfl

end Go.Pw
