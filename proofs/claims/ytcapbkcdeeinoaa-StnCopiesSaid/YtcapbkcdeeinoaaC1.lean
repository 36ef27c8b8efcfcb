/-
  The walks (printed by my generator).
-/
import Derived.Test.YtcapbkcdeeinoaaC0
set_option maxRecDepth 100000
set_option linter.unusedVariables false
namespace Go.Pw
open Go.Proofs
theorem ref54_Distances_o_sim {w0 w : World} {s : PHeap} {H : List Res} {n24520 : Int} {bounds24521 : (List Bound)} {v24522 : Value} {r : (List (List Int)) × Bool} (hm : ref54_Distances_o_p n24520 bounds24521 = some r) (hS : St w0 s (Res.arr encBound 32 v24522 bounds24521 :: H) w)  :
    Calls Try.prog 25 #[Value.int .i64 (n24520), v24522] w fun e w' => ∃ v, e = .returned v ∧ ((un2 fun (y85513 : (List (List Int))) (y85514 : Bool) => ∃ (s85521 : PHeap) (v85520 : Value), PHeap.le s s85521 ∧ St w0 s85521 (Res.arr encBound 32 v24522 bounds24521 :: H) w' ∧ v = Value.tuple #[v85520, Value.bool (y85514)] ∧ SliceRep (encSlice (encInt .i64)) s85521 v85520 y85513) r) := by
  unfold ref54_Distances_o_p at hm
  refine calls_of_W Try.func25 rfl rfl ?_
  refine W_seq ?_
  refine W_region ?_
  refine WL_step rfl rfl (Exec.assign (v := Value.slice none 0 0) rfl rfl ?_)
  refine WL_step rfl rfl (Exec.assign (v := Value.bool (false)) rfl rfl ?_)
  refine WL_nil (at_normal ?_)
  refine W_seq ?_
  refine W_region ?_
  refine WL_step rfl rfl (Exec.assign (v := Value.slice none 0 0) rfl rfl ?_)
  refine WL_nil (at_normal ?_)
  refine W_seq ?_
  refine W_seq ?_
  refine W_region ?_
  refine WL_step rfl rfl (Exec.move (v := Value.int .i64 (n24520)) rfl rfl ?_)
  refine WL_step rfl rfl (Exec.move (v := Value.int .i64 (0)) rfl rfl ?_)
  refine WL_nil (at_normal ?_)
  obtain ⟨u85522, q85523, hm⟩ := bind_some hm
  obtain ⟨out85800, hB86079, hm⟩ := bind_some hm
  refine W_block (W_forS (fun k' s' f' w' => (fun (out85800 : (List (List Int))) => ∃ (s86080 : PHeap) (v85801 : Value) (hs85802 : List Value), PHeap.le s s86080 ∧ St w0 s86080 (Res.arr encBound 32 v24522 bounds24521 :: Res.arr encRaw 49 v85801 hs85802 :: Res.rows (encInt .i64) 3 hs85802 out85800 :: H) w' ∧ f' 0 = Value.int .i64 (n24520) ∧ f' 1 = v24522 ∧ f' 6 = v85801 ∧ f' 15 = Value.int .i64 (n24520) ∧ f' 16 = Value.int .i64 (k' : Int)) s') hB86079 ?_ ?_ ?_)
  · have hS86081 := (hS.rows_nil (encInt .i64) 3).nilArr encRaw 49
    have hS86082 := (hS86081).f2
    exact ⟨s, (Value.slice none 0 0), [], (PHeap.le_refl _), hS86082, rfl, rfl, rfl, rfl, rfl⟩
  · intro i85524 out85800 s86084 f86085 w86086 hi86087 hI86088 hm86089
    obtain ⟨s86090, v85801, hs85802, l86091, hS86092, p86093, p86094, p86095, p86096, x86097⟩ := hI86088
    refine W_seq ?_
    refine W_region ?_
    refine WL_step rfl rfl (Exec.lss rfl x86097 p86096 ?_)
    refine WL_nil (at_normal ?_)
    refine W_seq ?_
    refine W_true (congrArg Value.bool (decide_eq_true (by omega))) ?_
    refine W_skip (at_normal ?_)
    refine W_seq ?_
    refine W_block ?_
    refine W_seq ?_
    refine W_region ?_
    refine WL_step rfl rfl (Exec.move (v := Value.int .i64 ((i85524 : Int))) rfl x86097 ?_)
    refine WL_step rfl rfl (Exec.assign (v := Value.int .i64 ((i85524 : Int))) rfl rfl ?_)
    refine WL_nil (at_normal ?_)
    refine W_seq ?_
    refine W_region ?_
    refine WL_step rfl rfl (Exec.move (v := v85801) rfl p86095 ?_)
    refine WL_step rfl rfl (Exec.move (v := Value.int .i64 (n24520)) rfl p86093 ?_)
    obtain ⟨l86116, q86117, hm86089⟩ := bind_some hm86089
    refine WL_step rfl rfl (Exec.make (E := (encInt .i64)) hS86092 S49 Z3 rfl rfl rfl rfl q86117 ?_)
    intro v86118 w86119 hS86120
    refine WL_step rfl rfl (Exec.buildSlice (Te := 49) (cs := [v86118]) hS86120 rfl (parts_cons (c := [v86118]) (cells_of rfl (cells_one (hS86120).arr_one)) parts_nil) (fun _ => by kernel_rfl) ?_)
    intro b86121 w86122 hS86123
    obtain ⟨l86124, q86125, hm86089⟩ := bind_some hm86089
    have hS86126 := (hS86123).f1
    have hS86127 := (hS86126).f1
    have hS86128 := ((hS86127).f4).f4
    have hS86129 := ((hS86128).f2).f1
    refine WL_step rfl rfl (Exec.append_grid (E := encRaw) (ys := [v86118]) hS86129 S61 Z49 rfl (by decide) rfl rfl rfl rfl (reps_one ⟨rfl, ((hS86129).f3).arr_one⟩) rfl rfl ((hS86129).f2).rows_len q86125 ?_)
    intro v86130 w86131 hS86132
    have hS86133 := ((hS86132).f1.f2.rows_push).f1
    rw [← (app_some q86125).2] at hS86133
    refine WL_step rfl rfl (Exec.assign (v := v86130) rfl rfl ?_)
    refine WL_nil (at_normal ?_)
    refine W_seq ?_
    refine W_seq ?_
    refine W_region ?_
    refine WL_step rfl rfl (Exec.move (v := Value.int .i64 (n24520)) rfl p86093 ?_)
    refine WL_step rfl rfl (Exec.move (v := Value.int .i64 (0)) rfl rfl ?_)
    refine WL_nil (at_normal ?_)
    obtain ⟨u86134, q86135, hm86089⟩ := bind_some hm86089
    obtain ⟨l86186, hB86237, hm86089⟩ := bind_some hm86089
    refine W_block (W_forS (fun k' s' f' w' => (fun (l86186 : (List (List Int))) => ∃ (s86238 : PHeap) , PHeap.le s86090 s86238 ∧ St w0 s86238 (Res.arr encBound 32 v24522 bounds24521 :: Res.arr encRaw 49 v86130 (hs85802 ++ [v86118]) :: Res.rows (encInt .i64) 3 (hs85802 ++ [v86118]) l86186 :: H) w' ∧ f' 0 = Value.int .i64 (n24520) ∧ f' 1 = v24522 ∧ f' 6 = v86130 ∧ f' 7 = Value.int .i64 ((i85524 : Int)) ∧ f' 15 = Value.int .i64 (n24520) ∧ f' 16 = Value.int .i64 ((i85524 : Int)) ∧ f' 24 = Value.int .i64 (n24520) ∧ f' 25 = Value.int .i64 (k' : Int)) s') hB86237 ?_ ?_ ?_)
    · have hS86239 := (hS86133).f2
      exact ⟨s86090, (PHeap.le_refl _), hS86239, p86093, p86094, rfl, rfl, p86096, x86097, rfl, rfl⟩
    · intro i86136 l86186 s86241 f86242 w86243 hi86244 hI86245 hm86246
      obtain ⟨s86247, l86248, hS86249, p86250, p86251, p86252, p86253, p86254, p86255, p86256, x86257⟩ := hI86245
      refine W_seq ?_
      refine W_region ?_
      refine WL_step rfl rfl (Exec.lss rfl x86257 p86256 ?_)
      refine WL_nil (at_normal ?_)
      refine W_seq ?_
      refine W_true (congrArg Value.bool (decide_eq_true (by omega))) ?_
      refine W_skip (at_normal ?_)
      refine W_seq ?_
      refine W_block ?_
      refine W_seq ?_
      refine W_region ?_
      refine WL_step rfl rfl (Exec.move (v := Value.int .i64 ((i86136 : Int))) rfl x86257 ?_)
      refine WL_step rfl rfl (Exec.assign (v := Value.int .i64 ((i86136 : Int))) rfl rfl ?_)
      refine WL_nil (at_normal ?_)
      refine W_region ?_
      refine WL_step rfl rfl (Exec.move (v := v86130) rfl p86252 ?_)
      refine WL_step rfl rfl (Exec.move (v := Value.int .i64 ((i85524 : Int))) rfl p86253 ?_)
      obtain ⟨row86282, q86283, hm86246⟩ := bind_some hm86246
      obtain ⟨h86284, e86285, e86286, _⟩ := ((((hS86249).f2).f2).f1).rows_at q86283
      obtain ⟨g86287, c86288, e86289⟩ := (((hS86249).f2).f2).arr_at e86285
      refine WL_step rfl rfl (Exec.index_slice S61 rfl e86289 rfl (idx_some e86285).1 (idx_some e86285).2.1 ?_)
      refine WL_step rfl rfl (Exec.load_arr (F := encRaw) (((hS86249).f2).f2) e86289 A49 rfl rfl rfl e86285 (Sub.refl _) ?_)
      intro v86290 q86291
      replace q86291 := (encRaw_val.1 q86291).1
      subst v86290
      refine WL_step rfl rfl (Exec.move (v := Value.int .i64 ((i86136 : Int))) rfl rfl ?_)
      obtain ⟨x86292, q86293, hm86246⟩ := bind_some hm86246
      obtain ⟨g86294, c86295, e86296⟩ := (((((hS86249).f2).f2).f1).rows_split e86286 (idx_some q86283).2.2).arr_at q86293
      refine WL_step rfl rfl (Exec.index_slice S49 rfl e86296 rfl (idx_some q86293).1 (idx_some q86293).2.1 ?_)
      obtain ⟨l86297, q86298, hm86246⟩ := bind_some hm86246
      obtain ⟨l86299, q86300, hm86246⟩ := bind_some hm86246
      have hS86301 := ((hS86249).f2).f2
      refine WL_step rfl rfl (Exec.store_arr (((hS86301).f1).rows_split e86286 (idx_some q86283).2.2) e86296 A3 rfl rfl rfl rfl (encInt_val.2 rfl) q86298 ?_)
      intro w86302 hS86303
      have hS86304 := (hS86303).rows_back e86286 (setI_some q86300).2.1
      rw [← (setI_some q86300).2.2] at hS86304
      have hS86305 := (hS86304).f1
      refine WL_nil (ib_normal (at_normal ?_))
      refine W_region ?_
      refine WL_step rfl rfl (Exec.add rfl x86257 rfl ?_)
      refine WL_step rfl rfl (Exec.move (v := Value.int .i64 (IntKind.i64.wrap ((i86136 : Int) + 1))) rfl rfl ?_)
      refine WL_nil (at_normal ?_)
      have e86306 := Option.some.inj hm86246
      subst s86241
      have hS86307 := (hS86305).f2
      exact ⟨s86247, l86248, hS86307, p86250, p86251, p86252, p86253, p86254, p86255, p86256, (Eq.trans rfl (wrap_up hi86244 (by have h := must_some q86135; simp at h; simp only [maxLen]; omega)))⟩
    · intro f86308 w86309 hI86310
      obtain ⟨s86311, l86312, hS86313, p86314, p86315, p86316, p86317, p86318, p86319, p86320, x86321⟩ := hI86310
      refine W_seq ?_
      refine W_region ?_
      refine WL_step rfl rfl (Exec.lss rfl x86321 p86320 ?_)
      refine WL_nil (at_normal ?_)
      refine W_seq ?_
      refine W_false (congrArg Value.bool (decide_eq_false (by omega))) ?_
      refine W_exit (at_exit (at_exit (ib_here (at_normal ?_))))
      refine W_region ?_
      refine WL_step rfl rfl (Exec.move (v := v86130) rfl p86316 ?_)
      refine WL_step rfl rfl (Exec.move (v := Value.int .i64 ((i85524 : Int))) rfl p86317 ?_)
      obtain ⟨row86346, q86347, hm86089⟩ := bind_some hm86089
      obtain ⟨h86348, e86349, e86350, _⟩ := ((((hS86313).f2).f2).f1).rows_at q86347
      obtain ⟨g86351, c86352, e86353⟩ := (((hS86313).f2).f2).arr_at e86349
      refine WL_step rfl rfl (Exec.index_slice S61 rfl e86353 rfl (idx_some e86349).1 (idx_some e86349).2.1 ?_)
      refine WL_step rfl rfl (Exec.load_arr (F := encRaw) (((hS86313).f2).f2) e86353 A49 rfl rfl rfl e86349 (Sub.refl _) ?_)
      intro v86354 q86355
      replace q86355 := (encRaw_val.1 q86355).1
      subst v86354
      refine WL_step rfl rfl (Exec.move (v := Value.int .i64 ((i85524 : Int))) rfl p86317 ?_)
      obtain ⟨x86356, q86357, hm86089⟩ := bind_some hm86089
      obtain ⟨g86358, c86359, e86360⟩ := (((((hS86313).f2).f2).f1).rows_split e86350 (idx_some q86347).2.2).arr_at q86357
      refine WL_step rfl rfl (Exec.index_slice S49 rfl e86360 rfl (idx_some q86357).1 (idx_some q86357).2.1 ?_)
      obtain ⟨l86361, q86362, hm86089⟩ := bind_some hm86089
      obtain ⟨l86363, q86364, hm86089⟩ := bind_some hm86089
      have hS86365 := ((hS86313).f2).f2
      refine WL_step rfl rfl (Exec.store_arr (((hS86365).f1).rows_split e86350 (idx_some q86347).2.2) e86360 A3 rfl rfl rfl rfl (encInt_val.2 rfl) q86362 ?_)
      intro w86366 hS86367
      have hS86368 := (hS86367).rows_back e86350 (setI_some q86364).2.1
      rw [← (setI_some q86364).2.2] at hS86368
      have hS86369 := (hS86368).f1
      refine WL_nil (ib_normal (at_normal ?_))
      refine W_region ?_
      refine WL_step rfl rfl (Exec.add rfl p86319 rfl ?_)
      refine WL_step rfl rfl (Exec.move (v := Value.int .i64 (IntKind.i64.wrap ((i85524 : Int) + 1))) rfl rfl ?_)
      refine WL_nil (at_normal ?_)
      have e86370 := Option.some.inj hm86089
      subst s86084
      have hS86371 := (hS86369).f2
      exact ⟨s86311, v86130, (hs85802 ++ [v86118]), (PHeap.le.trans l86091 l86312), hS86371, p86314, p86315, p86316, p86318, (Eq.trans rfl (wrap_up hi86087 (by have h := must_some q85523; simp at h; simp only [maxLen]; omega)))⟩
  · intro f86372 w86373 hI86374
    obtain ⟨s86375, v85801, hs85802, l86376, hS86377, p86378, p86379, p86380, p86381, x86382⟩ := hI86374
    refine W_seq ?_
    refine W_region ?_
    refine WL_step rfl rfl (Exec.lss rfl x86382 p86381 ?_)
    refine WL_nil (at_normal ?_)
    refine W_seq ?_
    refine W_false (congrArg Value.bool (decide_eq_false (by omega))) ?_
    refine W_exit (at_exit (at_exit (ib_here (at_normal ?_))))
    refine W_seq ?_
    refine W_seq ?_
    refine W_region ?_
    refine WL_step rfl rfl (Exec.move (v := v24522) rfl p86379 ?_)
    refine WL_step rfl rfl (Exec.len_arr (hS86377) S22 rfl rfl ?_)
    refine WL_step rfl rfl (Exec.move (v := Value.int .i64 (0)) rfl rfl ?_)
    refine WL_nil (at_normal ?_)
    obtain ⟨l86879, hB87376, hm⟩ := bind_some hm
    refine W_block (W_forS (fun k' s' f' w' => (fun (l86879 : (List (List Int))) => ∃ (s87377 : PHeap) , PHeap.le s86375 s87377 ∧ St w0 s87377 (Res.arr encBound 32 v24522 bounds24521 :: Res.arr encRaw 49 v85801 hs85802 :: Res.rows (encInt .i64) 3 hs85802 l86879 :: H) w' ∧ f' 0 = Value.int .i64 (n24520) ∧ f' 6 = v85801 ∧ f' 42 = v24522 ∧ f' 43 = Value.int .i64 ((bounds24521.length : Int)) ∧ f' 44 = Value.int .i64 (k' : Int)) s') hB87376 ?_ ?_ ?_)
    · have hS87378 := ((hS86377).f2).f2
      have hS87379 := (hS87378).f2
      exact ⟨s86375, (PHeap.le_refl _), hS87379, p86378, p86380, rfl, rfl, rfl⟩
    · intro i86383 l86879 s87381 f87382 w87383 hi87384 hI87385 hm87386
      obtain ⟨s87387, l87388, hS87389, p87390, p87391, p87392, p87393, x87394⟩ := hI87385
      refine W_seq ?_
      refine W_region ?_
      refine WL_step rfl rfl (Exec.lss rfl x87394 p87393 ?_)
      refine WL_nil (at_normal ?_)
      refine W_seq ?_
      refine W_true (congrArg Value.bool (decide_eq_true (by omega))) ?_
      refine W_skip (at_normal ?_)
      refine W_seq ?_
      refine W_block ?_
      refine W_seq ?_
      refine W_region ?_
      obtain ⟨x87407, q87408, hm87386⟩ := bind_some hm87386
      obtain ⟨g87409, c87410, e87411⟩ := (hS87389).arr_at q87408
      refine WL_step rfl rfl (Exec.index_slice S22 rfl (Eq.trans p87392 e87411) x87394 (idx_some q87408).1 (idx_some q87408).2.1 ?_)
      refine WL_step rfl rfl (Exec.load_arr (F := encBound) (hS87389) e87411 A32 rfl rfl rfl q87408 (Sub.refl _) ?_)
      intro v87412 q87413
      obtain rfl := encBound_val.1 q87413
      refine WL_step rfl rfl (Exec.alloc (cs := [Value.int .i64 (0), Value.int .i64 (0), Value.int .i64 (0)]) hS87389 Z32 rfl rfl ?_)
      intro b87414 w87415 hS87416
      refine WL_step rfl rfl (Exec.store_box (ds := [Value.int .i64 (x87407.A), Value.int .i64 (x87407.B), Value.int .i64 (x87407.Most)]) (es := [Value.int .i64 (x87407.A), Value.int .i64 (x87407.B), Value.int .i64 (x87407.Most)]) hS87416 A32 rfl rfl rfl rfl (one_cons rfl (one_cons rfl (one_cons rfl one_nil))) (Nat.le_of_ble_eq_true rfl) rfl ?_)
      intro w87417 hS87418
      refine WL_nil (at_normal ?_)
      obtain ⟨row87670, q87671, hm87386⟩ := bind_some hm87386
      obtain ⟨h87672, e87673, e87674, _⟩ := ((((hS87418).f3).f3).f1).rows_at q87671
      obtain ⟨g87675, c87676, e87677⟩ := (((hS87418).f3).f3).arr_at e87673
      obtain ⟨g87678, c87679, e87680⟩ := (((hS87418).f3).f3).arr_at e87673
      obtain ⟨x87681, q87682, hm87386⟩ := bind_some hm87386
      obtain ⟨g87683, c87684, e87685⟩ := (((((hS87418).f3).f3).f1).rows_split e87674 (idx_some q87671).2.2).arr_at q87682
      obtain ⟨g87686, c87687, e87688⟩ := (((((hS87418).f3).f3).f1).rows_split e87674 (idx_some q87671).2.2).arr_at q87682
      obtain ⟨l87689, q87690, hm87386⟩ := bind_some hm87386
      obtain ⟨l87691, q87692, hm87386⟩ := bind_some hm87386
      have hS87693 := ((hS87418).f3).f3
      refine W_drawn (n0 := 20) hmix (by kernel_rfl) [RP.eq (v85801), RP.eq (Value.pointer (some ⟨b87414, 0, none⟩)), RP.eq (Value.int .i64 (x87407.A)), RP.eq (Value.pointer (some ⟨g87675, 0 + (x87407.A).toNat * 1, none⟩)), RP.eq (h87672), RP.eq (Value.pointer (some ⟨b87414, 1, none⟩)), RP.eq (Value.int .i64 (x87407.B)), RP.eq (v85801), RP.eq (Value.pointer (some ⟨b87414, 0, none⟩)), RP.eq (Value.int .i64 (x87407.A)), RP.eq (Value.pointer (some ⟨g87678, 0 + (x87407.A).toNat * 1, none⟩)), RP.eq (h87672), RP.eq (Value.pointer (some ⟨b87414, 1, none⟩)), RP.eq (Value.int .i64 (x87407.B)), RP.eq (Value.pointer (some ⟨g87683, 0 + (x87407.B).toNat * 1, none⟩)), RP.eq (Value.int .i64 (x87681)), RP.eq (Value.pointer (some ⟨b87414, 2, none⟩)), RP.eq (Value.int .i64 (x87407.Most)), RP.eq (Value.int .i64 (min x87681 x87407.Most)), RP.eq (Value.pointer (some ⟨g87686, 0 + (x87407.B).toNat * 1, none⟩))] hS87693 (HeadAll.cons ?_ (HeadAll.cons ?_ (HeadAll.cons ?_ (HeadAll.cons ?_ (HeadAll.cons ?_ (HeadAll.cons ?_ (HeadAll.cons ?_ (HeadAll.cons ?_ (HeadAll.cons ?_ (HeadAll.cons ?_ (HeadAll.cons ?_ (HeadAll.cons ?_ (HeadAll.cons ?_ (HeadAll.cons ?_ (HeadAll.cons ?_ (HeadAll.cons ?_ (HeadAll.cons ?_ (HeadAll.cons ?_ (HeadAll.cons ?_ (HeadAll.cons ?_ (HeadAll.nil))))))))))))))))))))) ?_
      · intro g87694 s87695 w87696 l87697 hS87698 fr87699 pre87700
        refine head_run rfl (Exec.move (v := v85801) rfl (Eq.trans (fr87699 6 rfl) p87391) ?_)
        exact head_done hS87698 rfl
      · intro g87701 s87702 w87703 l87704 hS87705 fr87706 pre87707
        refine head_run rfl (Exec.field F32_0 rfl (fr87706 10 rfl) rfl ?_)
        exact head_done hS87705 rfl
      · intro g87708 s87709 w87710 l87711 hS87712 fr87713 pre87714
        have p87715 : g87708 49 = (Value.pointer (some ⟨b87414, 0, none⟩)) := pre87714 0 _ rfl rfl
        refine head_run rfl (Exec.load_box ((hS87712).f2) A3 rfl p87715 rfl ?_)
        exact head_done hS87712 rfl
      · intro g87716 s87717 w87718 l87719 hS87720 fr87721 pre87722
        have p87723 : g87716 48 = (v85801) := pre87722 0 _ rfl rfl
        have p87724 : g87716 50 = (Value.int .i64 (x87407.A)) := pre87722 1 _ rfl rfl
        refine head_run rfl (Exec.index_slice S61 rfl (Eq.trans p87723 e87677) p87724 (idx_some e87673).1 (idx_some e87673).2.1 ?_)
        exact head_done hS87720 rfl
      · intro g87725 s87726 w87727 l87728 hS87729 fr87730 pre87731
        have p87732 : g87725 51 = (Value.pointer (some ⟨g87675, 0 + (x87407.A).toNat * 1, none⟩)) := pre87731 0 _ rfl rfl
        refine head_run rfl (Exec.load_arr (F := encRaw) (hS87729) e87677 A49 rfl p87732 rfl e87673 (Sub.refl _) ?_)
        intro v87733 q87734
        exact head_done hS87729 (encRaw_val.1 q87734).1
      · intro g87735 s87736 w87737 l87738 hS87739 fr87740 pre87741
        refine head_run rfl (Exec.field F32_1 rfl (fr87740 10 rfl) rfl ?_)
        exact head_done hS87739 rfl
      · intro g87742 s87743 w87744 l87745 hS87746 fr87747 pre87748
        have p87749 : g87742 53 = (Value.pointer (some ⟨b87414, 1, none⟩)) := pre87748 0 _ rfl rfl
        refine head_run rfl (Exec.load_box ((hS87746).f2) A3 rfl p87749 rfl ?_)
        exact head_done hS87746 rfl
      · intro g87750 s87751 w87752 l87753 hS87754 fr87755 pre87756
        refine head_run rfl (Exec.move (v := v85801) rfl (Eq.trans (fr87755 6 rfl) p87391) ?_)
        exact head_done hS87754 rfl
      · intro g87757 s87758 w87759 l87760 hS87761 fr87762 pre87763
        refine head_run rfl (Exec.field F32_0 rfl (fr87762 10 rfl) rfl ?_)
        exact head_done hS87761 rfl
      · intro g87764 s87765 w87766 l87767 hS87768 fr87769 pre87770
        have p87771 : g87764 56 = (Value.pointer (some ⟨b87414, 0, none⟩)) := pre87770 0 _ rfl rfl
        refine head_run rfl (Exec.load_box ((hS87768).f2) A3 rfl p87771 rfl ?_)
        exact head_done hS87768 rfl
      · intro g87772 s87773 w87774 l87775 hS87776 fr87777 pre87778
        have p87779 : g87772 57 = (Value.int .i64 (x87407.A)) := pre87778 1 _ rfl rfl
        have p87780 : g87772 55 = (v85801) := pre87778 0 _ rfl rfl
        refine head_run rfl (Exec.index_slice S61 rfl (Eq.trans p87780 e87680) p87779 (idx_some e87673).1 (idx_some e87673).2.1 ?_)
        exact head_done hS87776 rfl
      · intro g87781 s87782 w87783 l87784 hS87785 fr87786 pre87787
        have p87788 : g87781 58 = (Value.pointer (some ⟨g87678, 0 + (x87407.A).toNat * 1, none⟩)) := pre87787 0 _ rfl rfl
        refine head_run rfl (Exec.load_arr (F := encRaw) (hS87785) e87680 A49 rfl p87788 rfl e87673 (Sub.refl _) ?_)
        intro v87789 q87790
        exact head_done hS87785 (encRaw_val.1 q87790).1
      · intro g87791 s87792 w87793 l87794 hS87795 fr87796 pre87797
        refine head_run rfl (Exec.field F32_1 rfl (fr87796 10 rfl) rfl ?_)
        exact head_done hS87795 rfl
      · intro g87798 s87799 w87800 l87801 hS87802 fr87803 pre87804
        have p87805 : g87798 60 = (Value.pointer (some ⟨b87414, 1, none⟩)) := pre87804 0 _ rfl rfl
        refine head_run rfl (Exec.load_box ((hS87802).f2) A3 rfl p87805 rfl ?_)
        exact head_done hS87802 rfl
      · intro g87806 s87807 w87808 l87809 hS87810 fr87811 pre87812
        have p87813 : g87806 59 = (h87672) := pre87812 0 _ rfl rfl
        have p87814 : g87806 61 = (Value.int .i64 (x87407.B)) := pre87812 1 _ rfl rfl
        refine head_run rfl (Exec.index_slice S49 rfl (Eq.trans p87813 e87685) p87814 (idx_some q87682).1 (idx_some q87682).2.1 ?_)
        exact head_done hS87810 rfl
      · intro g87815 s87816 w87817 l87818 hS87819 fr87820 pre87821
        have p87822 : g87815 62 = (Value.pointer (some ⟨g87683, 0 + (x87407.B).toNat * 1, none⟩)) := pre87821 0 _ rfl rfl
        refine head_run rfl (Exec.load_arr (F := (encInt .i64)) (((hS87819).f1).rows_split e87674 (idx_some q87671).2.2) e87685 A3 rfl p87822 rfl q87682 (Sub.refl _) ?_)
        intro v87823 q87824
        exact head_done hS87819 (encInt_val.1 q87824)
      · intro g87825 s87826 w87827 l87828 hS87829 fr87830 pre87831
        refine head_run rfl (Exec.field F32_2 rfl (fr87830 10 rfl) rfl ?_)
        exact head_done hS87829 rfl
      · intro g87832 s87833 w87834 l87835 hS87836 fr87837 pre87838
        have p87839 : g87832 64 = (Value.pointer (some ⟨b87414, 2, none⟩)) := pre87838 0 _ rfl rfl
        refine head_run rfl (Exec.load_box ((hS87836).f2) A3 rfl p87839 rfl ?_)
        exact head_done hS87836 rfl
      · intro g87840 s87841 w87842 l87843 hS87844 fr87845 pre87846
        have p87847 : g87840 65 = (Value.int .i64 (x87407.Most)) := pre87846 1 _ rfl rfl
        have p87848 : g87840 63 = (Value.int .i64 (x87681)) := pre87846 0 _ rfl rfl
        refine head_run rfl (Exec.min2 rfl p87848 p87847 ?_)
        exact head_done hS87844 rfl
      · intro g87849 s87850 w87851 l87852 hS87853 fr87854 pre87855
        have p87856 : g87849 52 = (h87672) := pre87855 0 _ rfl rfl
        have p87857 : g87849 54 = (Value.int .i64 (x87407.B)) := pre87855 1 _ rfl rfl
        refine head_run rfl (Exec.index_slice S49 rfl (Eq.trans p87856 e87688) p87857 (idx_some q87682).1 (idx_some q87682).2.1 ?_)
        exact head_done hS87853 rfl
      · intro g87858 s87859 w87860 l87861 hS87862 fr87863 hR87864
        have p87865 : g87858 48 = (v85801) := hR87864 0 rfl
        have p87866 : g87858 49 = (Value.pointer (some ⟨b87414, 0, none⟩)) := hR87864 1 rfl
        have p87867 : g87858 50 = (Value.int .i64 (x87407.A)) := hR87864 2 rfl
        have p87868 : g87858 51 = (Value.pointer (some ⟨g87675, 0 + (x87407.A).toNat * 1, none⟩)) := hR87864 3 rfl
        have p87869 : g87858 52 = (h87672) := hR87864 4 rfl
        have p87870 : g87858 53 = (Value.pointer (some ⟨b87414, 1, none⟩)) := hR87864 5 rfl
        have p87871 : g87858 54 = (Value.int .i64 (x87407.B)) := hR87864 6 rfl
        have p87872 : g87858 55 = (v85801) := hR87864 7 rfl
        have p87873 : g87858 56 = (Value.pointer (some ⟨b87414, 0, none⟩)) := hR87864 8 rfl
        have p87874 : g87858 57 = (Value.int .i64 (x87407.A)) := hR87864 9 rfl
        have p87875 : g87858 58 = (Value.pointer (some ⟨g87678, 0 + (x87407.A).toNat * 1, none⟩)) := hR87864 10 rfl
        have p87876 : g87858 59 = (h87672) := hR87864 11 rfl
        have p87877 : g87858 60 = (Value.pointer (some ⟨b87414, 1, none⟩)) := hR87864 12 rfl
        have p87878 : g87858 61 = (Value.int .i64 (x87407.B)) := hR87864 13 rfl
        have p87879 : g87858 62 = (Value.pointer (some ⟨g87683, 0 + (x87407.B).toNat * 1, none⟩)) := hR87864 14 rfl
        have p87880 : g87858 63 = (Value.int .i64 (x87681)) := hR87864 15 rfl
        have p87881 : g87858 64 = (Value.pointer (some ⟨b87414, 2, none⟩)) := hR87864 16 rfl
        have p87882 : g87858 65 = (Value.int .i64 (x87407.Most)) := hR87864 17 rfl
        have p87883 : g87858 66 = (Value.int .i64 (min x87681 x87407.Most)) := hR87864 18 rfl
        have p87884 : g87858 67 = (Value.pointer (some ⟨g87686, 0 + (x87407.B).toNat * 1, none⟩)) := hR87864 19 rfl
        refine WL_step rfl rfl (Exec.store_arr (((hS87862).f1).rows_split e87674 (idx_some q87671).2.2) e87688 A3 rfl p87884 rfl p87883 (encInt_val.2 rfl) q87690 ?_)
        intro w87885 hS87886
        have hS87887 := (hS87886).rows_back e87674 (setI_some q87692).2.1
        rw [← (setI_some q87692).2.2] at hS87887
        have hS87888 := (hS87887).f1
        refine WL_nil (ib_normal (at_normal ?_))
        refine W_region ?_
        refine WL_step rfl rfl (Exec.add rfl (Eq.trans (fr87863 44 rfl) x87394) rfl ?_)
        refine WL_step rfl rfl (Exec.move (v := Value.int .i64 (IntKind.i64.wrap ((i86383 : Int) + 1))) rfl rfl ?_)
        refine WL_nil (at_normal ?_)
        have e87889 := Option.some.inj hm87386
        subst s87381
        have hS87890 := ((hS87888).f2).drop
        have hS87891 := (hS87890).f2
        exact ⟨s87859, (PHeap.le.trans l87388 l87861), hS87891, (Eq.trans (fr87863 0 rfl) p87390), (Eq.trans (fr87863 6 rfl) p87391), (Eq.trans (fr87863 42 rfl) p87392), (Eq.trans (fr87863 43 rfl) p87393), (Eq.trans rfl (wrap_up hi87384 (hS86377).arr_le))⟩
    · intro f87892 w87893 hI87894
      obtain ⟨s87895, l87896, hS87897, p87898, p87899, p87900, p87901, x87902⟩ := hI87894
      refine W_seq ?_
      refine W_region ?_
      refine WL_step rfl rfl (Exec.lss rfl x87902 p87901 ?_)
      refine WL_nil (at_normal ?_)
      refine W_seq ?_
      refine W_false (congrArg Value.bool (decide_eq_false (by omega))) ?_
      refine W_exit (at_exit (at_exit (ib_here (at_normal ?_))))
      refine W_seq ?_
      refine W_seq ?_
      refine W_region ?_
      refine WL_step rfl rfl (Exec.move (v := Value.int .i64 (n24520)) rfl p87898 ?_)
      refine WL_step rfl rfl (Exec.move (v := Value.int .i64 (0)) rfl rfl ?_)
      refine WL_nil (at_normal ?_)
      obtain ⟨u87903, q87904, hm⟩ := bind_some hm
      obtain ⟨c131824, hB131825, hr131826, hn131827, hb131828⟩ := ctl_some hm
      refine W_mid (M := fun f' w' => ∃ s', (c131824 = .next s' ∨ c131824 = .brk s') ∧ (fun (l131823 : (List (List Int))) => ∃ (s131830 : PHeap) , PHeap.le s87895 s131830 ∧ St w0 s131830 (Res.arr encBound 32 v24522 bounds24521 :: Res.arr encRaw 49 v85801 hs85802 :: Res.rows (encInt .i64) 3 hs85802 l131823 :: H) w' ∧ f' 0 = Value.int .i64 (n24520) ∧ f' 6 = v85801 ∧ f' 69 = Value.int .i64 (n24520)) s') ?_ ?_
      · refine W_block (W_forC (fun k' s' f' w' => (fun (l102544 : (List (List Int))) => ∃ (s131829 : PHeap) , PHeap.le s87895 s131829 ∧ St w0 s131829 (Res.arr encBound 32 v24522 bounds24521 :: Res.arr encRaw 49 v85801 hs85802 :: Res.rows (encInt .i64) 3 hs85802 l102544 :: H) w' ∧ f' 0 = Value.int .i64 (n24520) ∧ f' 6 = v85801 ∧ f' 69 = Value.int .i64 (n24520) ∧ f' 70 = Value.int .i64 (k' : Int)) s') hB131825 ?_ ?_ ?_)
        · have hS131831 := ((hS87897).f2).f2
          have hS131832 := (hS131831).f2
          exact ⟨s87895, (PHeap.le_refl _), hS131832, p87898, p87899, rfl, rfl⟩
        · intro i87905 l102544 c131834 f131835 w131836 hi131840 hI131837 hm131838 hres131839
          obtain ⟨s131841, l131842, hS131843, p131844, p131845, p131846, x131847⟩ := hI131837
          refine W_seq ?_
          refine W_region ?_
          refine WL_step rfl rfl (Exec.lss rfl x131847 p131846 ?_)
          refine WL_nil (at_normal ?_)
          refine W_seq ?_
          refine W_true (congrArg Value.bool (decide_eq_true (by omega))) ?_
          refine W_skip (at_normal ?_)
          refine W_seq ?_
          refine W_block ?_
          refine W_seq ?_
          refine W_region ?_
          refine WL_step rfl rfl (Exec.move (v := Value.int .i64 ((i87905 : Int))) rfl x131847 ?_)
          refine WL_step rfl rfl (Exec.assign (v := Value.int .i64 ((i87905 : Int))) rfl rfl ?_)
          refine WL_nil (at_normal ?_)
          refine W_seq ?_
          refine W_seq ?_
          refine W_region ?_
          refine WL_step rfl rfl (Exec.move (v := Value.int .i64 (n24520)) rfl p131844 ?_)
          refine WL_step rfl rfl (Exec.move (v := Value.int .i64 (0)) rfl rfl ?_)
          refine WL_nil (at_normal ?_)
          obtain ⟨u131848, q131849, hm131838⟩ := bind_some hm131838
          obtain ⟨l136660, hB141471, hm131838⟩ := bind_some hm131838
          refine W_block (W_forS (fun k' s' f' w' => (fun (l136660 : (List (List Int))) => ∃ (s141472 : PHeap) , PHeap.le s131841 s141472 ∧ St w0 s141472 (Res.arr encBound 32 v24522 bounds24521 :: Res.arr encRaw 49 v85801 hs85802 :: Res.rows (encInt .i64) 3 hs85802 l136660 :: H) w' ∧ f' 0 = Value.int .i64 (n24520) ∧ f' 6 = v85801 ∧ f' 11 = Value.int .i64 ((i87905 : Int)) ∧ f' 69 = Value.int .i64 (n24520) ∧ f' 70 = Value.int .i64 ((i87905 : Int)) ∧ f' 73 = Value.int .i64 (n24520) ∧ f' 74 = Value.int .i64 (k' : Int)) s') hB141471 ?_ ?_ ?_)
          · have hS141473 := ((hS131843).f2).f2
            have hS141474 := (hS141473).f2
            exact ⟨s131841, (PHeap.le_refl _), hS141474, p131844, p131845, rfl, p131846, x131847, rfl, rfl⟩
          · intro i131850 l136660 s141476 f141477 w141478 hi141479 hI141480 hm141481
            obtain ⟨s141482, l141483, hS141484, p141485, p141486, p141487, p141488, p141489, p141490, x141491⟩ := hI141480
            refine W_seq ?_
            refine W_region ?_
            refine WL_step rfl rfl (Exec.lss rfl x141491 p141490 ?_)
            refine WL_nil (at_normal ?_)
            refine W_seq ?_
            refine W_true (congrArg Value.bool (decide_eq_true (by omega))) ?_
            refine W_skip (at_normal ?_)
            refine W_seq ?_
            refine W_block ?_
            refine W_seq ?_
            refine W_region ?_
            refine WL_step rfl rfl (Exec.move (v := Value.int .i64 ((i131850 : Int))) rfl x141491 ?_)
            refine WL_step rfl rfl (Exec.assign (v := Value.int .i64 ((i131850 : Int))) rfl rfl ?_)
            refine WL_nil (at_normal ?_)
            refine W_seq ?_
            refine W_region ?_
            refine WL_step rfl rfl (Exec.move (v := Value.int .i64 (n24520)) rfl p141485 ?_)
            refine WL_step rfl rfl (Exec.move (v := Value.int .i64 (0)) rfl rfl ?_)
            refine WL_nil (at_normal ?_)
            obtain ⟨u141492, q141493, hm141481⟩ := bind_some hm141481
            obtain ⟨l143082, hB144671, hm141481⟩ := bind_some hm141481
            refine W_block (W_forS (fun k' s' f' w' => (fun (l143082 : (List (List Int))) => ∃ (s144672 : PHeap) , PHeap.le s141482 s144672 ∧ St w0 s144672 (Res.arr encBound 32 v24522 bounds24521 :: Res.arr encRaw 49 v85801 hs85802 :: Res.rows (encInt .i64) 3 hs85802 l143082 :: H) w' ∧ f' 0 = Value.int .i64 (n24520) ∧ f' 6 = v85801 ∧ f' 11 = Value.int .i64 ((i87905 : Int)) ∧ f' 12 = Value.int .i64 ((i131850 : Int)) ∧ f' 69 = Value.int .i64 (n24520) ∧ f' 70 = Value.int .i64 ((i87905 : Int)) ∧ f' 73 = Value.int .i64 (n24520) ∧ f' 74 = Value.int .i64 ((i131850 : Int)) ∧ f' 77 = Value.int .i64 (n24520) ∧ f' 78 = Value.int .i64 (k' : Int)) s') hB144671 ?_ ?_ ?_)
            · have hS144673 := ((hS141484).f2).f2
              have hS144674 := (hS144673).f2
              exact ⟨s141482, (PHeap.le_refl _), hS144674, p141485, p141486, p141487, rfl, p141488, p141489, p141490, x141491, rfl, rfl⟩
            · intro i141494 l143082 s144676 f144677 w144678 hi144679 hI144680 hm144681
              obtain ⟨s144682, l144683, hS144684, p144685, p144686, p144687, p144688, p144689, p144690, p144691, p144692, p144693, x144694⟩ := hI144680
              refine W_seq ?_
              refine W_region ?_
              refine WL_step rfl rfl (Exec.lss rfl x144694 p144693 ?_)
              refine WL_nil (at_normal ?_)
              refine W_seq ?_
              refine W_true (congrArg Value.bool (decide_eq_true (by omega))) ?_
              refine W_skip (at_normal ?_)
              refine W_seq ?_
              refine W_block ?_
              refine W_seq ?_
              refine W_region ?_
              refine WL_step rfl rfl (Exec.move (v := Value.int .i64 ((i141494 : Int))) rfl x144694 ?_)
              refine WL_step rfl rfl (Exec.assign (v := Value.int .i64 ((i141494 : Int))) rfl rfl ?_)
              refine WL_nil (at_normal ?_)
              refine W_seq ?_
              obtain ⟨z144730, ht144731, hm144681⟩ := bind_some hm144681
              refine W_mid (M := fun f' w' => (fun (z144730 : Bool) => ∃ (s144732 : PHeap) , PHeap.le s144682 s144732 ∧ St w0 s144732 (Res.arr encBound 32 v24522 bounds24521 :: Res.arr encRaw 49 v85801 hs85802 :: Res.rows (encInt .i64) 3 hs85802 l143082 :: H) w' ∧ f' 0 = Value.int .i64 (n24520) ∧ f' 6 = v85801 ∧ f' 11 = Value.int .i64 ((i87905 : Int)) ∧ f' 12 = Value.int .i64 ((i131850 : Int)) ∧ f' 13 = Value.int .i64 ((i141494 : Int)) ∧ f' 69 = Value.int .i64 (n24520) ∧ f' 70 = Value.int .i64 ((i87905 : Int)) ∧ f' 73 = Value.int .i64 (n24520) ∧ f' 74 = Value.int .i64 ((i131850 : Int)) ∧ f' 77 = Value.int .i64 (n24520) ∧ f' 78 = Value.int .i64 ((i141494 : Int)) ∧ f' 98 = Value.bool (z144730)) z144730) ?_ ?_
              · refine W_region ?_
                refine WL_step rfl rfl (Exec.move (v := v85801) rfl p144686 ?_)
                refine WL_step rfl rfl (Exec.move (v := Value.int .i64 ((i131850 : Int))) rfl p144688 ?_)
                obtain ⟨row144733, q144734, ht144731⟩ := bind_some ht144731
                obtain ⟨h144735, e144736, e144737, _⟩ := ((((hS144684).f2).f2).f1).rows_at q144734
                obtain ⟨g144738, c144739, e144740⟩ := (((hS144684).f2).f2).arr_at e144736
                refine WL_step rfl rfl (Exec.index_slice S61 rfl e144740 rfl (idx_some e144736).1 (idx_some e144736).2.1 ?_)
                refine WL_step rfl rfl (Exec.load_arr (F := encRaw) (((hS144684).f2).f2) e144740 A49 rfl rfl rfl e144736 (Sub.refl _) ?_)
                intro v144741 q144742
                replace q144742 := (encRaw_val.1 q144742).1
                subst v144741
                refine WL_step rfl rfl (Exec.move (v := Value.int .i64 ((i87905 : Int))) rfl p144687 ?_)
                obtain ⟨x144743, q144744, ht144731⟩ := bind_some ht144731
                obtain ⟨g144745, c144746, e144747⟩ := (((((hS144684).f2).f2).f1).rows_split e144737 (idx_some q144734).2.2).arr_at q144744
                refine WL_step rfl rfl (Exec.index_slice S49 rfl e144747 rfl (idx_some q144744).1 (idx_some q144744).2.1 ?_)
                refine WL_step rfl rfl (Exec.load_arr (F := (encInt .i64)) (((((hS144684).f2).f2).f1).rows_split e144737 (idx_some q144734).2.2) e144747 A3 rfl rfl rfl q144744 (Sub.refl _) ?_)
                intro v144748 q144749
                obtain rfl := encInt_val.1 q144749
                refine WL_step rfl rfl (Exec.lss rfl rfl rfl ?_)
                refine WL_step rfl rfl (Exec.move (v := Value.bool (decide (x144743 < 1125899906842624))) rfl rfl ?_)
                rcases ite_some ht144731 with ⟨hc144750, ht144731⟩ | ⟨hc144750, ht144731⟩
                · refine WL_run rfl (yield_of rfl (congrArg Value.bool hc144750)) rfl (Exec.move (v := v85801) rfl p144686 ?_)
                  refine WL_run rfl (yield_of rfl (congrArg Value.bool hc144750)) rfl (Exec.move (v := Value.int .i64 ((i87905 : Int))) rfl p144687 ?_)
                  obtain ⟨row144751, q144752, ht144731⟩ := bind_some ht144731
                  obtain ⟨h144753, e144754, e144755, _⟩ := ((((hS144684).f2).f2).f1).rows_at q144752
                  obtain ⟨g144756, c144757, e144758⟩ := (((hS144684).f2).f2).arr_at e144754
                  refine WL_run rfl (yield_of rfl (congrArg Value.bool hc144750)) rfl (Exec.index_slice S61 rfl e144758 rfl (idx_some e144754).1 (idx_some e144754).2.1 ?_)
                  refine WL_run rfl (yield_of rfl (congrArg Value.bool hc144750)) rfl (Exec.load_arr (F := encRaw) (((hS144684).f2).f2) e144758 A49 rfl rfl rfl e144754 (Sub.refl _) ?_)
                  intro v144759 q144760
                  replace q144760 := (encRaw_val.1 q144760).1
                  subst v144759
                  refine WL_run rfl (yield_of rfl (congrArg Value.bool hc144750)) rfl (Exec.move (v := Value.int .i64 ((i141494 : Int))) rfl rfl ?_)
                  obtain ⟨x144761, q144762, ht144731⟩ := bind_some ht144731
                  obtain ⟨g144763, c144764, e144765⟩ := (((((hS144684).f2).f2).f1).rows_split e144755 (idx_some q144752).2.2).arr_at q144762
                  refine WL_run rfl (yield_of rfl (congrArg Value.bool hc144750)) rfl (Exec.index_slice S49 rfl e144765 rfl (idx_some q144762).1 (idx_some q144762).2.1 ?_)
                  refine WL_run rfl (yield_of rfl (congrArg Value.bool hc144750)) rfl (Exec.load_arr (F := (encInt .i64)) (((((hS144684).f2).f2).f1).rows_split e144755 (idx_some q144752).2.2) e144765 A3 rfl rfl rfl q144762 (Sub.refl _) ?_)
                  intro v144766 q144767
                  obtain rfl := encInt_val.1 q144767
                  refine WL_run rfl (yield_of rfl (congrArg Value.bool hc144750)) rfl (Exec.lss rfl rfl rfl ?_)
                  refine WL_step rfl rfl (Exec.pick_t (v := Value.bool (decide (x144761 < 1125899906842624))) rfl (congrArg Value.bool hc144750) rfl ?_)
                  refine WL_nil (at_normal ?_)
                  have e144768 := Option.some.inj ht144731
                  subst z144730
                  have hS144769 := ((hS144684).f2).f2
                  have hS144770 := (hS144769).f2
                  exact ⟨s144682, (PHeap.le_refl _), hS144770, p144685, p144686, p144687, p144688, rfl, p144689, p144690, p144691, p144692, p144693, x144694, rfl⟩
                · replace hc144750 := not_true hc144750
                  refine WL_pass rfl (yield_of rfl (congrArg Value.bool hc144750)) rfl rfl ?_
                  refine WL_pass rfl (yield_of rfl (congrArg Value.bool hc144750)) rfl rfl ?_
                  refine WL_pass rfl (yield_of rfl (congrArg Value.bool hc144750)) rfl rfl ?_
                  refine WL_pass rfl (yield_of rfl (congrArg Value.bool hc144750)) rfl rfl ?_
                  refine WL_pass rfl (yield_of rfl (congrArg Value.bool hc144750)) rfl rfl ?_
                  refine WL_pass rfl (yield_of rfl (congrArg Value.bool hc144750)) rfl rfl ?_
                  refine WL_pass rfl (yield_of rfl (congrArg Value.bool hc144750)) rfl rfl ?_
                  refine WL_pass rfl (yield_of rfl (congrArg Value.bool hc144750)) rfl rfl ?_
                  refine WL_step rfl rfl (Exec.pick_f (v := Value.bool (false)) rfl (congrArg Value.bool hc144750) rfl ?_)
                  refine WL_nil (at_normal ?_)
                  have e144771 := Option.some.inj ht144731
                  subst z144730
                  have hS144772 := ((hS144684).f2).f2
                  have hS144773 := (hS144772).f2
                  exact ⟨s144682, (PHeap.le_refl _), hS144773, p144685, p144686, p144687, p144688, rfl, p144689, p144690, p144691, p144692, p144693, x144694, rfl⟩
              · intro f144774 w144775 hM144776
                obtain ⟨s144777, l144778, hS144779, p144780, p144781, p144782, p144783, p144784, p144785, p144786, p144787, p144788, p144789, p144790, p144791⟩ := hM144776
                refine (at_normal ?_)
                obtain ⟨l145524, ht145525, hm144681⟩ := bind_some hm144681
                refine W_mid (M := fun f' w' => (fun (l145524 : (List (List Int))) => ∃ (s145526 : PHeap) , PHeap.le s144777 s145526 ∧ St w0 s145526 (Res.arr encBound 32 v24522 bounds24521 :: Res.arr encRaw 49 v85801 hs85802 :: Res.rows (encInt .i64) 3 hs85802 l145524 :: H) w' ∧ f' 0 = Value.int .i64 (n24520) ∧ f' 6 = v85801 ∧ f' 11 = Value.int .i64 ((i87905 : Int)) ∧ f' 12 = Value.int .i64 ((i131850 : Int)) ∧ f' 69 = Value.int .i64 (n24520) ∧ f' 70 = Value.int .i64 ((i87905 : Int)) ∧ f' 73 = Value.int .i64 (n24520) ∧ f' 74 = Value.int .i64 ((i131850 : Int)) ∧ f' 77 = Value.int .i64 (n24520) ∧ f' 78 = Value.int .i64 ((i141494 : Int))) l145524) ?_ ?_
                · rcases ite_some ht145525 with ⟨hc145527, ht145525⟩ | ⟨hc145527, ht145525⟩
                  · refine W_cond_t p144791 hc145527 ?_
                    obtain ⟨row145931, q145932, ht145525⟩ := bind_some ht145525
                    obtain ⟨h145933, e145934, e145935, _⟩ := ((((hS144779).f2).f2).f1).rows_at q145932
                    obtain ⟨g145936, c145937, e145938⟩ := (((hS144779).f2).f2).arr_at e145934
                    obtain ⟨g145939, c145940, e145941⟩ := (((hS144779).f2).f2).arr_at e145934
                    obtain ⟨x145942, q145943, ht145525⟩ := bind_some ht145525
                    obtain ⟨g145944, c145945, e145946⟩ := (((((hS144779).f2).f2).f1).rows_split e145935 (idx_some q145932).2.2).arr_at q145943
                    obtain ⟨g145947, c145948, e145949⟩ := (((hS144779).f2).f2).arr_at e145934
                    obtain ⟨x145950, q145951, ht145525⟩ := bind_some ht145525
                    obtain ⟨g145952, c145953, e145954⟩ := (((((hS144779).f2).f2).f1).rows_split e145935 (idx_some q145932).2.2).arr_at q145951
                    obtain ⟨row145955, q145956, ht145525⟩ := bind_some ht145525
                    obtain ⟨h145957, e145958, e145959, _⟩ := ((((hS144779).f2).f2).f1).rows_at q145956
                    obtain ⟨g145960, c145961, e145962⟩ := (((hS144779).f2).f2).arr_at e145958
                    obtain ⟨x145963, q145964, ht145525⟩ := bind_some ht145525
                    obtain ⟨g145965, c145966, e145967⟩ := (((((hS144779).f2).f2).f1).rows_split e145959 (idx_some q145956).2.2).arr_at q145964
                    obtain ⟨g145968, c145969, e145970⟩ := (((((hS144779).f2).f2).f1).rows_split e145935 (idx_some q145932).2.2).arr_at q145943
                    obtain ⟨l145971, q145972, ht145525⟩ := bind_some ht145525
                    obtain ⟨l145973, q145974, ht145525⟩ := bind_some ht145525
                    have hS145975 := ((hS144779).f2).f2
                    refine W_drawn (n0 := 29) hmix (by kernel_rfl) [RP.eq (v85801), RP.eq (Value.int .i64 ((i131850 : Int))), RP.eq (Value.pointer (some ⟨g145936, 0 + ((i131850 : Int)).toNat * 1, none⟩)), RP.eq (h145933), RP.eq (Value.int .i64 ((i141494 : Int))), RP.eq (v85801), RP.eq (Value.int .i64 ((i131850 : Int))), RP.eq (Value.pointer (some ⟨g145939, 0 + ((i131850 : Int)).toNat * 1, none⟩)), RP.eq (h145933), RP.eq (Value.int .i64 ((i141494 : Int))), RP.eq (Value.pointer (some ⟨g145944, 0 + ((i141494 : Int)).toNat * 1, none⟩)), RP.eq (Value.int .i64 (x145942)), RP.eq (v85801), RP.eq (Value.int .i64 ((i131850 : Int))), RP.eq (Value.pointer (some ⟨g145947, 0 + ((i131850 : Int)).toNat * 1, none⟩)), RP.eq (h145933), RP.eq (Value.int .i64 ((i87905 : Int))), RP.eq (Value.pointer (some ⟨g145952, 0 + ((i87905 : Int)).toNat * 1, none⟩)), RP.eq (Value.int .i64 (x145950)), RP.eq (v85801), RP.eq (Value.int .i64 ((i87905 : Int))), RP.eq (Value.pointer (some ⟨g145960, 0 + ((i87905 : Int)).toNat * 1, none⟩)), RP.eq (h145957), RP.eq (Value.int .i64 ((i141494 : Int))), RP.eq (Value.pointer (some ⟨g145965, 0 + ((i141494 : Int)).toNat * 1, none⟩)), RP.eq (Value.int .i64 (x145963)), RP.eq (Value.int .i64 (IntKind.i64.wrap (x145950 + x145963))), RP.eq (Value.int .i64 (min x145942 (IntKind.i64.wrap (x145950 + x145963)))), RP.eq (Value.pointer (some ⟨g145968, 0 + ((i141494 : Int)).toNat * 1, none⟩))] hS145975 (HeadAll.cons ?_ (HeadAll.cons ?_ (HeadAll.cons ?_ (HeadAll.cons ?_ (HeadAll.cons ?_ (HeadAll.cons ?_ (HeadAll.cons ?_ (HeadAll.cons ?_ (HeadAll.cons ?_ (HeadAll.cons ?_ (HeadAll.cons ?_ (HeadAll.cons ?_ (HeadAll.cons ?_ (HeadAll.cons ?_ (HeadAll.cons ?_ (HeadAll.cons ?_ (HeadAll.cons ?_ (HeadAll.cons ?_ (HeadAll.cons ?_ (HeadAll.cons ?_ (HeadAll.cons ?_ (HeadAll.cons ?_ (HeadAll.cons ?_ (HeadAll.cons ?_ (HeadAll.cons ?_ (HeadAll.cons ?_ (HeadAll.cons ?_ (HeadAll.cons ?_ (HeadAll.cons ?_ (HeadAll.nil)))))))))))))))))))))))))))))) ?_
                    · intro g145976 s145977 w145978 l145979 hS145980 fr145981 pre145982
                      refine head_run rfl (Exec.move (v := v85801) rfl (Eq.trans (fr145981 6 rfl) p144781) ?_)
                      exact head_done hS145980 rfl
                    · intro g145983 s145984 w145985 l145986 hS145987 fr145988 pre145989
                      refine head_run rfl (Exec.move (v := Value.int .i64 ((i131850 : Int))) rfl (Eq.trans (fr145988 12 rfl) p144783) ?_)
                      exact head_done hS145987 rfl
                    · intro g145990 s145991 w145992 l145993 hS145994 fr145995 pre145996
                      have p145997 : g145990 99 = (v85801) := pre145996 0 _ rfl rfl
                      have p145998 : g145990 100 = (Value.int .i64 ((i131850 : Int))) := pre145996 1 _ rfl rfl
                      refine head_run rfl (Exec.index_slice S61 rfl (Eq.trans p145997 e145938) p145998 (idx_some e145934).1 (idx_some e145934).2.1 ?_)
                      exact head_done hS145994 rfl
                    · intro g145999 s146000 w146001 l146002 hS146003 fr146004 pre146005
                      have p146006 : g145999 101 = (Value.pointer (some ⟨g145936, 0 + ((i131850 : Int)).toNat * 1, none⟩)) := pre146005 0 _ rfl rfl
                      refine head_run rfl (Exec.load_arr (F := encRaw) (hS146003) e145938 A49 rfl p146006 rfl e145934 (Sub.refl _) ?_)
                      intro v146007 q146008
                      exact head_done hS146003 (encRaw_val.1 q146008).1
                    · intro g146009 s146010 w146011 l146012 hS146013 fr146014 pre146015
                      refine head_run rfl (Exec.move (v := Value.int .i64 ((i141494 : Int))) rfl (Eq.trans (fr146014 13 rfl) p144784) ?_)
                      exact head_done hS146013 rfl
                    · intro g146016 s146017 w146018 l146019 hS146020 fr146021 pre146022
                      refine head_run rfl (Exec.move (v := v85801) rfl (Eq.trans (fr146021 6 rfl) p144781) ?_)
                      exact head_done hS146020 rfl
                    · intro g146023 s146024 w146025 l146026 hS146027 fr146028 pre146029
                      refine head_run rfl (Exec.move (v := Value.int .i64 ((i131850 : Int))) rfl (Eq.trans (fr146028 12 rfl) p144783) ?_)
                      exact head_done hS146027 rfl
                    · intro g146030 s146031 w146032 l146033 hS146034 fr146035 pre146036
                      have p146037 : g146030 104 = (v85801) := pre146036 0 _ rfl rfl
                      have p146038 : g146030 105 = (Value.int .i64 ((i131850 : Int))) := pre146036 1 _ rfl rfl
                      refine head_run rfl (Exec.index_slice S61 rfl (Eq.trans p146037 e145941) p146038 (idx_some e145934).1 (idx_some e145934).2.1 ?_)
                      exact head_done hS146034 rfl
                    · intro g146039 s146040 w146041 l146042 hS146043 fr146044 pre146045
                      have p146046 : g146039 106 = (Value.pointer (some ⟨g145939, 0 + ((i131850 : Int)).toNat * 1, none⟩)) := pre146045 0 _ rfl rfl
                      refine head_run rfl (Exec.load_arr (F := encRaw) (hS146043) e145941 A49 rfl p146046 rfl e145934 (Sub.refl _) ?_)
                      intro v146047 q146048
                      exact head_done hS146043 (encRaw_val.1 q146048).1
                    · intro g146049 s146050 w146051 l146052 hS146053 fr146054 pre146055
                      refine head_run rfl (Exec.move (v := Value.int .i64 ((i141494 : Int))) rfl (Eq.trans (fr146054 13 rfl) p144784) ?_)
                      exact head_done hS146053 rfl
                    · intro g146056 s146057 w146058 l146059 hS146060 fr146061 pre146062
                      have p146063 : g146056 107 = (h145933) := pre146062 0 _ rfl rfl
                      have p146064 : g146056 108 = (Value.int .i64 ((i141494 : Int))) := pre146062 1 _ rfl rfl
                      refine head_run rfl (Exec.index_slice S49 rfl (Eq.trans p146063 e145946) p146064 (idx_some q145943).1 (idx_some q145943).2.1 ?_)
                      exact head_done hS146060 rfl
                    · intro g146065 s146066 w146067 l146068 hS146069 fr146070 pre146071
                      have p146072 : g146065 109 = (Value.pointer (some ⟨g145944, 0 + ((i141494 : Int)).toNat * 1, none⟩)) := pre146071 0 _ rfl rfl
                      refine head_run rfl (Exec.load_arr (F := (encInt .i64)) (((hS146069).f1).rows_split e145935 (idx_some q145932).2.2) e145946 A3 rfl p146072 rfl q145943 (Sub.refl _) ?_)
                      intro v146073 q146074
                      exact head_done hS146069 (encInt_val.1 q146074)
                    · intro g146075 s146076 w146077 l146078 hS146079 fr146080 pre146081
                      refine head_run rfl (Exec.move (v := v85801) rfl (Eq.trans (fr146080 6 rfl) p144781) ?_)
                      exact head_done hS146079 rfl
                    · intro g146082 s146083 w146084 l146085 hS146086 fr146087 pre146088
                      refine head_run rfl (Exec.move (v := Value.int .i64 ((i131850 : Int))) rfl (Eq.trans (fr146087 12 rfl) p144783) ?_)
                      exact head_done hS146086 rfl
                    · intro g146089 s146090 w146091 l146092 hS146093 fr146094 pre146095
                      have p146096 : g146089 112 = (Value.int .i64 ((i131850 : Int))) := pre146095 1 _ rfl rfl
                      have p146097 : g146089 111 = (v85801) := pre146095 0 _ rfl rfl
                      refine head_run rfl (Exec.index_slice S61 rfl (Eq.trans p146097 e145949) p146096 (idx_some e145934).1 (idx_some e145934).2.1 ?_)
                      exact head_done hS146093 rfl
                    · intro g146098 s146099 w146100 l146101 hS146102 fr146103 pre146104
                      have p146105 : g146098 113 = (Value.pointer (some ⟨g145947, 0 + ((i131850 : Int)).toNat * 1, none⟩)) := pre146104 0 _ rfl rfl
                      refine head_run rfl (Exec.load_arr (F := encRaw) (hS146102) e145949 A49 rfl p146105 rfl e145934 (Sub.refl _) ?_)
                      intro v146106 q146107
                      exact head_done hS146102 (encRaw_val.1 q146107).1
                    · intro g146108 s146109 w146110 l146111 hS146112 fr146113 pre146114
                      refine head_run rfl (Exec.move (v := Value.int .i64 ((i87905 : Int))) rfl (Eq.trans (fr146113 11 rfl) p144782) ?_)
                      exact head_done hS146112 rfl
                    · intro g146115 s146116 w146117 l146118 hS146119 fr146120 pre146121
                      have p146122 : g146115 114 = (h145933) := pre146121 0 _ rfl rfl
                      have p146123 : g146115 115 = (Value.int .i64 ((i87905 : Int))) := pre146121 1 _ rfl rfl
                      refine head_run rfl (Exec.index_slice S49 rfl (Eq.trans p146122 e145954) p146123 (idx_some q145951).1 (idx_some q145951).2.1 ?_)
                      exact head_done hS146119 rfl
                    · intro g146124 s146125 w146126 l146127 hS146128 fr146129 pre146130
                      have p146131 : g146124 116 = (Value.pointer (some ⟨g145952, 0 + ((i87905 : Int)).toNat * 1, none⟩)) := pre146130 0 _ rfl rfl
                      refine head_run rfl (Exec.load_arr (F := (encInt .i64)) (((hS146128).f1).rows_split e145935 (idx_some q145932).2.2) e145954 A3 rfl p146131 rfl q145951 (Sub.refl _) ?_)
                      intro v146132 q146133
                      exact head_done hS146128 (encInt_val.1 q146133)
                    · intro g146134 s146135 w146136 l146137 hS146138 fr146139 pre146140
                      refine head_run rfl (Exec.move (v := v85801) rfl (Eq.trans (fr146139 6 rfl) p144781) ?_)
                      exact head_done hS146138 rfl
                    · intro g146141 s146142 w146143 l146144 hS146145 fr146146 pre146147
                      refine head_run rfl (Exec.move (v := Value.int .i64 ((i87905 : Int))) rfl (Eq.trans (fr146146 11 rfl) p144782) ?_)
                      exact head_done hS146145 rfl
                    · intro g146148 s146149 w146150 l146151 hS146152 fr146153 pre146154
                      have p146155 : g146148 118 = (v85801) := pre146154 0 _ rfl rfl
                      have p146156 : g146148 119 = (Value.int .i64 ((i87905 : Int))) := pre146154 1 _ rfl rfl
                      refine head_run rfl (Exec.index_slice S61 rfl (Eq.trans p146155 e145962) p146156 (idx_some e145958).1 (idx_some e145958).2.1 ?_)
                      exact head_done hS146152 rfl
                    · intro g146157 s146158 w146159 l146160 hS146161 fr146162 pre146163
                      have p146164 : g146157 120 = (Value.pointer (some ⟨g145960, 0 + ((i87905 : Int)).toNat * 1, none⟩)) := pre146163 0 _ rfl rfl
                      refine head_run rfl (Exec.load_arr (F := encRaw) (hS146161) e145962 A49 rfl p146164 rfl e145958 (Sub.refl _) ?_)
                      intro v146165 q146166
                      exact head_done hS146161 (encRaw_val.1 q146166).1
                    · intro g146167 s146168 w146169 l146170 hS146171 fr146172 pre146173
                      refine head_run rfl (Exec.move (v := Value.int .i64 ((i141494 : Int))) rfl (Eq.trans (fr146172 13 rfl) p144784) ?_)
                      exact head_done hS146171 rfl
                    · intro g146174 s146175 w146176 l146177 hS146178 fr146179 pre146180
                      have p146181 : g146174 121 = (h145957) := pre146180 0 _ rfl rfl
                      have p146182 : g146174 122 = (Value.int .i64 ((i141494 : Int))) := pre146180 1 _ rfl rfl
                      refine head_run rfl (Exec.index_slice S49 rfl (Eq.trans p146181 e145967) p146182 (idx_some q145964).1 (idx_some q145964).2.1 ?_)
                      exact head_done hS146178 rfl
                    · intro g146183 s146184 w146185 l146186 hS146187 fr146188 pre146189
                      have p146190 : g146183 123 = (Value.pointer (some ⟨g145965, 0 + ((i141494 : Int)).toNat * 1, none⟩)) := pre146189 0 _ rfl rfl
                      refine head_run rfl (Exec.load_arr (F := (encInt .i64)) (((hS146187).f1).rows_split e145959 (idx_some q145956).2.2) e145967 A3 rfl p146190 rfl q145964 (Sub.refl _) ?_)
                      intro v146191 q146192
                      exact head_done hS146187 (encInt_val.1 q146192)
                    · intro g146193 s146194 w146195 l146196 hS146197 fr146198 pre146199
                      have p146200 : g146193 124 = (Value.int .i64 (x145963)) := pre146199 1 _ rfl rfl
                      have p146201 : g146193 117 = (Value.int .i64 (x145950)) := pre146199 0 _ rfl rfl
                      refine head_run rfl (Exec.add rfl p146201 p146200 ?_)
                      exact head_done hS146197 rfl
                    · intro g146202 s146203 w146204 l146205 hS146206 fr146207 pre146208
                      have p146209 : g146202 125 = (Value.int .i64 (IntKind.i64.wrap (x145950 + x145963))) := pre146208 1 _ rfl rfl
                      have p146210 : g146202 110 = (Value.int .i64 (x145942)) := pre146208 0 _ rfl rfl
                      refine head_run rfl (Exec.min2 rfl p146210 p146209 ?_)
                      exact head_done hS146206 rfl
                    · intro g146211 s146212 w146213 l146214 hS146215 fr146216 pre146217
                      have p146218 : g146211 102 = (h145933) := pre146217 0 _ rfl rfl
                      have p146219 : g146211 103 = (Value.int .i64 ((i141494 : Int))) := pre146217 1 _ rfl rfl
                      refine head_run rfl (Exec.index_slice S49 rfl (Eq.trans p146218 e145970) p146219 (idx_some q145943).1 (idx_some q145943).2.1 ?_)
                      exact head_done hS146215 rfl
                    · intro g146220 s146221 w146222 l146223 hS146224 fr146225 hR146226
                      have p146227 : g146220 99 = (v85801) := hR146226 0 rfl
                      have p146228 : g146220 100 = (Value.int .i64 ((i131850 : Int))) := hR146226 1 rfl
                      have p146229 : g146220 101 = (Value.pointer (some ⟨g145936, 0 + ((i131850 : Int)).toNat * 1, none⟩)) := hR146226 2 rfl
                      have p146230 : g146220 102 = (h145933) := hR146226 3 rfl
                      have p146231 : g146220 103 = (Value.int .i64 ((i141494 : Int))) := hR146226 4 rfl
                      have p146232 : g146220 104 = (v85801) := hR146226 5 rfl
                      have p146233 : g146220 105 = (Value.int .i64 ((i131850 : Int))) := hR146226 6 rfl
                      have p146234 : g146220 106 = (Value.pointer (some ⟨g145939, 0 + ((i131850 : Int)).toNat * 1, none⟩)) := hR146226 7 rfl
                      have p146235 : g146220 107 = (h145933) := hR146226 8 rfl
                      have p146236 : g146220 108 = (Value.int .i64 ((i141494 : Int))) := hR146226 9 rfl
                      have p146237 : g146220 109 = (Value.pointer (some ⟨g145944, 0 + ((i141494 : Int)).toNat * 1, none⟩)) := hR146226 10 rfl
                      have p146238 : g146220 110 = (Value.int .i64 (x145942)) := hR146226 11 rfl
                      have p146239 : g146220 111 = (v85801) := hR146226 12 rfl
                      have p146240 : g146220 112 = (Value.int .i64 ((i131850 : Int))) := hR146226 13 rfl
                      have p146241 : g146220 113 = (Value.pointer (some ⟨g145947, 0 + ((i131850 : Int)).toNat * 1, none⟩)) := hR146226 14 rfl
                      have p146242 : g146220 114 = (h145933) := hR146226 15 rfl
                      have p146243 : g146220 115 = (Value.int .i64 ((i87905 : Int))) := hR146226 16 rfl
                      have p146244 : g146220 116 = (Value.pointer (some ⟨g145952, 0 + ((i87905 : Int)).toNat * 1, none⟩)) := hR146226 17 rfl
                      have p146245 : g146220 117 = (Value.int .i64 (x145950)) := hR146226 18 rfl
                      have p146246 : g146220 118 = (v85801) := hR146226 19 rfl
                      have p146247 : g146220 119 = (Value.int .i64 ((i87905 : Int))) := hR146226 20 rfl
                      have p146248 : g146220 120 = (Value.pointer (some ⟨g145960, 0 + ((i87905 : Int)).toNat * 1, none⟩)) := hR146226 21 rfl
                      have p146249 : g146220 121 = (h145957) := hR146226 22 rfl
                      have p146250 : g146220 122 = (Value.int .i64 ((i141494 : Int))) := hR146226 23 rfl
                      have p146251 : g146220 123 = (Value.pointer (some ⟨g145965, 0 + ((i141494 : Int)).toNat * 1, none⟩)) := hR146226 24 rfl
                      have p146252 : g146220 124 = (Value.int .i64 (x145963)) := hR146226 25 rfl
                      have p146253 : g146220 125 = (Value.int .i64 (IntKind.i64.wrap (x145950 + x145963))) := hR146226 26 rfl
                      have p146254 : g146220 126 = (Value.int .i64 (min x145942 (IntKind.i64.wrap (x145950 + x145963)))) := hR146226 27 rfl
                      have p146255 : g146220 127 = (Value.pointer (some ⟨g145968, 0 + ((i141494 : Int)).toNat * 1, none⟩)) := hR146226 28 rfl
                      refine WL_step rfl rfl (Exec.store_arr (((hS146224).f1).rows_split e145935 (idx_some q145932).2.2) e145970 A3 rfl p146255 rfl p146254 (encInt_val.2 rfl) q145972 ?_)
                      intro w146256 hS146257
                      have hS146258 := (hS146257).rows_back e145935 (setI_some q145974).2.1
                      rw [← (setI_some q145974).2.2] at hS146258
                      have hS146259 := (hS146258).f1
                      refine WL_nil (at_normal ?_)
                      have e146260 := Option.some.inj ht145525
                      subst l145524
                      have hS146261 := (hS146259).f2
                      exact ⟨s146221, l146223, hS146261, (Eq.trans (fr146225 0 rfl) p144780), (Eq.trans (fr146225 6 rfl) p144781), (Eq.trans (fr146225 11 rfl) p144782), (Eq.trans (fr146225 12 rfl) p144783), (Eq.trans (fr146225 69 rfl) p144785), (Eq.trans (fr146225 70 rfl) p144786), (Eq.trans (fr146225 73 rfl) p144787), (Eq.trans (fr146225 74 rfl) p144788), (Eq.trans (fr146225 77 rfl) p144789), (Eq.trans (fr146225 78 rfl) p144790)⟩
                  · refine W_cond_f p144791 hc145527 ?_
                    replace hc145527 := not_true hc145527
                    refine W_skip (at_normal ?_)
                    have e146262 := Option.some.inj ht145525
                    subst l145524
                    have hS146263 := ((hS144779).f2).f2
                    have hS146264 := (hS146263).f2
                    exact ⟨s144777, (PHeap.le_refl _), hS146264, p144780, p144781, p144782, p144783, p144785, p144786, p144787, p144788, p144789, p144790⟩
                · intro f146265 w146266 hM146267
                  obtain ⟨s146268, l146269, hS146270, p146271, p146272, p146273, p146274, p146275, p146276, p146277, p146278, p146279, p146280⟩ := hM146267
                  refine (ib_normal (at_normal ?_))
                  refine W_region ?_
                  refine WL_step rfl rfl (Exec.add rfl p146280 rfl ?_)
                  refine WL_step rfl rfl (Exec.move (v := Value.int .i64 (IntKind.i64.wrap ((i141494 : Int) + 1))) rfl rfl ?_)
                  refine WL_nil (at_normal ?_)
                  have e146281 := Option.some.inj hm144681
                  subst s144676
                  have hS146282 := ((hS146270).f2).f2
                  have hS146283 := (hS146282).f2
                  exact ⟨s146268, (PHeap.le.trans (PHeap.le.trans l144683 l144778) l146269), hS146283, p146271, p146272, p146273, p146274, p146275, p146276, p146277, p146278, p146279, (Eq.trans rfl (wrap_up hi144679 (by have h := must_some q141493; simp at h; simp only [maxLen]; omega)))⟩
            · intro f146284 w146285 hI146286
              obtain ⟨s146287, l146288, hS146289, p146290, p146291, p146292, p146293, p146294, p146295, p146296, p146297, p146298, x146299⟩ := hI146286
              refine W_seq ?_
              refine W_region ?_
              refine WL_step rfl rfl (Exec.lss rfl x146299 p146298 ?_)
              refine WL_nil (at_normal ?_)
              refine W_seq ?_
              refine W_false (congrArg Value.bool (decide_eq_false (by omega))) ?_
              refine W_exit (at_exit (at_exit (ib_here (ib_normal (at_normal ?_)))))
              refine W_region ?_
              refine WL_step rfl rfl (Exec.add rfl p146297 rfl ?_)
              refine WL_step rfl rfl (Exec.move (v := Value.int .i64 (IntKind.i64.wrap ((i131850 : Int) + 1))) rfl rfl ?_)
              refine WL_nil (at_normal ?_)
              have e146300 := Option.some.inj hm141481
              subst s141476
              have hS146301 := ((hS146289).f2).f2
              have hS146302 := (hS146301).f2
              exact ⟨s146287, (PHeap.le.trans l141483 l146288), hS146302, p146290, p146291, p146292, p146294, p146295, p146296, (Eq.trans rfl (wrap_up hi141479 (by have h := must_some q131849; simp at h; simp only [maxLen]; omega)))⟩
          · intro f146303 w146304 hI146305
            obtain ⟨s146306, l146307, hS146308, p146309, p146310, p146311, p146312, p146313, p146314, x146315⟩ := hI146305
            refine W_seq ?_
            refine W_region ?_
            refine WL_step rfl rfl (Exec.lss rfl x146315 p146314 ?_)
            refine WL_nil (at_normal ?_)
            refine W_seq ?_
            refine W_false (congrArg Value.bool (decide_eq_false (by omega))) ?_
            refine W_exit (at_exit (at_exit (ib_here (at_normal ?_))))
            refine W_seq ?_
            refine W_region ?_
            refine WL_step rfl rfl (Exec.move (v := Value.int .i64 (n24520)) rfl p146309 ?_)
            refine WL_step rfl rfl (Exec.move (v := Value.int .i64 (0)) rfl rfl ?_)
            refine WL_nil (at_normal ?_)
            obtain ⟨u146316, q146317, hm131838⟩ := bind_some hm131838
            obtain ⟨c146391, hB146392, hr146393, hn146394, hb146395⟩ := ctl_some hm131838
            refine W_mid (M := fun f' w' => ∃ s', (c146391 = .next s' ∨ c146391 = .brk s') ∧ (fun (_ : Unit) => ∃ (s146397 : PHeap) , PHeap.le s146306 s146397 ∧ St w0 s146397 (Res.arr encBound 32 v24522 bounds24521 :: Res.arr encRaw 49 v85801 hs85802 :: Res.rows (encInt .i64) 3 hs85802 l136660 :: H) w' ∧ f' 0 = Value.int .i64 (n24520) ∧ f' 6 = v85801 ∧ f' 69 = Value.int .i64 (n24520) ∧ f' 70 = Value.int .i64 ((i87905 : Int)) ∧ f' 130 = Value.int .i64 (n24520)) s') ?_ ?_
            · refine W_block (W_forC (fun k' s' f' w' => (fun (_ : Unit) => ∃ (s146396 : PHeap) , PHeap.le s146306 s146396 ∧ St w0 s146396 (Res.arr encBound 32 v24522 bounds24521 :: Res.arr encRaw 49 v85801 hs85802 :: Res.rows (encInt .i64) 3 hs85802 l136660 :: H) w' ∧ f' 0 = Value.int .i64 (n24520) ∧ f' 6 = v85801 ∧ f' 69 = Value.int .i64 (n24520) ∧ f' 70 = Value.int .i64 ((i87905 : Int)) ∧ f' 130 = Value.int .i64 (n24520) ∧ f' 131 = Value.int .i64 (k' : Int)) s') hB146392 ?_ ?_ ?_)
              · have hS146398 := ((hS146308).f2).f2
                have hS146399 := (hS146398).f2
                exact ⟨s146306, (PHeap.le_refl _), hS146399, p146309, p146310, p146312, p146313, rfl, rfl⟩
              · intro i146318 t146407 c146401 f146402 w146403 hi146408 hI146404 hm146405 hres146406
                obtain ⟨s146409, l146410, hS146411, p146412, p146413, p146414, p146415, p146416, x146417⟩ := hI146404
                refine W_seq ?_
                refine W_region ?_
                refine WL_step rfl rfl (Exec.lss rfl x146417 p146416 ?_)
                refine WL_nil (at_normal ?_)
                refine W_seq ?_
                refine W_true (congrArg Value.bool (decide_eq_true (by omega))) ?_
                refine W_skip (at_normal ?_)
                refine W_seq ?_
                refine W_block ?_
                refine W_seq ?_
                refine W_region ?_
                refine WL_step rfl rfl (Exec.move (v := Value.int .i64 ((i146318 : Int))) rfl x146417 ?_)
                refine WL_step rfl rfl (Exec.assign (v := Value.int .i64 ((i146318 : Int))) rfl rfl ?_)
                refine WL_nil (at_normal ?_)
                refine W_seq ?_
                refine W_region ?_
                refine WL_step rfl rfl (Exec.move (v := v85801) rfl p146413 ?_)
                refine WL_step rfl rfl (Exec.move (v := Value.int .i64 ((i146318 : Int))) rfl rfl ?_)
                obtain ⟨row146435, q146436, hm146405⟩ := bind_some hm146405
                obtain ⟨h146437, e146438, e146439, _⟩ := ((((hS146411).f2).f2).f1).rows_at q146436
                obtain ⟨g146440, c146441, e146442⟩ := (((hS146411).f2).f2).arr_at e146438
                refine WL_step rfl rfl (Exec.index_slice S61 rfl e146442 rfl (idx_some e146438).1 (idx_some e146438).2.1 ?_)
                refine WL_step rfl rfl (Exec.load_arr (F := encRaw) (((hS146411).f2).f2) e146442 A49 rfl rfl rfl e146438 (Sub.refl _) ?_)
                intro v146443 q146444
                replace q146444 := (encRaw_val.1 q146444).1
                subst v146443
                refine WL_step rfl rfl (Exec.move (v := Value.int .i64 ((i146318 : Int))) rfl rfl ?_)
                obtain ⟨x146445, q146446, hm146405⟩ := bind_some hm146405
                obtain ⟨g146447, c146448, e146449⟩ := (((((hS146411).f2).f2).f1).rows_split e146439 (idx_some q146436).2.2).arr_at q146446
                refine WL_step rfl rfl (Exec.index_slice S49 rfl e146449 rfl (idx_some q146446).1 (idx_some q146446).2.1 ?_)
                refine WL_step rfl rfl (Exec.load_arr (F := (encInt .i64)) (((((hS146411).f2).f2).f1).rows_split e146439 (idx_some q146436).2.2) e146449 A3 rfl rfl rfl q146446 (Sub.refl _) ?_)
                intro v146450 q146451
                obtain rfl := encInt_val.1 q146451
                refine WL_step rfl rfl (Exec.lss rfl rfl rfl ?_)
                refine WL_nil (at_normal ?_)
                rcases ite_some hm146405 with ⟨hc146452, hm146405⟩ | ⟨hc146452, hm146405⟩
                · refine W_cond_t rfl hc146452 ?_
                  refine W_seq ?_
                  refine W_region ?_
                  refine WL_step rfl rfl (Exec.assign (v := Value.slice none 0 0) rfl rfl ?_)
                  refine WL_step rfl rfl (Exec.assign (v := Value.bool (false)) rfl rfl ?_)
                  refine WL_nil (at_normal ?_)
                  refine W_ret (ib_ret (at_ret (at_ret (ib_ret (at_ret (ib_ret (at_ret (at_ret (ib_ret (at_ret (at_ret ?_)))))))))))
                  have e146453 := Option.some.inj hm146405
                  subst c146401
                  have hq146454 := hr146393 _ (hres146406 (by intro _ h; cases h))
                  have e146455 := Option.some.inj hq146454
                  subst c131834
                  have hq146456 := hr131826 _ (hres131839 (by intro _ h; cases h))
                  have e146457 := Option.some.inj hq146456
                  subst r
                  refine ⟨_, ret2 rfl, ?_⟩
                  have hS146458 := ((((hS146411).f2).f2).drop).drop
                  exact ⟨s146409, (Value.slice none 0 0), (PHeap.le.trans (PHeap.le.trans (PHeap.le.trans (PHeap.le.trans l86376 l87896) l131842) l146307) l146410), hS146458, (tup2 rfl rfl), (SliceRep.nil _ _)⟩
                · refine W_cond_f rfl hc146452 ?_
                  replace hc146452 := not_true hc146452
                  refine W_skip (ib_normal (at_normal ?_))
                  refine W_region ?_
                  refine WL_step rfl rfl (Exec.add rfl x146417 rfl ?_)
                  refine WL_step rfl rfl (Exec.move (v := Value.int .i64 (IntKind.i64.wrap ((i146318 : Int) + 1))) rfl rfl ?_)
                  refine WL_nil (at_normal ?_)
                  have e146459 := Option.some.inj hm146405
                  subst c146401
                  have hS146460 := ((hS146411).f2).f2
                  have hS146461 := (hS146460).f2
                  refine ⟨_, rfl, ?_⟩; exact ⟨s146409, l146410, hS146461, p146412, p146413, p146414, p146415, p146416, (Eq.trans rfl (wrap_up hi146408 (by have h := must_some q146317; simp at h; simp only [maxLen]; omega)))⟩
              · intro t146462 f146463 w146464 hI146465 hres146466
                obtain ⟨s146467, l146468, hS146469, p146470, p146471, p146472, p146473, p146474, x146475⟩ := hI146465
                refine W_seq ?_
                refine W_region ?_
                refine WL_step rfl rfl (Exec.lss rfl x146475 p146474 ?_)
                refine WL_nil (at_normal ?_)
                refine W_seq ?_
                refine W_false (congrArg Value.bool (decide_eq_false (by omega))) ?_
                refine W_exit (at_exit (at_exit (ib_here (at_normal ?_))))
                have hS146476 := ((hS146469).f2).f2
                have hS146477 := (hS146476).f2
                refine ⟨_, .inl hres146466, ?_⟩; exact ⟨s146467, l146468, hS146477, p146470, p146471, p146472, p146473, p146474⟩
            · rintro f146478 w146479 ⟨t146480, hc146481, hM146482⟩
              have hm131838 := hc146481.elim (hn146394 _) (hb146395 _)
              clear hc146481
              obtain ⟨s146483, l146484, hS146485, p146486, p146487, p146488, p146489, p146490⟩ := hM146482
              refine (ib_normal (at_normal ?_))
              refine W_region ?_
              refine WL_step rfl rfl (Exec.add rfl p146489 rfl ?_)
              refine WL_step rfl rfl (Exec.move (v := Value.int .i64 (IntKind.i64.wrap ((i87905 : Int) + 1))) rfl rfl ?_)
              refine WL_nil (at_normal ?_)
              have e146491 := Option.some.inj hm131838
              subst c131834
              have hS146492 := ((hS146485).f2).f2
              have hS146493 := (hS146492).f2
              refine ⟨_, rfl, ?_⟩; exact ⟨s146483, (PHeap.le.trans (PHeap.le.trans l131842 l146307) l146484), hS146493, p146486, p146487, p146488, (Eq.trans rfl (wrap_up hi131840 (by have h := must_some q87904; simp at h; simp only [maxLen]; omega)))⟩
        · intro l102544 f146494 w146495 hI146496 hres146497
          obtain ⟨s146498, l146499, hS146500, p146501, p146502, p146503, x146504⟩ := hI146496
          refine W_seq ?_
          refine W_region ?_
          refine WL_step rfl rfl (Exec.lss rfl x146504 p146503 ?_)
          refine WL_nil (at_normal ?_)
          refine W_seq ?_
          refine W_false (congrArg Value.bool (decide_eq_false (by omega))) ?_
          refine W_exit (at_exit (at_exit (ib_here (at_normal ?_))))
          have hS146505 := ((hS146500).f2).f2
          have hS146506 := (hS146505).f2
          refine ⟨_, .inl hres146497, ?_⟩; exact ⟨s146498, l146499, hS146506, p146501, p146502, p146503⟩
      · rintro f146507 w146508 ⟨l131823, hc146509, hM146510⟩
        have hm := hc146509.elim (hn131827 _) (hb131828 _)
        clear hc146509
        obtain ⟨s146511, l146512, hS146513, p146514, p146515, p146516⟩ := hM146510
        refine (at_normal ?_)
        refine W_seq ?_
        refine W_region ?_
        refine WL_step rfl rfl (Exec.move (v := v85801) rfl p146515 ?_)
        refine WL_step rfl rfl (Exec.assign (v := v85801) rfl rfl ?_)
        refine WL_step rfl rfl (Exec.assign (v := Value.bool (true)) rfl rfl ?_)
        refine WL_nil (at_normal ?_)
        refine W_ret ?_
        have e146518 := Option.some.inj hm
        subst r
        refine ⟨_, ret2 rfl, ?_⟩
        have hS146519 := ((hS146513).f2).f2
        obtain ⟨s146520, l146521, hS146522, r146523⟩ := hS146519.freezeGrid
        exact ⟨s146520, v85801, (PHeap.le.trans (PHeap.le.trans (PHeap.le.trans l86376 l87896) l146512) l146521), hS146522, (tup2 rfl rfl), r146523⟩

theorem N12 : (Try.f12.name == "runtime.NumGoroutine") = false := by kernel_rfl

theorem ref54_Add_sim {w0 w : World} {s : PHeap} {H : List Res} {n24169 : Int} {bounds24170 : (List Bound)} {b24173 : Bound} {v24171 : Value} {r : (List Bound) × Int} (hm : ref54_Add_p n24169 bounds24170 b24173 = some r) (hS : St w0 s (H) w) (a24172 : SliceRep encBound s v24171 bounds24170) :
    Calls Try.prog 12 #[Value.int .i64 (n24169), v24171, Value.agg #[Value.int .i64 (b24173.A), Value.int .i64 (b24173.B), Value.int .i64 (b24173.Most)]] w fun e w' => ∃ v, e = .returned v ∧ ((un2 fun (y146546 : (List Bound)) (y146547 : Int) => ∃ (s146553 : PHeap) (v146552 : Value), PHeap.le s s146553 ∧ St w0 s146553 (H) w' ∧ v = Value.tuple #[v146552, Value.int .i64 (y146547)] ∧ SliceRep encBound s146553 v146552 y146546) r) := by
  unfold ref54_Add_p at hm
  refine calls_of_W Try.func12 rfl rfl ?_
  refine W_seq ?_
  refine W_region ?_
  refine WL_step rfl rfl (Exec.box (cs := [Value.int .i64 (b24173.A), Value.int .i64 (b24173.B), Value.int .i64 (b24173.Most)]) hS rfl rfl rfl ?_)
  intro b146557 w146558 hS146559
  refine WL_step rfl rfl (Exec.assign (v := Value.slice none 0 0) rfl rfl ?_)
  refine WL_step rfl rfl (Exec.assign (v := Value.int .i64 (0)) rfl rfl ?_)
  refine WL_nil (at_normal ?_)
  refine W_seq ?_
  refine W_seq ?_
  refine W_region ?_
  refine WL_step rfl rfl (Exec.move (v := Value.int .i64 (n24169)) rfl rfl ?_)
  refine WL_step rfl rfl (Exec.load_box_agg (ds := [Value.int .i64 (b24173.A), Value.int .i64 (b24173.B), Value.int .i64 (b24173.Most)]) (hS146559) A32 rfl rfl rfl ?_)
  refine WL_step rfl rfl (Exec.call rfl rfl Try.func24 rfl N24 (args_cons rfl (args_cons rfl args_nil)) ((ref54_Right_sim (ref54_Right_tot n24169 b24173) hS146559 ).mono ?_))
  rintro _ w146564 ⟨_, rfl, ⟨s146565, l146566, hS146567, rfl⟩⟩
  refine ⟨_, rfl, ?_⟩
  refine WL_step rfl rfl (Exec.not rfl rfl ?_)
  refine WL_nil (at_normal ?_)
  rcases ite_some hm with ⟨hc146568, hm⟩ | ⟨hc146568, hm⟩
  · refine W_cond_t rfl hc146568 ?_
    refine W_seq ?_
    refine W_region ?_
    refine WL_step rfl rfl (Exec.move (v := v24171) rfl rfl ?_)
    refine WL_step rfl rfl (Exec.assign (v := v24171) rfl rfl ?_)
    refine WL_step rfl rfl (Exec.assign (v := Value.int .i64 (1)) rfl rfl ?_)
    refine WL_nil (at_normal ?_)
    refine W_ret (at_ret ?_)
    have e146570 := Option.some.inj hm
    subst r
    refine ⟨_, ret2 rfl, ?_⟩
    have hS146571 := (hS146567).drop
    exact ⟨s146565, v24171, l146566, hS146571, (tup2 rfl rfl), (a24172.mono l146566)⟩
  · refine W_cond_f rfl hc146568 ?_
    replace hc146568 := not_true hc146568
    refine W_skip (at_normal ?_)
    refine W_seq ?_
    obtain ⟨l146708, q146709, hm⟩ := bind_some hm
    obtain ⟨l146716, q146717, hm⟩ := bind_some hm
    refine W_drawnR (n0 := 6) (Hs := Res.box b146557 32 [Value.int .i64 (b24173.A), Value.int .i64 (b24173.B), Value.int .i64 (b24173.Most)] :: []) hmix (by kernel_rfl) [RR.lit encBound 32 0 [], RR.of (RP.eq (v24171)), RR.arr encBound 32 l146708, RR.of (RP.eq (Value.agg #[Value.int .i64 (b24173.A), Value.int .i64 (b24173.B), Value.int .i64 (b24173.Most)])), RR.lit encBound 32 1 [b24173], RR.arr encBound 32 l146716] [[], [], [0], [], [], [2, 4]] (by kernel_rfl) hS146567 (HeadAll.cons ?_ (HeadAll.cons ?_ (HeadAll.cons ?_ (HeadAll.cons ?_ (HeadAll.cons ?_ (HeadAll.cons ?_ (HeadAll.nil))))))) ?_
    · intro g146722 s146723 w146724 F146725 L146726 le146727 hS146728 fr146729 pre146730
      have hS146732 : St w0 s146723 (Res.box b146557 32 [Value.int .i64 (b24173.A), Value.int .i64 (b24173.B), Value.int .i64 (b24173.Most)] :: F146725) w146724 := hS146728
      refine head_runR rfl (Exec.buildSlice (Te := 32) (cs := []) hS146732 rfl parts_nil (fun _ => by kernel_rfl) ?_)
      intro b146733 w146734 hS146735
      have hS146736 := (hS146735).f1
      have hS146737 := (hS146736).f1
      exact ⟨s146723, [Res.box b146733 32 []], (PHeap.le_refl _), hS146737, ⟨_, _, rfl, rfl, rfl⟩⟩
    · intro g146738 s146739 w146740 F146741 L146742 le146743 hS146744 fr146745 pre146746
      have hS146748 : St w0 s146739 (Res.box b146557 32 [Value.int .i64 (b24173.A), Value.int .i64 (b24173.B), Value.int .i64 (b24173.Most)] :: F146741) w146740 := hS146744
      refine head_runR rfl (Exec.move (v := v24171) rfl (fr146745 1 rfl) ?_)
      exact head_doneR hS146748 ⟨rfl, rfl⟩
    · intro g146749 s146750 w146751 F146752 L146753 le146754 hS146755 fr146756 pre146757
      obtain ⟨b146760, cs146761, ev146762, e146759, hr146763⟩ := (show ∃ b cs, g146749 16 = .slice (some ⟨b, 0, none⟩) 0 0 ∧ L146753 0 = [.box b 32 cs] ∧ reps encBound s146750 cs [] from (pre146757 0 _ rfl rfl (Or.inr (show 0 ∈ [0] by decide))))
      have hS146764 : St w0 s146750 (Res.box b146760 32 cs146761 :: Res.box b146557 32 [Value.int .i64 (b24173.A), Value.int .i64 (b24173.B), Value.int .i64 (b24173.Most)] :: F146752) w146751 := flat1 (show St _ _ ([0].flatMap L146753 ++ (Res.box b146557 32 [Value.int .i64 (b24173.A), Value.int .i64 (b24173.B), Value.int .i64 (b24173.Most)] :: [] ++ F146752)) _ from hS146755) e146759
      have p146765 : g146749 17 = (v24171) := (pre146757 1 _ rfl rfl (Or.inl rfl)).2
      have hS146766 := St.boxArr (E := encBound) (xs := []) hS146764 hr146763 (by simp [maxLen])
      refine head_runR rfl (Exec.append_rep (E := encBound) (ys := bounds24170) hS146766 S22 Z32 rfl (by decide) rfl ev146762 p146765 (a24172.mono (PHeap.le.trans l146566 le146754)) q146709 ?_)
      intro v146767 w146768 hS146769
      have hS146770 := (hS146769).f1
      have hS146771 := (hS146770).f1
      exact ⟨s146750, [Res.arr encBound 32 v146767 l146708], (PHeap.le_refl _), hS146771, rfl⟩
    · intro g146772 s146773 w146774 F146775 L146776 le146777 hS146778 fr146779 pre146780
      have hS146782 : St w0 s146773 (Res.box b146557 32 [Value.int .i64 (b24173.A), Value.int .i64 (b24173.B), Value.int .i64 (b24173.Most)] :: F146775) w146774 := hS146778
      refine head_runR rfl (Exec.load_box_agg (ds := [Value.int .i64 (b24173.A), Value.int .i64 (b24173.B), Value.int .i64 (b24173.Most)]) (hS146782) A32 rfl (fr146779 5 rfl) rfl ?_)
      exact head_doneR hS146782 ⟨rfl, rfl⟩
    · intro g146783 s146784 w146785 F146786 L146787 le146788 hS146789 fr146790 pre146791
      have hS146793 : St w0 s146784 (Res.box b146557 32 [Value.int .i64 (b24173.A), Value.int .i64 (b24173.B), Value.int .i64 (b24173.Most)] :: F146786) w146785 := hS146789
      have p146794 : g146783 19 = (Value.agg #[Value.int .i64 (b24173.A), Value.int .i64 (b24173.B), Value.int .i64 (b24173.Most)]) := (pre146791 0 _ rfl rfl (Or.inl rfl)).2
      refine head_runR rfl (Exec.buildSlice (Te := 32) (cs := [Value.int .i64 (b24173.A), Value.int .i64 (b24173.B), Value.int .i64 (b24173.Most)]) hS146793 rfl (parts_cons (c := [Value.int .i64 (b24173.A), Value.int .i64 (b24173.B), Value.int .i64 (b24173.Most)]) (cells_of p146794 rfl) parts_nil) (fun _ => by kernel_rfl) ?_)
      intro b146795 w146796 hS146797
      have hS146798 := (hS146797).f1
      have hS146799 := (hS146798).f1
      exact ⟨s146784, [Res.box b146795 32 [Value.int .i64 (b24173.A), Value.int .i64 (b24173.B), Value.int .i64 (b24173.Most)]], (PHeap.le_refl _), hS146799, ⟨_, _, rfl, rfl, ⟨[Value.int .i64 (b24173.A), Value.int .i64 (b24173.B), Value.int .i64 (b24173.Most)], [], rfl, ⟨[Value.int .i64 (b24173.A)], [Value.int .i64 (b24173.B), Value.int .i64 (b24173.Most)], rfl, rfl, ⟨[Value.int .i64 (b24173.B)], [Value.int .i64 (b24173.Most)], rfl, rfl, rfl⟩⟩, rfl⟩⟩⟩
    · intro g146800 s146801 w146802 F146803 L146804 le146805 hS146806 fr146807 pre146808
      have e146810 : L146804 2 = [Res.arr encBound 32 (g146800 18) l146708] := (pre146808 0 _ rfl rfl (Or.inr (show 2 ∈ [2, 4] by decide)))
      obtain ⟨b146812, cs146813, ev146814, e146811, hr146815⟩ := (show ∃ b cs, g146800 20 = .slice (some ⟨b, 0, none⟩) 1 1 ∧ L146804 4 = [.box b 32 cs] ∧ reps encBound s146801 cs [b24173] from (pre146808 1 _ rfl rfl (Or.inr (show 4 ∈ [2, 4] by decide))))
      have hS146816 : St w0 s146801 (Res.arr encBound 32 (g146800 18) l146708 :: Res.box b146812 32 cs146813 :: Res.box b146557 32 [Value.int .i64 (b24173.A), Value.int .i64 (b24173.B), Value.int .i64 (b24173.Most)] :: F146803) w146802 := flat2 (show St _ _ ([2, 4].flatMap L146804 ++ (Res.box b146557 32 [Value.int .i64 (b24173.A), Value.int .i64 (b24173.B), Value.int .i64 (b24173.Most)] :: [] ++ F146803)) _ from hS146806) e146810 e146811
      have hS146817 := (hS146816).f1
      have hS146818 := (hS146817).f1
      refine head_runR rfl (Exec.append_box (E := encBound) (ys := [b24173]) hS146818 S22 Z32 rfl (by decide) rfl rfl ev146814 rfl hr146815 rfl q146717 ?_)
      intro v146819 w146820 hS146821
      have hS146822 := (hS146821).f1
      have hS146823 := (hS146822).f1
      exact ⟨s146801, [Res.arr encBound 32 v146819 l146716], (PHeap.le_refl _), hS146823, rfl⟩
    · intro g146824 s146825 w146826 L146827 le146828 hS146829 fr146830 hR146831
      have e146832 : L146827 5 = [Res.arr encBound 32 (g146824 21) l146716] := (hR146831 5 rfl (Or.inr (show 5 ∈ [5] by decide)))
      have hS146833 : St w0 s146825 (Res.arr encBound 32 (g146824 21) l146716 :: Res.box b146557 32 [Value.int .i64 (b24173.A), Value.int .i64 (b24173.B), Value.int .i64 (b24173.Most)] :: H) w146826 := flat1 (show St _ _ ([5].flatMap L146827 ++ (Res.box b146557 32 [Value.int .i64 (b24173.A), Value.int .i64 (b24173.B), Value.int .i64 (b24173.Most)] :: [] ++ H)) _ from hS146829) e146832
      have p146834 : g146824 17 = (v24171) := (hR146831 1 rfl (Or.inl rfl)).2
      have p146835 : g146824 19 = (Value.agg #[Value.int .i64 (b24173.A), Value.int .i64 (b24173.B), Value.int .i64 (b24173.Most)]) := (hR146831 3 rfl (Or.inl rfl)).2
      refine WL_step rfl rfl (Exec.assign (v := (g146824 21)) rfl rfl ?_)
      refine WL_nil (at_normal ?_)
      refine W_seq ?_
      refine W_seq ?_
      refine W_region ?_
      refine WL_step rfl rfl (Exec.move (v := Value.int .i64 (n24169)) rfl (fr146830 0 rfl) ?_)
      refine WL_step rfl rfl (Exec.move (v := (g146824 21)) rfl rfl ?_)
      obtain ⟨t146846, q146847, hm⟩ := bind_some hm
      obtain ⟨y146848, y146849⟩ := t146846
      replace hm := un2_eq hm
      refine WL_step rfl rfl (Exec.call rfl rfl Try.func25 rfl N25 (args_cons rfl (args_cons rfl args_nil)) ((ref54_Distances_o_sim q146847 hS146833 ).mono ?_))
      rintro _ w146850 ⟨_, rfl, ⟨s146851, v146854, l146852, hS146853, rfl, r146855⟩⟩
      refine ⟨_, rfl, ?_⟩
      refine WL_step rfl rfl (Exec.move (v := Value.tuple #[v146854, Value.bool (y146849)]) rfl rfl ?_)
      refine WL_step rfl rfl (Exec.extract (v := v146854) rfl rfl rfl ?_)
      refine WL_step rfl rfl (Exec.extract (v := Value.bool (y146849)) rfl rfl rfl ?_)
      refine WL_step rfl rfl (Exec.assign (v := v146854) rfl rfl ?_)
      refine WL_step rfl rfl (Exec.assign (v := Value.bool (y146849)) rfl rfl ?_)
      refine WL_nil (at_normal ?_)
      refine W_seq ?_
      refine W_region ?_
      refine WL_step rfl rfl (Exec.move (v := Value.bool (y146849)) rfl rfl ?_)
      refine WL_step rfl rfl (Exec.not rfl rfl ?_)
      refine WL_nil (at_normal ?_)
      rcases ite_some hm with ⟨hc146856, hm⟩ | ⟨hc146856, hm⟩
      · refine W_cond_t rfl hc146856 ?_
        refine W_seq ?_
        refine W_region ?_
        refine WL_step rfl rfl (Exec.move (v := v24171) rfl (fr146830 1 rfl) ?_)
        refine WL_step rfl rfl (Exec.assign (v := v24171) rfl rfl ?_)
        refine WL_step rfl rfl (Exec.assign (v := Value.int .i64 (21)) rfl rfl ?_)
        refine WL_nil (at_normal ?_)
        refine W_ret (at_ret ?_)
        have e146858 := Option.some.inj hm
        subst r
        refine ⟨_, ret2 rfl, ?_⟩
        have hS146859 := (hS146853).drop
        have hS146860 := (hS146859).drop
        exact ⟨s146851, v24171, (PHeap.le.trans (PHeap.le.trans l146566 le146828) l146852), hS146860, (tup2 rfl rfl), (a24172.mono (PHeap.le.trans (PHeap.le.trans l146566 le146828) l146852))⟩
      · refine W_cond_f rfl hc146856 ?_
        replace hc146856 := not_true hc146856
        refine W_skip (at_normal ?_)
        refine W_seq ?_
        refine W_region ?_
        refine WL_step rfl rfl (Exec.move (v := (g146824 21)) rfl rfl ?_)
        refine WL_step rfl rfl (Exec.assign (v := (g146824 21)) rfl rfl ?_)
        refine WL_step rfl rfl (Exec.assign (v := Value.int .i64 (0)) rfl rfl ?_)
        refine WL_nil (at_normal ?_)
        refine W_ret ?_
        have e146862 := Option.some.inj hm
        subst r
        refine ⟨_, ret2 rfl, ?_⟩
        obtain ⟨s146863, l146864, hS146865, r146866⟩ := hS146853.freezeArr
        have hS146867 := (hS146865).drop
        exact ⟨s146863, (g146824 21), (PHeap.le.trans (PHeap.le.trans (PHeap.le.trans l146566 le146828) l146852) l146864), hS146867, (tup2 rfl rfl), r146866⟩

theorem N27 : (Try.f27.name == "runtime.NumGoroutine") = false := by kernel_rfl

theorem slices_Clone___int_int__o_sim {w0 w : World} {s : PHeap} {H : List Res} {s_147389 : (List Int)} {v147390 : Value} {r : (List Int)} (hm : slices_Clone___int_int__o_p s_147389 = some r) (hS : St w0 s (Res.arr (encInt .i64) 3 v147390 s_147389 :: H) w)  :
    Calls Try.prog 27 #[v147390] w fun e w' => ∃ v, e = .returned v ∧ ((fun (y147426 : (List Int)) => ∃ (s147428 : PHeap) (v147427 : Value), PHeap.le s s147428 ∧ St w0 s147428 (Res.arr (encInt .i64) 3 v147390 s_147389 :: Res.arr (encInt .i64) 3 v147427 y147426 :: H) w' ∧ v = v147427) r) := by
  unfold slices_Clone___int_int__o_p at hm
  refine calls_of_W Try.func27 rfl rfl ?_
  refine W_seq ?_
  refine W_region ?_
  refine WL_step rfl rfl (Exec.assign (v := Value.slice none 0 0) rfl rfl ?_)
  refine WL_nil (at_normal ?_)
  refine W_seq ?_
  refine W_seq ?_
  refine W_region ?_
  refine WL_step rfl rfl (Exec.move (v := v147390) rfl rfl ?_)
  obtain ⟨a147434, n147435, c147436, e147437, hn147438⟩ := (hS).nilShape
  refine WL_step rfl rfl (Exec.slice_eql_nil Try.underlying49 rfl e147437 rfl ?_)
  refine WL_nil (at_normal ?_)
  by_cases hc147439 : a147434.isNone = true
  · have hq147440 := hn147438 hc147439
    replace hm := (show (some []) = ((app 8 [] s_147389).bind fun l147460 => some l147460) from by simp [hq147440, app]).trans hm
    refine W_true ((congrArg Value.bool hc147439)) ?_
    refine W_seq ?_
    refine W_region ?_
    refine WL_step rfl rfl (Exec.assign (v := Value.slice none 0 0) rfl rfl ?_)
    refine WL_nil (at_normal ?_)
    refine W_ret (at_ret ?_)
    have e147442 := Option.some.inj hm
    subst r
    refine ⟨_, ret1 rfl, ?_⟩
    have hS147443 := hS.nilArr (encInt .i64) 3
    have hS147444 := (hS147443).f1
    exact ⟨s, (Value.slice none 0 0), (PHeap.le_refl _), hS147444, rfl⟩
  · replace hc147439 := not_true hc147439
    refine W_false ((congrArg Value.bool hc147439)) ?_
    refine W_skip (at_normal ?_)
    refine W_seq ?_
    refine W_region ?_
    refine WL_step rfl rfl (Exec.buildSlice (Te := 3) (cs := []) hS rfl parts_nil (fun _ => by kernel_rfl) ?_)
    intro b147456 w147457 hS147458
    refine WL_step rfl rfl (Exec.move (v := v147390) rfl rfl ?_)
    have hS147459 := St.boxArr (E := (encInt .i64)) (xs := []) hS147458 rfl (by simp [maxLen])
    obtain ⟨l147460, q147461, hm⟩ := bind_some hm
    have hS147462 := (hS147459).f1
    have hS147463 := (hS147462).f1
    refine WL_step rfl rfl (Exec.append_arr (E := (encInt .i64)) hS147463 S49 Z3 rfl (by decide) rfl rfl rfl q147461 ?_)
    intro v147464 w147465 hS147466
    refine WL_step rfl rfl (Exec.assign (v := v147464) rfl rfl ?_)
    refine WL_nil (at_normal ?_)
    refine W_ret ?_
    have e147468 := Option.some.inj hm
    subst r
    refine ⟨_, ret1 rfl, ?_⟩
    have hS147469 := (hS147466).f1
    exact ⟨s, v147464, (PHeap.le_refl _), hS147469, rfl⟩

theorem N21 : (Try.f21.name == "runtime.NumGoroutine") = false := by kernel_rfl

theorem stn_Network_Copy_sim {w0 w : World} {s : PHeap} {H : List Res} {n147356 : stn_Network} {b147357 : Nat} {v147358 : Value} {hs147359 : List Value} {r : stn_Network} (hm : stn_Network_Copy_p n147356 = some r) (hS : St w0 s (Res.box b147357 63 [v147358] :: Res.arr encRaw 49 v147358 hs147359 :: Res.rows (encInt .i64) 3 hs147359 n147356.d :: H) w)  :
    Calls Try.prog 21 #[Value.pointer (some ⟨b147357, 0, none⟩)] w fun e w' => ∃ v, e = .returned v ∧ ((fun (d148829 : stn_Network) => ∃ (s148833 : PHeap) (b148830 : Nat) (v148831 : Value) (hs148832 : List Value), PHeap.le s s148833 ∧ St w0 s148833 (Res.box b147357 63 [v147358] :: Res.arr encRaw 49 v147358 hs147359 :: Res.rows (encInt .i64) 3 hs147359 n147356.d :: Res.box b148830 63 [v148831] :: Res.arr encRaw 49 v148831 hs148832 :: Res.rows (encInt .i64) 3 hs148832 d148829.d :: H) w' ∧ v = Value.pointer (some ⟨b148830, 0, none⟩)) r) := by
  unfold stn_Network_Copy_p at hm
  refine calls_of_W Try.func21 rfl rfl ?_
  refine W_seq ?_
  refine W_region ?_
  refine WL_step rfl rfl (Exec.assign (v := Value.pointer none) rfl rfl ?_)
  refine WL_nil (at_normal ?_)
  refine W_seq ?_
  refine W_seq ?_
  refine W_region ?_
  refine WL_step rfl rfl (Exec.move (v := Value.pointer (some ⟨b147357, 0, none⟩)) rfl rfl ?_)
  refine WL_step rfl rfl (Exec.ptr_eql_nil Try.underlying24 rfl rfl rfl ?_)
  refine WL_nil (at_normal ?_)
  refine W_false rfl ?_
  refine W_skip (at_normal ?_)
  refine W_seq ?_
  refine W_region ?_
  refine WL_step rfl rfl (Exec.build rfl parts_nil (v := Value.agg #[Value.slice none 0 0]) (fun _ => by kernel_rfl) ?_)
  refine WL_step rfl rfl (Exec.box (cs := [Value.slice none 0 0]) hS rfl rfl rfl ?_)
  intro b148837 w148838 hS148839
  refine WL_step rfl rfl (Exec.assign (v := Value.pointer (some ⟨b148837, 0, none⟩)) rfl rfl ?_)
  refine WL_nil (at_normal ?_)
  refine W_seq ?_
  refine W_seq ?_
  refine W_region ?_
  refine WL_step rfl rfl (Exec.move (v := Value.pointer (some ⟨b147357, 0, none⟩)) rfl rfl ?_)
  refine WL_step rfl rfl (Exec.nilCheck_ptr rfl rfl ?_)
  refine WL_step rfl rfl (Exec.field F63_0 rfl rfl rfl ?_)
  refine WL_step rfl rfl (Exec.load_box ((hS148839).f1) A61 rfl rfl rfl ?_)
  refine WL_step rfl rfl (Exec.len_grid (((hS148839).f3).f3) (((hS148839).f3).f3).f1.rows_len S61 rfl rfl ?_)
  refine WL_step rfl rfl (Exec.move (v := Value.int .i64 (0)) rfl rfl ?_)
  refine WL_nil (at_normal ?_)
  obtain ⟨z149284, hB149739, hm⟩ := bind_some hm
  refine W_block (W_forS (fun k' s' f' w' => (fun (z149284 : (List (List Int))) => ∃ (s149740 : PHeap) (v149285 : Value) (hs149286 : List Value), PHeap.le s s149740 ∧ St w0 s149740 (Res.box b147357 63 [v147358] :: Res.arr encRaw 49 v147358 hs147359 :: Res.rows (encInt .i64) 3 hs147359 n147356.d :: Res.box b148837 63 [v149285] :: Res.arr encRaw 49 v149285 hs149286 :: Res.rows (encInt .i64) 3 hs149286 z149284 :: H) w' ∧ f' 3 = Value.pointer (some ⟨b148837, 0, none⟩) ∧ f' 13 = v147358 ∧ f' 14 = Value.int .i64 ((n147356.d.length : Int)) ∧ f' 15 = Value.int .i64 (k' : Int)) s') hB149739 ?_ ?_ ?_)
  · have hS149741 := (hS148839.rows_nil (encInt .i64) 3).nilArr encRaw 49
    have hS149742 := (hS149741).f2
    have hS149743 := ((hS149742).f5).f5
    have hS149744 := (hS149743).f5
    exact ⟨s, (Value.slice none 0 0), [], (PHeap.le_refl _), hS149744, rfl, rfl, rfl, rfl⟩
  · intro i148840 z149284 s149746 f149747 w149748 hi149749 hI149750 hm149751
    obtain ⟨s149752, v149285, hs149286, l149753, hS149754, p149755, p149756, p149757, x149758⟩ := hI149750
    refine W_seq ?_
    refine W_region ?_
    refine WL_step rfl rfl (Exec.lss rfl x149758 p149757 ?_)
    refine WL_nil (at_normal ?_)
    refine W_seq ?_
    refine W_true (congrArg Value.bool (decide_eq_true (by omega))) ?_
    refine W_skip (at_normal ?_)
    refine W_seq ?_
    refine W_block ?_
    refine W_seq ?_
    refine W_region ?_
    obtain ⟨row149769, q149770, hm149751⟩ := bind_some hm149751
    obtain ⟨h149771, e149772, e149773, _⟩ := ((((hS149754).f2).f2).f1).rows_at q149770
    obtain ⟨g149774, c149775, e149776⟩ := (((hS149754).f2).f2).arr_at e149772
    refine WL_step rfl rfl (Exec.index_slice S61 rfl (Eq.trans p149756 e149776) x149758 (idx_some e149772).1 (idx_some e149772).2.1 ?_)
    refine WL_step rfl rfl (Exec.load_arr (F := encRaw) (((hS149754).f2).f2) e149776 A49 rfl rfl rfl e149772 (Sub.refl _) ?_)
    intro v149777 q149778
    replace q149778 := (encRaw_val.1 q149778).1
    subst v149777
    refine WL_step rfl rfl (Exec.assign (v := h149771) rfl rfl ?_)
    refine WL_nil (at_normal ?_)
    obtain ⟨y150000, q149999, hm149751⟩ := bind_some hm149751
    obtain ⟨l150012, q150013, hm149751⟩ := bind_some hm149751
    have hS150022 := (hS149754).f3
    have hS150023 := ((hS150022).f3).f3
    have hS150024 := (hS150023).f3
    have hS150025 := ((hS150024).f5).f5
    refine W_drawnX (n0 := 9) (Hs := Res.box b147357 63 [v147358] :: Res.arr encRaw 49 v147358 hs147359 :: Res.rows (encInt .i64) 3 hs147359 n147356.d :: Res.box b148837 63 [v149285] :: []) [[Res.arr encRaw 49 v149285 hs149286, Res.rows (encInt .i64) 3 hs149286 z149284]] hmix (by kernel_rfl) [RR.of (RP.eq (Value.pointer (some ⟨b148837, 0, none⟩))), RR.of (RP.eq (Value.pointer (some ⟨b148837, 0, none⟩))), RR.of (RP.eq (Value.pointer (some ⟨b148837, 0, none⟩))), RR.of (RP.eq (Value.pointer (some ⟨b148837, 0, none⟩))), RR.of (RP.eq (v149285)), RR.of (RP.eq (h149771)), RR.arr (encInt .i64) 3 y150000, RR.rowlit (encInt .i64) 49 3 y150000, RR.grid (encInt .i64) 49 3 l150012, RR.of RP.any, RR.of RP.any, RR.of RP.any, RR.own0 [Res.arr encRaw 49 v149285 hs149286, Res.rows (encInt .i64) 3 hs149286 z149284]] [[], [], [], [], [], [], [], [6], [12, 7]] (by kernel_rfl) (by kernel_rfl) (fun k hk => match k, hk with | 0, _ => ⟨rfl, fun _ => rfl⟩) (fun k hk t u v L h => match k, hk with | 0, _ => h) hS150025 (HeadAll.cons ?_ (HeadAll.cons ?_ (HeadAll.cons ?_ (HeadAll.cons ?_ (HeadAll.cons ?_ (HeadAll.cons ?_ (HeadAll.cons ?_ (HeadAll.cons ?_ (HeadAll.cons ?_ (HeadAll.nil)))))))))) ?_
    · intro g150026 s150027 w150028 F150029 L150030 le150031 hS150032 fr150033 pre150034 cn150035
      have hS150036 : St w0 s150027 (Res.box b147357 63 [v147358] :: Res.arr encRaw 49 v147358 hs147359 :: Res.rows (encInt .i64) 3 hs147359 n147356.d :: Res.box b148837 63 [v149285] :: F150029) w150028 := hS150032
      refine head_runR rfl (Exec.move (v := Value.pointer (some ⟨b148837, 0, none⟩)) rfl (Eq.trans (fr150033 3 rfl) p149755) ?_)
      have hS150037 := (hS150036).f3
      have hS150038 := ((hS150037).f3).f3
      have hS150039 := (hS150038).f3
      exact head_doneR hS150039 ⟨rfl, rfl⟩
    · intro g150040 s150041 w150042 F150043 L150044 le150045 hS150046 fr150047 pre150048 cn150049
      have hS150050 : St w0 s150041 (Res.box b147357 63 [v147358] :: Res.arr encRaw 49 v147358 hs147359 :: Res.rows (encInt .i64) 3 hs147359 n147356.d :: Res.box b148837 63 [v149285] :: F150043) w150042 := hS150046
      refine head_runR rfl (Exec.move (v := Value.pointer (some ⟨b148837, 0, none⟩)) rfl (Eq.trans (fr150047 3 rfl) p149755) ?_)
      have hS150051 := (hS150050).f3
      have hS150052 := ((hS150051).f3).f3
      have hS150053 := (hS150052).f3
      exact head_doneR hS150053 ⟨rfl, rfl⟩
    · intro g150054 s150055 w150056 F150057 L150058 le150059 hS150060 fr150061 pre150062 cn150063
      have hS150064 : St w0 s150055 (Res.box b147357 63 [v147358] :: Res.arr encRaw 49 v147358 hs147359 :: Res.rows (encInt .i64) 3 hs147359 n147356.d :: Res.box b148837 63 [v149285] :: F150057) w150056 := hS150060
      have p150065 : g150054 20 = (Value.pointer (some ⟨b148837, 0, none⟩)) := (pre150062 0 _ rfl rfl (Or.inl rfl)).2
      refine head_runR rfl (Exec.nilCheck_ptr rfl p150065 ?_)
      have hS150066 := (hS150064).f3
      have hS150067 := ((hS150066).f3).f3
      have hS150068 := (hS150067).f3
      exact head_doneR hS150068 ⟨rfl, rfl⟩
    · intro g150069 s150070 w150071 F150072 L150073 le150074 hS150075 fr150076 pre150077 cn150078
      have hS150079 : St w0 s150070 (Res.box b147357 63 [v147358] :: Res.arr encRaw 49 v147358 hs147359 :: Res.rows (encInt .i64) 3 hs147359 n147356.d :: Res.box b148837 63 [v149285] :: F150072) w150071 := hS150075
      have p150080 : g150069 21 = (Value.pointer (some ⟨b148837, 0, none⟩)) := (pre150077 0 _ rfl rfl (Or.inl rfl)).2
      refine head_runR rfl (Exec.field F63_0 rfl p150080 rfl ?_)
      have hS150081 := (hS150079).f3
      have hS150082 := ((hS150081).f3).f3
      have hS150083 := (hS150082).f3
      exact head_doneR hS150083 ⟨rfl, rfl⟩
    · intro g150084 s150085 w150086 F150087 L150088 le150089 hS150090 fr150091 pre150092 cn150093
      have hS150094 : St w0 s150085 (Res.box b147357 63 [v147358] :: Res.arr encRaw 49 v147358 hs147359 :: Res.rows (encInt .i64) 3 hs147359 n147356.d :: Res.box b148837 63 [v149285] :: F150087) w150086 := hS150090
      have p150095 : g150084 22 = (Value.pointer (some ⟨b148837, 0, none⟩)) := (pre150092 0 _ rfl rfl (Or.inl rfl)).2
      refine head_runR rfl (Exec.load_box ((hS150094).f3) A61 rfl p150095 rfl ?_)
      have hS150096 := (hS150094).f3
      have hS150097 := ((hS150096).f3).f3
      have hS150098 := (hS150097).f3
      exact head_doneR hS150098 ⟨rfl, rfl⟩
    · intro g150099 s150100 w150101 F150102 L150103 le150104 hS150105 fr150106 pre150107 cn150108
      have hS150109 : St w0 s150100 (Res.box b147357 63 [v147358] :: Res.arr encRaw 49 v147358 hs147359 :: Res.rows (encInt .i64) 3 hs147359 n147356.d :: Res.box b148837 63 [v149285] :: F150102) w150101 := hS150105
      refine head_runR rfl (Exec.move (v := h149771) rfl (fr150106 5 rfl) ?_)
      have hS150110 := (hS150109).f3
      have hS150111 := ((hS150110).f3).f3
      have hS150112 := (hS150111).f3
      exact head_doneR hS150112 ⟨rfl, rfl⟩
    · intro g150113 s150114 w150115 F150116 L150117 le150118 hS150119 fr150120 pre150121 cn150122
      have hS150123 : St w0 s150114 (Res.box b147357 63 [v147358] :: Res.arr encRaw 49 v147358 hs147359 :: Res.rows (encInt .i64) 3 hs147359 n147356.d :: Res.box b148837 63 [v149285] :: F150116) w150115 := hS150119
      have p150124 : g150113 24 = (h149771) := (pre150121 0 _ rfl rfl (Or.inl rfl)).2
      have hS150125 := ((((hS150123).f2).f2).f1).rows_split e149773 (idx_some q149770).2.2
      refine head_runR rfl (Exec.call rfl rfl Try.func27 rfl N27 (args_cons p150124 args_nil) ((slices_Clone___int_int__o_sim q149999 hS150125 ).mono ?_))
      rintro _ w150126 ⟨v150130, rfl, ⟨s150127, _, l150128, hS150129, rfl⟩⟩
      refine ⟨_, rfl, ?_⟩
      have hS150131 := ((hS150129).f3).f3
      have hS150132 := (hS150131).f2
      have hS150133 := ((hS150132).rows_unsplit e149773 (idx_some q149770).2.2).f1
      have hS150134 := (hS150133).f4
      have hS150135 := ((hS150134).f2).f2
      have hS150136 := (hS150135).f4
      have hS150137 := (hS150136).f4
      exact ⟨s150127, [Res.arr (encInt .i64) 3 v150130 y150000], l150128, hS150137, rfl⟩
    · intro g150138 s150139 w150140 F150141 L150142 le150143 hS150144 fr150145 pre150146 cn150147
      have e150148 : L150142 6 = [Res.arr (encInt .i64) 3 (g150138 25) y150000] := (cn150147 6 (show 6 ∈ [6] by decide))
      have hS150149 : St w0 s150139 (Res.arr (encInt .i64) 3 (g150138 25) y150000 :: Res.box b147357 63 [v147358] :: Res.arr encRaw 49 v147358 hs147359 :: Res.rows (encInt .i64) 3 hs147359 n147356.d :: Res.box b148837 63 [v149285] :: F150141) w150140 := flat1 (show St _ _ ([6].flatMap L150142 ++ (Res.box b147357 63 [v147358] :: Res.arr encRaw 49 v147358 hs147359 :: Res.rows (encInt .i64) 3 hs147359 n147356.d :: Res.box b148837 63 [v149285] :: [] ++ F150141)) _ from hS150144) e150148
      refine head_runR rfl (Exec.buildSlice (Te := 49) (cs := [(g150138 25)]) hS150149 rfl (parts_cons (c := [(g150138 25)]) (cells_of rfl (cells_one (hS150149).arr_one)) parts_nil) (fun _ => by kernel_rfl) ?_)
      intro b150150 w150151 hS150152
      have hS150153 := (hS150152).f5
      have hS150154 := ((hS150153).f5).f5
      have hS150155 := (hS150154).f5
      have hS150156 := (hS150155).f5
      have hS150157 := (hS150156).f5
      exact ⟨s150139, [Res.box b150150 49 [(g150138 25)], Res.arr (encInt .i64) 3 (g150138 25) y150000], (PHeap.le_refl _), hS150157, ⟨_, _, rfl, rfl⟩⟩
    · intro g150158 s150159 w150160 F150161 L150162 le150163 hS150164 fr150165 pre150166 cn150167
      have e150168 : L150162 12 = [Res.arr encRaw 49 v149285 hs149286, Res.rows (encInt .i64) 3 hs149286 z149284] := (cn150167 12 (show 12 ∈ [12, 7] by decide))
      obtain ⟨b150170, u150171, ev150172, e150169⟩ := (show ∃ b u, g150158 26 = .slice (some ⟨b, 0, none⟩) 1 1 ∧ L150162 7 = [.box b 49 [u], .arr (encInt .i64) 3 u y150000] from (cn150167 7 (show 7 ∈ [12, 7] by decide)))
      have hS150173 : St w0 s150159 (Res.arr encRaw 49 v149285 hs149286 :: Res.rows (encInt .i64) 3 hs149286 z149284 :: Res.box b150170 49 [u150171] :: Res.arr (encInt .i64) 3 u150171 y150000 :: Res.box b147357 63 [v147358] :: Res.arr encRaw 49 v147358 hs147359 :: Res.rows (encInt .i64) 3 hs147359 n147356.d :: Res.box b148837 63 [v149285] :: F150161) w150160 := flat2 (show St _ _ ([12, 7].flatMap L150162 ++ (Res.box b147357 63 [v147358] :: Res.arr encRaw 49 v147358 hs147359 :: Res.rows (encInt .i64) 3 hs147359 n147356.d :: Res.box b148837 63 [v149285] :: [] ++ F150161)) _ from hS150164) e150168 e150169
      have p150174 : g150158 23 = (v149285) := (pre150166 0 _ rfl rfl (Or.inl rfl)).2
      have hS150175 := (hS150173).f3
      have hS150176 := (hS150175).f3
      have hS150177 := ((hS150176).f3).f3
      have hS150178 := ((hS150177).f2).f1
      refine head_runR rfl (Exec.append_grid (E := encRaw) (ys := [u150171]) hS150178 S61 Z49 rfl (by decide) rfl p150174 ev150172 rfl (reps_one ⟨rfl, ((hS150178).f3).arr_one⟩) rfl rfl ((hS150178).f2).rows_len q150013 ?_)
      intro v150179 w150180 hS150181
      have hS150182 := ((hS150181).f1.f2.rows_push).f1
      rw [← (app_some q150013).2] at hS150182
      have hS150183 := (hS150182).f5
      have hS150184 := ((hS150183).f5).f5
      have hS150185 := (hS150184).f5
      have hS150186 := ((hS150185).f5).f5
      exact ⟨s150159, [Res.arr encRaw 49 v150179 (hs149286 ++ [u150171]), Res.rows (encInt .i64) 3 (hs149286 ++ [u150171]) l150012], (PHeap.le_refl _), hS150186, ⟨_, rfl⟩⟩
    · intro g150187 s150188 w150189 L150190 le150191 hS150192 fr150193 hR150194
      obtain ⟨hs150196, e150195⟩ := (show ∃ hs, L150190 8 = [.arr encRaw 49 (g150187 27) hs, .rows (encInt .i64) 3 hs l150012] from (hR150194 8 (Or.inr (show 8 ∈ [8] by decide))))
      have hS150197 : St w0 s150188 (Res.arr encRaw 49 (g150187 27) hs150196 :: Res.rows (encInt .i64) 3 hs150196 l150012 :: Res.box b147357 63 [v147358] :: Res.arr encRaw 49 v147358 hs147359 :: Res.rows (encInt .i64) 3 hs147359 n147356.d :: Res.box b148837 63 [v149285] :: H) w150189 := flat1 (show St _ _ ([8].flatMap L150190 ++ (Res.box b147357 63 [v147358] :: Res.arr encRaw 49 v147358 hs147359 :: Res.rows (encInt .i64) 3 hs147359 n147356.d :: Res.box b148837 63 [v149285] :: [] ++ H)) _ from hS150192) e150195
      have p150198 : g150187 19 = (Value.pointer (some ⟨b148837, 0, none⟩)) := (hR150194 0 (Or.inl ⟨rfl, rfl⟩)).2
      have p150199 : g150187 20 = (Value.pointer (some ⟨b148837, 0, none⟩)) := (hR150194 1 (Or.inl ⟨rfl, rfl⟩)).2
      have p150200 : g150187 21 = (Value.pointer (some ⟨b148837, 0, none⟩)) := (hR150194 2 (Or.inl ⟨rfl, rfl⟩)).2
      have p150201 : g150187 22 = (Value.pointer (some ⟨b148837, 0, none⟩)) := (hR150194 3 (Or.inl ⟨rfl, rfl⟩)).2
      have p150202 : g150187 23 = (v149285) := (hR150194 4 (Or.inl ⟨rfl, rfl⟩)).2
      have p150203 : g150187 24 = (h149771) := (hR150194 5 (Or.inl ⟨rfl, rfl⟩)).2
      refine WL_step rfl rfl (Exec.nilCheck_ptr rfl p150198 ?_)
      refine WL_step rfl rfl (Exec.field F63_0 rfl rfl rfl ?_)
      have hS150204 := (hS150197).f5
      refine WL_step rfl rfl (Exec.store_box (ds := [(g150187 27)]) (es := [(g150187 27)]) hS150204 A61 rfl rfl rfl (cells_one (((hS150204).f2).f2).arr_one) (one_cons (((hS150204).f2).f2).arr_one one_nil) (Nat.le_of_ble_eq_true rfl) rfl ?_)
      intro w150205 hS150206
      refine WL_nil (ib_normal (at_normal ?_))
      refine W_region ?_
      refine WL_step rfl rfl (Exec.add rfl (Eq.trans (fr150193 15 rfl) x149758) rfl ?_)
      refine WL_step rfl rfl (Exec.move (v := Value.int .i64 (IntKind.i64.wrap ((i148840 : Int) + 1))) rfl rfl ?_)
      refine WL_nil (at_normal ?_)
      have e150207 := Option.some.inj hm149751
      subst s149746
      have hS150208 := ((hS150206).f2).f2
      have hS150209 := (hS150208).f2
      have hS150210 := ((hS150209).f5).f5
      have hS150211 := (hS150210).f5
      exact ⟨s150188, (g150187 27), hs150196, (PHeap.le.trans l149753 le150191), hS150211, (Eq.trans (fr150193 3 rfl) p149755), (Eq.trans (fr150193 13 rfl) p149756), (Eq.trans (fr150193 14 rfl) p149757), (Eq.trans rfl (wrap_up hi149749 (by have h := (((hS148839).f3).f3).f1.rows_len; have h2 := (((hS148839).f3).f3).arr_le; omega)))⟩
  · intro f150212 w150213 hI150214
    obtain ⟨s150215, v149285, hs149286, l150216, hS150217, p150218, p150219, p150220, x150221⟩ := hI150214
    refine W_seq ?_
    refine W_region ?_
    refine WL_step rfl rfl (Exec.lss rfl x150221 p150220 ?_)
    refine WL_nil (at_normal ?_)
    refine W_seq ?_
    refine W_false (congrArg Value.bool (decide_eq_false (by omega))) ?_
    refine W_exit (at_exit (at_exit (ib_here (at_normal ?_))))
    refine W_seq ?_
    refine W_region ?_
    refine WL_step rfl rfl (Exec.move (v := Value.pointer (some ⟨b148837, 0, none⟩)) rfl p150218 ?_)
    refine WL_step rfl rfl (Exec.assign (v := Value.pointer (some ⟨b148837, 0, none⟩)) rfl rfl ?_)
    refine WL_nil (at_normal ?_)
    refine W_ret ?_
    have e150223 := Option.some.inj hm
    subst r
    refine ⟨_, ret1 rfl, ?_⟩
    have hS150224 := ((hS150217).f5).f5
    have hS150225 := (hS150224).f5
    have hS150226 := ((hS150225).f5).f5
    have hS150227 := (hS150226).f5
    exact ⟨s150215, b148837, v149285, hs149286, l150216, hS150227, rfl⟩

theorem ref54_Distances_sim {w0 w : World} {s : PHeap} {H : List Res} {n150260 : Int} {bounds150261 : (List Bound)} {v150262 : Value} {r : (List (List Int)) × Bool} (hm : ref54_Distances_p n150260 bounds150261 = some r) (hS : St w0 s (H) w) (a150263 : SliceRep encBound s v150262 bounds150261) :
    Calls Try.prog 25 #[Value.int .i64 (n150260), v150262] w fun e w' => ∃ v, e = .returned v ∧ ((un2 fun (y210729 : (List (List Int))) (y210730 : Bool) => ∃ (s210736 : PHeap) (v210735 : Value), PHeap.le s s210736 ∧ St w0 s210736 (H) w' ∧ v = Value.tuple #[v210735, Value.bool (y210730)] ∧ SliceRep (encSlice (encInt .i64)) s210736 v210735 y210729) r) := by
  unfold ref54_Distances_p at hm
  refine calls_of_W Try.func25 rfl rfl ?_
  refine W_seq ?_
  refine W_region ?_
  refine WL_step rfl rfl (Exec.assign (v := Value.slice none 0 0) rfl rfl ?_)
  refine WL_step rfl rfl (Exec.assign (v := Value.bool (false)) rfl rfl ?_)
  refine WL_nil (at_normal ?_)
  refine W_seq ?_
  refine W_region ?_
  refine WL_step rfl rfl (Exec.assign (v := Value.slice none 0 0) rfl rfl ?_)
  refine WL_nil (at_normal ?_)
  refine W_seq ?_
  refine W_seq ?_
  refine W_region ?_
  refine WL_step rfl rfl (Exec.move (v := Value.int .i64 (n150260)) rfl rfl ?_)
  refine WL_step rfl rfl (Exec.move (v := Value.int .i64 (0)) rfl rfl ?_)
  refine WL_nil (at_normal ?_)
  obtain ⟨u210737, q210738, hm⟩ := bind_some hm
  obtain ⟨out211005, hB211274, hm⟩ := bind_some hm
  refine W_block (W_forS (fun k' s' f' w' => (fun (out211005 : (List (List Int))) => ∃ (s211275 : PHeap) (v211006 : Value) (hs211007 : List Value), PHeap.le s s211275 ∧ St w0 s211275 (Res.arr encRaw 49 v211006 hs211007 :: Res.rows (encInt .i64) 3 hs211007 out211005 :: H) w' ∧ f' 0 = Value.int .i64 (n150260) ∧ f' 1 = v150262 ∧ f' 6 = v211006 ∧ f' 15 = Value.int .i64 (n150260) ∧ f' 16 = Value.int .i64 (k' : Int)) s') hB211274 ?_ ?_ ?_)
  · have hS211276 := (hS.rows_nil (encInt .i64) 3).nilArr encRaw 49
    exact ⟨s, (Value.slice none 0 0), [], (PHeap.le_refl _), hS211276, rfl, rfl, rfl, rfl, rfl⟩
  · intro i210739 out211005 s211278 f211279 w211280 hi211281 hI211282 hm211283
    obtain ⟨s211284, v211006, hs211007, l211285, hS211286, p211287, p211288, p211289, p211290, x211291⟩ := hI211282
    refine W_seq ?_
    refine W_region ?_
    refine WL_step rfl rfl (Exec.lss rfl x211291 p211290 ?_)
    refine WL_nil (at_normal ?_)
    refine W_seq ?_
    refine W_true (congrArg Value.bool (decide_eq_true (by omega))) ?_
    refine W_skip (at_normal ?_)
    refine W_seq ?_
    refine W_block ?_
    refine W_seq ?_
    refine W_region ?_
    refine WL_step rfl rfl (Exec.move (v := Value.int .i64 ((i210739 : Int))) rfl x211291 ?_)
    refine WL_step rfl rfl (Exec.assign (v := Value.int .i64 ((i210739 : Int))) rfl rfl ?_)
    refine WL_nil (at_normal ?_)
    refine W_seq ?_
    refine W_region ?_
    refine WL_step rfl rfl (Exec.move (v := v211006) rfl p211289 ?_)
    refine WL_step rfl rfl (Exec.move (v := Value.int .i64 (n150260)) rfl p211287 ?_)
    obtain ⟨l211310, q211311, hm211283⟩ := bind_some hm211283
    refine WL_step rfl rfl (Exec.make (E := (encInt .i64)) hS211286 S49 Z3 rfl rfl rfl rfl q211311 ?_)
    intro v211312 w211313 hS211314
    refine WL_step rfl rfl (Exec.buildSlice (Te := 49) (cs := [v211312]) hS211314 rfl (parts_cons (c := [v211312]) (cells_of rfl (cells_one (hS211314).arr_one)) parts_nil) (fun _ => by kernel_rfl) ?_)
    intro b211315 w211316 hS211317
    obtain ⟨l211318, q211319, hm211283⟩ := bind_some hm211283
    have hS211320 := (hS211317).f1
    have hS211321 := (hS211320).f1
    have hS211322 := ((hS211321).f3).f3
    have hS211323 := ((hS211322).f2).f1
    refine WL_step rfl rfl (Exec.append_grid (E := encRaw) (ys := [v211312]) hS211323 S61 Z49 rfl (by decide) rfl rfl rfl rfl (reps_one ⟨rfl, ((hS211323).f3).arr_one⟩) rfl rfl ((hS211323).f2).rows_len q211319 ?_)
    intro v211324 w211325 hS211326
    have hS211327 := ((hS211326).f1.f2.rows_push).f1
    rw [← (app_some q211319).2] at hS211327
    refine WL_step rfl rfl (Exec.assign (v := v211324) rfl rfl ?_)
    refine WL_nil (at_normal ?_)
    refine W_seq ?_
    refine W_seq ?_
    refine W_region ?_
    refine WL_step rfl rfl (Exec.move (v := Value.int .i64 (n150260)) rfl p211287 ?_)
    refine WL_step rfl rfl (Exec.move (v := Value.int .i64 (0)) rfl rfl ?_)
    refine WL_nil (at_normal ?_)
    obtain ⟨u211328, q211329, hm211283⟩ := bind_some hm211283
    obtain ⟨l211378, hB211427, hm211283⟩ := bind_some hm211283
    refine W_block (W_forS (fun k' s' f' w' => (fun (l211378 : (List (List Int))) => ∃ (s211428 : PHeap) , PHeap.le s211284 s211428 ∧ St w0 s211428 (Res.arr encRaw 49 v211324 (hs211007 ++ [v211312]) :: Res.rows (encInt .i64) 3 (hs211007 ++ [v211312]) l211378 :: H) w' ∧ f' 0 = Value.int .i64 (n150260) ∧ f' 1 = v150262 ∧ f' 6 = v211324 ∧ f' 7 = Value.int .i64 ((i210739 : Int)) ∧ f' 15 = Value.int .i64 (n150260) ∧ f' 16 = Value.int .i64 ((i210739 : Int)) ∧ f' 24 = Value.int .i64 (n150260) ∧ f' 25 = Value.int .i64 (k' : Int)) s') hB211427 ?_ ?_ ?_)
    · exact ⟨s211284, (PHeap.le_refl _), hS211327, p211287, p211288, rfl, rfl, p211290, x211291, rfl, rfl⟩
    · intro i211330 l211378 s211430 f211431 w211432 hi211433 hI211434 hm211435
      obtain ⟨s211436, l211437, hS211438, p211439, p211440, p211441, p211442, p211443, p211444, p211445, x211446⟩ := hI211434
      refine W_seq ?_
      refine W_region ?_
      refine WL_step rfl rfl (Exec.lss rfl x211446 p211445 ?_)
      refine WL_nil (at_normal ?_)
      refine W_seq ?_
      refine W_true (congrArg Value.bool (decide_eq_true (by omega))) ?_
      refine W_skip (at_normal ?_)
      refine W_seq ?_
      refine W_block ?_
      refine W_seq ?_
      refine W_region ?_
      refine WL_step rfl rfl (Exec.move (v := Value.int .i64 ((i211330 : Int))) rfl x211446 ?_)
      refine WL_step rfl rfl (Exec.assign (v := Value.int .i64 ((i211330 : Int))) rfl rfl ?_)
      refine WL_nil (at_normal ?_)
      refine W_region ?_
      refine WL_step rfl rfl (Exec.move (v := v211324) rfl p211441 ?_)
      refine WL_step rfl rfl (Exec.move (v := Value.int .i64 ((i210739 : Int))) rfl p211442 ?_)
      obtain ⟨row211470, q211471, hm211435⟩ := bind_some hm211435
      obtain ⟨h211472, e211473, e211474, _⟩ := ((hS211438).f1).rows_at q211471
      obtain ⟨g211475, c211476, e211477⟩ := (hS211438).arr_at e211473
      refine WL_step rfl rfl (Exec.index_slice S61 rfl e211477 rfl (idx_some e211473).1 (idx_some e211473).2.1 ?_)
      refine WL_step rfl rfl (Exec.load_arr (F := encRaw) (hS211438) e211477 A49 rfl rfl rfl e211473 (Sub.refl _) ?_)
      intro v211478 q211479
      replace q211479 := (encRaw_val.1 q211479).1
      subst v211478
      refine WL_step rfl rfl (Exec.move (v := Value.int .i64 ((i211330 : Int))) rfl rfl ?_)
      obtain ⟨x211480, q211481, hm211435⟩ := bind_some hm211435
      obtain ⟨g211482, c211483, e211484⟩ := (((hS211438).f1).rows_split e211474 (idx_some q211471).2.2).arr_at q211481
      refine WL_step rfl rfl (Exec.index_slice S49 rfl e211484 rfl (idx_some q211481).1 (idx_some q211481).2.1 ?_)
      obtain ⟨l211485, q211486, hm211435⟩ := bind_some hm211435
      obtain ⟨l211487, q211488, hm211435⟩ := bind_some hm211435
      refine WL_step rfl rfl (Exec.store_arr (((hS211438).f1).rows_split e211474 (idx_some q211471).2.2) e211484 A3 rfl rfl rfl rfl (encInt_val.2 rfl) q211486 ?_)
      intro w211489 hS211490
      have hS211491 := (hS211490).rows_back e211474 (setI_some q211488).2.1
      rw [← (setI_some q211488).2.2] at hS211491
      have hS211492 := (hS211491).f1
      refine WL_nil (ib_normal (at_normal ?_))
      refine W_region ?_
      refine WL_step rfl rfl (Exec.add rfl x211446 rfl ?_)
      refine WL_step rfl rfl (Exec.move (v := Value.int .i64 (IntKind.i64.wrap ((i211330 : Int) + 1))) rfl rfl ?_)
      refine WL_nil (at_normal ?_)
      have e211493 := Option.some.inj hm211435
      subst s211430
      exact ⟨s211436, l211437, hS211492, p211439, p211440, p211441, p211442, p211443, p211444, p211445, (Eq.trans rfl (wrap_up hi211433 (by have h := must_some q211329; simp at h; simp only [maxLen]; omega)))⟩
    · intro f211494 w211495 hI211496
      obtain ⟨s211497, l211498, hS211499, p211500, p211501, p211502, p211503, p211504, p211505, p211506, x211507⟩ := hI211496
      refine W_seq ?_
      refine W_region ?_
      refine WL_step rfl rfl (Exec.lss rfl x211507 p211506 ?_)
      refine WL_nil (at_normal ?_)
      refine W_seq ?_
      refine W_false (congrArg Value.bool (decide_eq_false (by omega))) ?_
      refine W_exit (at_exit (at_exit (ib_here (at_normal ?_))))
      refine W_region ?_
      refine WL_step rfl rfl (Exec.move (v := v211324) rfl p211502 ?_)
      refine WL_step rfl rfl (Exec.move (v := Value.int .i64 ((i210739 : Int))) rfl p211503 ?_)
      obtain ⟨row211531, q211532, hm211283⟩ := bind_some hm211283
      obtain ⟨h211533, e211534, e211535, _⟩ := ((hS211499).f1).rows_at q211532
      obtain ⟨g211536, c211537, e211538⟩ := (hS211499).arr_at e211534
      refine WL_step rfl rfl (Exec.index_slice S61 rfl e211538 rfl (idx_some e211534).1 (idx_some e211534).2.1 ?_)
      refine WL_step rfl rfl (Exec.load_arr (F := encRaw) (hS211499) e211538 A49 rfl rfl rfl e211534 (Sub.refl _) ?_)
      intro v211539 q211540
      replace q211540 := (encRaw_val.1 q211540).1
      subst v211539
      refine WL_step rfl rfl (Exec.move (v := Value.int .i64 ((i210739 : Int))) rfl p211503 ?_)
      obtain ⟨x211541, q211542, hm211283⟩ := bind_some hm211283
      obtain ⟨g211543, c211544, e211545⟩ := (((hS211499).f1).rows_split e211535 (idx_some q211532).2.2).arr_at q211542
      refine WL_step rfl rfl (Exec.index_slice S49 rfl e211545 rfl (idx_some q211542).1 (idx_some q211542).2.1 ?_)
      obtain ⟨l211546, q211547, hm211283⟩ := bind_some hm211283
      obtain ⟨l211548, q211549, hm211283⟩ := bind_some hm211283
      refine WL_step rfl rfl (Exec.store_arr (((hS211499).f1).rows_split e211535 (idx_some q211532).2.2) e211545 A3 rfl rfl rfl rfl (encInt_val.2 rfl) q211547 ?_)
      intro w211550 hS211551
      have hS211552 := (hS211551).rows_back e211535 (setI_some q211549).2.1
      rw [← (setI_some q211549).2.2] at hS211552
      have hS211553 := (hS211552).f1
      refine WL_nil (ib_normal (at_normal ?_))
      refine W_region ?_
      refine WL_step rfl rfl (Exec.add rfl p211505 rfl ?_)
      refine WL_step rfl rfl (Exec.move (v := Value.int .i64 (IntKind.i64.wrap ((i210739 : Int) + 1))) rfl rfl ?_)
      refine WL_nil (at_normal ?_)
      have e211554 := Option.some.inj hm211283
      subst s211278
      exact ⟨s211497, v211324, (hs211007 ++ [v211312]), (PHeap.le.trans l211285 l211498), hS211553, p211500, p211501, p211502, p211504, (Eq.trans rfl (wrap_up hi211281 (by have h := must_some q210738; simp at h; simp only [maxLen]; omega)))⟩
  · intro f211555 w211556 hI211557
    obtain ⟨s211558, v211006, hs211007, l211559, hS211560, p211561, p211562, p211563, p211564, x211565⟩ := hI211557
    refine W_seq ?_
    refine W_region ?_
    refine WL_step rfl rfl (Exec.lss rfl x211565 p211564 ?_)
    refine WL_nil (at_normal ?_)
    refine W_seq ?_
    refine W_false (congrArg Value.bool (decide_eq_false (by omega))) ?_
    refine W_exit (at_exit (at_exit (ib_here (at_normal ?_))))
    refine W_seq ?_
    refine W_seq ?_
    refine W_region ?_
    refine WL_step rfl rfl (Exec.move (v := v150262) rfl p211562 ?_)
    refine WL_step rfl rfl (Exec.len_rep S22 rfl rfl (a150263.mono l211559) ?_)
    refine WL_step rfl rfl (Exec.move (v := Value.int .i64 (0)) rfl rfl ?_)
    refine WL_nil (at_normal ?_)
    obtain ⟨l212062, hB212559, hm⟩ := bind_some hm
    refine W_block (W_forS (fun k' s' f' w' => (fun (l212062 : (List (List Int))) => ∃ (s212560 : PHeap) , PHeap.le s211558 s212560 ∧ St w0 s212560 (Res.arr encRaw 49 v211006 hs211007 :: Res.rows (encInt .i64) 3 hs211007 l212062 :: H) w' ∧ f' 0 = Value.int .i64 (n150260) ∧ f' 6 = v211006 ∧ f' 42 = v150262 ∧ f' 43 = Value.int .i64 ((bounds150261.length : Int)) ∧ f' 44 = Value.int .i64 (k' : Int)) s') hB212559 ?_ ?_ ?_)
    · exact ⟨s211558, (PHeap.le_refl _), hS211560, p211561, p211563, rfl, rfl, rfl⟩
    · intro i211566 l212062 s212562 f212563 w212564 hi212565 hI212566 hm212567
      obtain ⟨s212568, l212569, hS212570, p212571, p212572, p212573, p212574, x212575⟩ := hI212566
      refine W_seq ?_
      refine W_region ?_
      refine WL_step rfl rfl (Exec.lss rfl x212575 p212574 ?_)
      refine WL_nil (at_normal ?_)
      refine W_seq ?_
      refine W_true (congrArg Value.bool (decide_eq_true (by omega))) ?_
      refine W_skip (at_normal ?_)
      refine W_seq ?_
      refine W_block ?_
      refine W_seq ?_
      refine W_region ?_
      obtain ⟨x212588, q212589, hm212567⟩ := bind_some hm212567
      refine WL_step rfl rfl (Exec.index_rep S22 rfl p212573 x212575 (a150263.mono (PHeap.le.trans l211559 l212569)) q212589 ?_)
      intro b212590 o212591 a212592
      refine WL_step rfl rfl (Exec.load_at (E := encBound) hS212570 A32 rfl rfl rfl a212592 ?_)
      intro v212593 q212594
      obtain rfl := encBound_val.1 q212594
      refine WL_step rfl rfl (Exec.alloc (cs := [Value.int .i64 (0), Value.int .i64 (0), Value.int .i64 (0)]) hS212570 Z32 rfl rfl ?_)
      intro b212595 w212596 hS212597
      refine WL_step rfl rfl (Exec.store_box (ds := [Value.int .i64 (x212588.A), Value.int .i64 (x212588.B), Value.int .i64 (x212588.Most)]) (es := [Value.int .i64 (x212588.A), Value.int .i64 (x212588.B), Value.int .i64 (x212588.Most)]) hS212597 A32 rfl rfl rfl rfl (one_cons rfl (one_cons rfl (one_cons rfl one_nil))) (Nat.le_of_ble_eq_true rfl) rfl ?_)
      intro w212598 hS212599
      refine WL_nil (at_normal ?_)
      obtain ⟨row212851, q212852, hm212567⟩ := bind_some hm212567
      obtain ⟨h212853, e212854, e212855, _⟩ := ((((hS212599).f2).f2).f1).rows_at q212852
      obtain ⟨g212856, c212857, e212858⟩ := (((hS212599).f2).f2).arr_at e212854
      obtain ⟨g212859, c212860, e212861⟩ := (((hS212599).f2).f2).arr_at e212854
      obtain ⟨x212862, q212863, hm212567⟩ := bind_some hm212567
      obtain ⟨g212864, c212865, e212866⟩ := (((((hS212599).f2).f2).f1).rows_split e212855 (idx_some q212852).2.2).arr_at q212863
      obtain ⟨g212867, c212868, e212869⟩ := (((((hS212599).f2).f2).f1).rows_split e212855 (idx_some q212852).2.2).arr_at q212863
      obtain ⟨l212870, q212871, hm212567⟩ := bind_some hm212567
      obtain ⟨l212872, q212873, hm212567⟩ := bind_some hm212567
      have hS212874 := ((hS212599).f2).f2
      refine W_drawn (n0 := 20) hmix (by kernel_rfl) [RP.eq (v211006), RP.eq (Value.pointer (some ⟨b212595, 0, none⟩)), RP.eq (Value.int .i64 (x212588.A)), RP.eq (Value.pointer (some ⟨g212856, 0 + (x212588.A).toNat * 1, none⟩)), RP.eq (h212853), RP.eq (Value.pointer (some ⟨b212595, 1, none⟩)), RP.eq (Value.int .i64 (x212588.B)), RP.eq (v211006), RP.eq (Value.pointer (some ⟨b212595, 0, none⟩)), RP.eq (Value.int .i64 (x212588.A)), RP.eq (Value.pointer (some ⟨g212859, 0 + (x212588.A).toNat * 1, none⟩)), RP.eq (h212853), RP.eq (Value.pointer (some ⟨b212595, 1, none⟩)), RP.eq (Value.int .i64 (x212588.B)), RP.eq (Value.pointer (some ⟨g212864, 0 + (x212588.B).toNat * 1, none⟩)), RP.eq (Value.int .i64 (x212862)), RP.eq (Value.pointer (some ⟨b212595, 2, none⟩)), RP.eq (Value.int .i64 (x212588.Most)), RP.eq (Value.int .i64 (min x212862 x212588.Most)), RP.eq (Value.pointer (some ⟨g212867, 0 + (x212588.B).toNat * 1, none⟩))] hS212874 (HeadAll.cons ?_ (HeadAll.cons ?_ (HeadAll.cons ?_ (HeadAll.cons ?_ (HeadAll.cons ?_ (HeadAll.cons ?_ (HeadAll.cons ?_ (HeadAll.cons ?_ (HeadAll.cons ?_ (HeadAll.cons ?_ (HeadAll.cons ?_ (HeadAll.cons ?_ (HeadAll.cons ?_ (HeadAll.cons ?_ (HeadAll.cons ?_ (HeadAll.cons ?_ (HeadAll.cons ?_ (HeadAll.cons ?_ (HeadAll.cons ?_ (HeadAll.cons ?_ (HeadAll.nil))))))))))))))))))))) ?_
      · intro g212875 s212876 w212877 l212878 hS212879 fr212880 pre212881
        refine head_run rfl (Exec.move (v := v211006) rfl (Eq.trans (fr212880 6 rfl) p212572) ?_)
        exact head_done hS212879 rfl
      · intro g212882 s212883 w212884 l212885 hS212886 fr212887 pre212888
        refine head_run rfl (Exec.field F32_0 rfl (fr212887 10 rfl) rfl ?_)
        exact head_done hS212886 rfl
      · intro g212889 s212890 w212891 l212892 hS212893 fr212894 pre212895
        have p212896 : g212889 49 = (Value.pointer (some ⟨b212595, 0, none⟩)) := pre212895 0 _ rfl rfl
        refine head_run rfl (Exec.load_box ((hS212893).f2) A3 rfl p212896 rfl ?_)
        exact head_done hS212893 rfl
      · intro g212897 s212898 w212899 l212900 hS212901 fr212902 pre212903
        have p212904 : g212897 48 = (v211006) := pre212903 0 _ rfl rfl
        have p212905 : g212897 50 = (Value.int .i64 (x212588.A)) := pre212903 1 _ rfl rfl
        refine head_run rfl (Exec.index_slice S61 rfl (Eq.trans p212904 e212858) p212905 (idx_some e212854).1 (idx_some e212854).2.1 ?_)
        exact head_done hS212901 rfl
      · intro g212906 s212907 w212908 l212909 hS212910 fr212911 pre212912
        have p212913 : g212906 51 = (Value.pointer (some ⟨g212856, 0 + (x212588.A).toNat * 1, none⟩)) := pre212912 0 _ rfl rfl
        refine head_run rfl (Exec.load_arr (F := encRaw) (hS212910) e212858 A49 rfl p212913 rfl e212854 (Sub.refl _) ?_)
        intro v212914 q212915
        exact head_done hS212910 (encRaw_val.1 q212915).1
      · intro g212916 s212917 w212918 l212919 hS212920 fr212921 pre212922
        refine head_run rfl (Exec.field F32_1 rfl (fr212921 10 rfl) rfl ?_)
        exact head_done hS212920 rfl
      · intro g212923 s212924 w212925 l212926 hS212927 fr212928 pre212929
        have p212930 : g212923 53 = (Value.pointer (some ⟨b212595, 1, none⟩)) := pre212929 0 _ rfl rfl
        refine head_run rfl (Exec.load_box ((hS212927).f2) A3 rfl p212930 rfl ?_)
        exact head_done hS212927 rfl
      · intro g212931 s212932 w212933 l212934 hS212935 fr212936 pre212937
        refine head_run rfl (Exec.move (v := v211006) rfl (Eq.trans (fr212936 6 rfl) p212572) ?_)
        exact head_done hS212935 rfl
      · intro g212938 s212939 w212940 l212941 hS212942 fr212943 pre212944
        refine head_run rfl (Exec.field F32_0 rfl (fr212943 10 rfl) rfl ?_)
        exact head_done hS212942 rfl
      · intro g212945 s212946 w212947 l212948 hS212949 fr212950 pre212951
        have p212952 : g212945 56 = (Value.pointer (some ⟨b212595, 0, none⟩)) := pre212951 0 _ rfl rfl
        refine head_run rfl (Exec.load_box ((hS212949).f2) A3 rfl p212952 rfl ?_)
        exact head_done hS212949 rfl
      · intro g212953 s212954 w212955 l212956 hS212957 fr212958 pre212959
        have p212960 : g212953 57 = (Value.int .i64 (x212588.A)) := pre212959 1 _ rfl rfl
        have p212961 : g212953 55 = (v211006) := pre212959 0 _ rfl rfl
        refine head_run rfl (Exec.index_slice S61 rfl (Eq.trans p212961 e212861) p212960 (idx_some e212854).1 (idx_some e212854).2.1 ?_)
        exact head_done hS212957 rfl
      · intro g212962 s212963 w212964 l212965 hS212966 fr212967 pre212968
        have p212969 : g212962 58 = (Value.pointer (some ⟨g212859, 0 + (x212588.A).toNat * 1, none⟩)) := pre212968 0 _ rfl rfl
        refine head_run rfl (Exec.load_arr (F := encRaw) (hS212966) e212861 A49 rfl p212969 rfl e212854 (Sub.refl _) ?_)
        intro v212970 q212971
        exact head_done hS212966 (encRaw_val.1 q212971).1
      · intro g212972 s212973 w212974 l212975 hS212976 fr212977 pre212978
        refine head_run rfl (Exec.field F32_1 rfl (fr212977 10 rfl) rfl ?_)
        exact head_done hS212976 rfl
      · intro g212979 s212980 w212981 l212982 hS212983 fr212984 pre212985
        have p212986 : g212979 60 = (Value.pointer (some ⟨b212595, 1, none⟩)) := pre212985 0 _ rfl rfl
        refine head_run rfl (Exec.load_box ((hS212983).f2) A3 rfl p212986 rfl ?_)
        exact head_done hS212983 rfl
      · intro g212987 s212988 w212989 l212990 hS212991 fr212992 pre212993
        have p212994 : g212987 59 = (h212853) := pre212993 0 _ rfl rfl
        have p212995 : g212987 61 = (Value.int .i64 (x212588.B)) := pre212993 1 _ rfl rfl
        refine head_run rfl (Exec.index_slice S49 rfl (Eq.trans p212994 e212866) p212995 (idx_some q212863).1 (idx_some q212863).2.1 ?_)
        exact head_done hS212991 rfl
      · intro g212996 s212997 w212998 l212999 hS213000 fr213001 pre213002
        have p213003 : g212996 62 = (Value.pointer (some ⟨g212864, 0 + (x212588.B).toNat * 1, none⟩)) := pre213002 0 _ rfl rfl
        refine head_run rfl (Exec.load_arr (F := (encInt .i64)) (((hS213000).f1).rows_split e212855 (idx_some q212852).2.2) e212866 A3 rfl p213003 rfl q212863 (Sub.refl _) ?_)
        intro v213004 q213005
        exact head_done hS213000 (encInt_val.1 q213005)
      · intro g213006 s213007 w213008 l213009 hS213010 fr213011 pre213012
        refine head_run rfl (Exec.field F32_2 rfl (fr213011 10 rfl) rfl ?_)
        exact head_done hS213010 rfl
      · intro g213013 s213014 w213015 l213016 hS213017 fr213018 pre213019
        have p213020 : g213013 64 = (Value.pointer (some ⟨b212595, 2, none⟩)) := pre213019 0 _ rfl rfl
        refine head_run rfl (Exec.load_box ((hS213017).f2) A3 rfl p213020 rfl ?_)
        exact head_done hS213017 rfl
      · intro g213021 s213022 w213023 l213024 hS213025 fr213026 pre213027
        have p213028 : g213021 65 = (Value.int .i64 (x212588.Most)) := pre213027 1 _ rfl rfl
        have p213029 : g213021 63 = (Value.int .i64 (x212862)) := pre213027 0 _ rfl rfl
        refine head_run rfl (Exec.min2 rfl p213029 p213028 ?_)
        exact head_done hS213025 rfl
      · intro g213030 s213031 w213032 l213033 hS213034 fr213035 pre213036
        have p213037 : g213030 52 = (h212853) := pre213036 0 _ rfl rfl
        have p213038 : g213030 54 = (Value.int .i64 (x212588.B)) := pre213036 1 _ rfl rfl
        refine head_run rfl (Exec.index_slice S49 rfl (Eq.trans p213037 e212869) p213038 (idx_some q212863).1 (idx_some q212863).2.1 ?_)
        exact head_done hS213034 rfl
      · intro g213039 s213040 w213041 l213042 hS213043 fr213044 hR213045
        have p213046 : g213039 48 = (v211006) := hR213045 0 rfl
        have p213047 : g213039 49 = (Value.pointer (some ⟨b212595, 0, none⟩)) := hR213045 1 rfl
        have p213048 : g213039 50 = (Value.int .i64 (x212588.A)) := hR213045 2 rfl
        have p213049 : g213039 51 = (Value.pointer (some ⟨g212856, 0 + (x212588.A).toNat * 1, none⟩)) := hR213045 3 rfl
        have p213050 : g213039 52 = (h212853) := hR213045 4 rfl
        have p213051 : g213039 53 = (Value.pointer (some ⟨b212595, 1, none⟩)) := hR213045 5 rfl
        have p213052 : g213039 54 = (Value.int .i64 (x212588.B)) := hR213045 6 rfl
        have p213053 : g213039 55 = (v211006) := hR213045 7 rfl
        have p213054 : g213039 56 = (Value.pointer (some ⟨b212595, 0, none⟩)) := hR213045 8 rfl
        have p213055 : g213039 57 = (Value.int .i64 (x212588.A)) := hR213045 9 rfl
        have p213056 : g213039 58 = (Value.pointer (some ⟨g212859, 0 + (x212588.A).toNat * 1, none⟩)) := hR213045 10 rfl
        have p213057 : g213039 59 = (h212853) := hR213045 11 rfl
        have p213058 : g213039 60 = (Value.pointer (some ⟨b212595, 1, none⟩)) := hR213045 12 rfl
        have p213059 : g213039 61 = (Value.int .i64 (x212588.B)) := hR213045 13 rfl
        have p213060 : g213039 62 = (Value.pointer (some ⟨g212864, 0 + (x212588.B).toNat * 1, none⟩)) := hR213045 14 rfl
        have p213061 : g213039 63 = (Value.int .i64 (x212862)) := hR213045 15 rfl
        have p213062 : g213039 64 = (Value.pointer (some ⟨b212595, 2, none⟩)) := hR213045 16 rfl
        have p213063 : g213039 65 = (Value.int .i64 (x212588.Most)) := hR213045 17 rfl
        have p213064 : g213039 66 = (Value.int .i64 (min x212862 x212588.Most)) := hR213045 18 rfl
        have p213065 : g213039 67 = (Value.pointer (some ⟨g212867, 0 + (x212588.B).toNat * 1, none⟩)) := hR213045 19 rfl
        refine WL_step rfl rfl (Exec.store_arr (((hS213043).f1).rows_split e212855 (idx_some q212852).2.2) e212869 A3 rfl p213065 rfl p213064 (encInt_val.2 rfl) q212871 ?_)
        intro w213066 hS213067
        have hS213068 := (hS213067).rows_back e212855 (setI_some q212873).2.1
        rw [← (setI_some q212873).2.2] at hS213068
        have hS213069 := (hS213068).f1
        refine WL_nil (ib_normal (at_normal ?_))
        refine W_region ?_
        refine WL_step rfl rfl (Exec.add rfl (Eq.trans (fr213044 44 rfl) x212575) rfl ?_)
        refine WL_step rfl rfl (Exec.move (v := Value.int .i64 (IntKind.i64.wrap ((i211566 : Int) + 1))) rfl rfl ?_)
        refine WL_nil (at_normal ?_)
        have e213070 := Option.some.inj hm212567
        subst s212562
        have hS213071 := ((hS213069).f2).drop
        exact ⟨s213040, (PHeap.le.trans l212569 l213042), hS213071, (Eq.trans (fr213044 0 rfl) p212571), (Eq.trans (fr213044 6 rfl) p212572), (Eq.trans (fr213044 42 rfl) p212573), (Eq.trans (fr213044 43 rfl) p212574), (Eq.trans rfl (wrap_up hi212565 (SliceRep.le (a150263.mono l211559))))⟩
    · intro f213072 w213073 hI213074
      obtain ⟨s213075, l213076, hS213077, p213078, p213079, p213080, p213081, x213082⟩ := hI213074
      refine W_seq ?_
      refine W_region ?_
      refine WL_step rfl rfl (Exec.lss rfl x213082 p213081 ?_)
      refine WL_nil (at_normal ?_)
      refine W_seq ?_
      refine W_false (congrArg Value.bool (decide_eq_false (by omega))) ?_
      refine W_exit (at_exit (at_exit (ib_here (at_normal ?_))))
      refine W_seq ?_
      refine W_seq ?_
      refine W_region ?_
      refine WL_step rfl rfl (Exec.move (v := Value.int .i64 (n150260)) rfl p213078 ?_)
      refine WL_step rfl rfl (Exec.move (v := Value.int .i64 (0)) rfl rfl ?_)
      refine WL_nil (at_normal ?_)
      obtain ⟨u213083, q213084, hm⟩ := bind_some hm
      obtain ⟨c256641, hB256642, hr256643, hn256644, hb256645⟩ := ctl_some hm
      refine W_mid (M := fun f' w' => ∃ s', (c256641 = .next s' ∨ c256641 = .brk s') ∧ (fun (l256640 : (List (List Int))) => ∃ (s256647 : PHeap) , PHeap.le s213075 s256647 ∧ St w0 s256647 (Res.arr encRaw 49 v211006 hs211007 :: Res.rows (encInt .i64) 3 hs211007 l256640 :: H) w' ∧ f' 0 = Value.int .i64 (n150260) ∧ f' 6 = v211006 ∧ f' 69 = Value.int .i64 (n150260)) s') ?_ ?_
      · refine W_block (W_forC (fun k' s' f' w' => (fun (l227603 : (List (List Int))) => ∃ (s256646 : PHeap) , PHeap.le s213075 s256646 ∧ St w0 s256646 (Res.arr encRaw 49 v211006 hs211007 :: Res.rows (encInt .i64) 3 hs211007 l227603 :: H) w' ∧ f' 0 = Value.int .i64 (n150260) ∧ f' 6 = v211006 ∧ f' 69 = Value.int .i64 (n150260) ∧ f' 70 = Value.int .i64 (k' : Int)) s') hB256642 ?_ ?_ ?_)
        · exact ⟨s213075, (PHeap.le_refl _), hS213077, p213078, p213079, rfl, rfl⟩
        · intro i213085 l227603 c256649 f256650 w256651 hi256655 hI256652 hm256653 hres256654
          obtain ⟨s256656, l256657, hS256658, p256659, p256660, p256661, x256662⟩ := hI256652
          refine W_seq ?_
          refine W_region ?_
          refine WL_step rfl rfl (Exec.lss rfl x256662 p256661 ?_)
          refine WL_nil (at_normal ?_)
          refine W_seq ?_
          refine W_true (congrArg Value.bool (decide_eq_true (by omega))) ?_
          refine W_skip (at_normal ?_)
          refine W_seq ?_
          refine W_block ?_
          refine W_seq ?_
          refine W_region ?_
          refine WL_step rfl rfl (Exec.move (v := Value.int .i64 ((i213085 : Int))) rfl x256662 ?_)
          refine WL_step rfl rfl (Exec.assign (v := Value.int .i64 ((i213085 : Int))) rfl rfl ?_)
          refine WL_nil (at_normal ?_)
          refine W_seq ?_
          refine W_seq ?_
          refine W_region ?_
          refine WL_step rfl rfl (Exec.move (v := Value.int .i64 (n150260)) rfl p256659 ?_)
          refine WL_step rfl rfl (Exec.move (v := Value.int .i64 (0)) rfl rfl ?_)
          refine WL_nil (at_normal ?_)
          obtain ⟨u256663, q256664, hm256653⟩ := bind_some hm256653
          obtain ⟨l261438, hB266212, hm256653⟩ := bind_some hm256653
          refine W_block (W_forS (fun k' s' f' w' => (fun (l261438 : (List (List Int))) => ∃ (s266213 : PHeap) , PHeap.le s256656 s266213 ∧ St w0 s266213 (Res.arr encRaw 49 v211006 hs211007 :: Res.rows (encInt .i64) 3 hs211007 l261438 :: H) w' ∧ f' 0 = Value.int .i64 (n150260) ∧ f' 6 = v211006 ∧ f' 11 = Value.int .i64 ((i213085 : Int)) ∧ f' 69 = Value.int .i64 (n150260) ∧ f' 70 = Value.int .i64 ((i213085 : Int)) ∧ f' 73 = Value.int .i64 (n150260) ∧ f' 74 = Value.int .i64 (k' : Int)) s') hB266212 ?_ ?_ ?_)
          · exact ⟨s256656, (PHeap.le_refl _), hS256658, p256659, p256660, rfl, p256661, x256662, rfl, rfl⟩
          · intro i256665 l261438 s266215 f266216 w266217 hi266218 hI266219 hm266220
            obtain ⟨s266221, l266222, hS266223, p266224, p266225, p266226, p266227, p266228, p266229, x266230⟩ := hI266219
            refine W_seq ?_
            refine W_region ?_
            refine WL_step rfl rfl (Exec.lss rfl x266230 p266229 ?_)
            refine WL_nil (at_normal ?_)
            refine W_seq ?_
            refine W_true (congrArg Value.bool (decide_eq_true (by omega))) ?_
            refine W_skip (at_normal ?_)
            refine W_seq ?_
            refine W_block ?_
            refine W_seq ?_
            refine W_region ?_
            refine WL_step rfl rfl (Exec.move (v := Value.int .i64 ((i256665 : Int))) rfl x266230 ?_)
            refine WL_step rfl rfl (Exec.assign (v := Value.int .i64 ((i256665 : Int))) rfl rfl ?_)
            refine WL_nil (at_normal ?_)
            refine W_seq ?_
            refine W_region ?_
            refine WL_step rfl rfl (Exec.move (v := Value.int .i64 (n150260)) rfl p266224 ?_)
            refine WL_step rfl rfl (Exec.move (v := Value.int .i64 (0)) rfl rfl ?_)
            refine WL_nil (at_normal ?_)
            obtain ⟨u266231, q266232, hm266220⟩ := bind_some hm266220
            obtain ⟨l267810, hB269388, hm266220⟩ := bind_some hm266220
            refine W_block (W_forS (fun k' s' f' w' => (fun (l267810 : (List (List Int))) => ∃ (s269389 : PHeap) , PHeap.le s266221 s269389 ∧ St w0 s269389 (Res.arr encRaw 49 v211006 hs211007 :: Res.rows (encInt .i64) 3 hs211007 l267810 :: H) w' ∧ f' 0 = Value.int .i64 (n150260) ∧ f' 6 = v211006 ∧ f' 11 = Value.int .i64 ((i213085 : Int)) ∧ f' 12 = Value.int .i64 ((i256665 : Int)) ∧ f' 69 = Value.int .i64 (n150260) ∧ f' 70 = Value.int .i64 ((i213085 : Int)) ∧ f' 73 = Value.int .i64 (n150260) ∧ f' 74 = Value.int .i64 ((i256665 : Int)) ∧ f' 77 = Value.int .i64 (n150260) ∧ f' 78 = Value.int .i64 (k' : Int)) s') hB269388 ?_ ?_ ?_)
            · exact ⟨s266221, (PHeap.le_refl _), hS266223, p266224, p266225, p266226, rfl, p266227, p266228, p266229, x266230, rfl, rfl⟩
            · intro i266233 l267810 s269391 f269392 w269393 hi269394 hI269395 hm269396
              obtain ⟨s269397, l269398, hS269399, p269400, p269401, p269402, p269403, p269404, p269405, p269406, p269407, p269408, x269409⟩ := hI269395
              refine W_seq ?_
              refine W_region ?_
              refine WL_step rfl rfl (Exec.lss rfl x269409 p269408 ?_)
              refine WL_nil (at_normal ?_)
              refine W_seq ?_
              refine W_true (congrArg Value.bool (decide_eq_true (by omega))) ?_
              refine W_skip (at_normal ?_)
              refine W_seq ?_
              refine W_block ?_
              refine W_seq ?_
              refine W_region ?_
              refine WL_step rfl rfl (Exec.move (v := Value.int .i64 ((i266233 : Int))) rfl x269409 ?_)
              refine WL_step rfl rfl (Exec.assign (v := Value.int .i64 ((i266233 : Int))) rfl rfl ?_)
              refine WL_nil (at_normal ?_)
              refine W_seq ?_
              obtain ⟨z269445, ht269446, hm269396⟩ := bind_some hm269396
              refine W_mid (M := fun f' w' => (fun (z269445 : Bool) => ∃ (s269447 : PHeap) , PHeap.le s269397 s269447 ∧ St w0 s269447 (Res.arr encRaw 49 v211006 hs211007 :: Res.rows (encInt .i64) 3 hs211007 l267810 :: H) w' ∧ f' 0 = Value.int .i64 (n150260) ∧ f' 6 = v211006 ∧ f' 11 = Value.int .i64 ((i213085 : Int)) ∧ f' 12 = Value.int .i64 ((i256665 : Int)) ∧ f' 13 = Value.int .i64 ((i266233 : Int)) ∧ f' 69 = Value.int .i64 (n150260) ∧ f' 70 = Value.int .i64 ((i213085 : Int)) ∧ f' 73 = Value.int .i64 (n150260) ∧ f' 74 = Value.int .i64 ((i256665 : Int)) ∧ f' 77 = Value.int .i64 (n150260) ∧ f' 78 = Value.int .i64 ((i266233 : Int)) ∧ f' 98 = Value.bool (z269445)) z269445) ?_ ?_
              · refine W_region ?_
                refine WL_step rfl rfl (Exec.move (v := v211006) rfl p269401 ?_)
                refine WL_step rfl rfl (Exec.move (v := Value.int .i64 ((i256665 : Int))) rfl p269403 ?_)
                obtain ⟨row269448, q269449, ht269446⟩ := bind_some ht269446
                obtain ⟨h269450, e269451, e269452, _⟩ := ((hS269399).f1).rows_at q269449
                obtain ⟨g269453, c269454, e269455⟩ := (hS269399).arr_at e269451
                refine WL_step rfl rfl (Exec.index_slice S61 rfl e269455 rfl (idx_some e269451).1 (idx_some e269451).2.1 ?_)
                refine WL_step rfl rfl (Exec.load_arr (F := encRaw) (hS269399) e269455 A49 rfl rfl rfl e269451 (Sub.refl _) ?_)
                intro v269456 q269457
                replace q269457 := (encRaw_val.1 q269457).1
                subst v269456
                refine WL_step rfl rfl (Exec.move (v := Value.int .i64 ((i213085 : Int))) rfl p269402 ?_)
                obtain ⟨x269458, q269459, ht269446⟩ := bind_some ht269446
                obtain ⟨g269460, c269461, e269462⟩ := (((hS269399).f1).rows_split e269452 (idx_some q269449).2.2).arr_at q269459
                refine WL_step rfl rfl (Exec.index_slice S49 rfl e269462 rfl (idx_some q269459).1 (idx_some q269459).2.1 ?_)
                refine WL_step rfl rfl (Exec.load_arr (F := (encInt .i64)) (((hS269399).f1).rows_split e269452 (idx_some q269449).2.2) e269462 A3 rfl rfl rfl q269459 (Sub.refl _) ?_)
                intro v269463 q269464
                obtain rfl := encInt_val.1 q269464
                refine WL_step rfl rfl (Exec.lss rfl rfl rfl ?_)
                refine WL_step rfl rfl (Exec.move (v := Value.bool (decide (x269458 < 1125899906842624))) rfl rfl ?_)
                rcases ite_some ht269446 with ⟨hc269465, ht269446⟩ | ⟨hc269465, ht269446⟩
                · refine WL_run rfl (yield_of rfl (congrArg Value.bool hc269465)) rfl (Exec.move (v := v211006) rfl p269401 ?_)
                  refine WL_run rfl (yield_of rfl (congrArg Value.bool hc269465)) rfl (Exec.move (v := Value.int .i64 ((i213085 : Int))) rfl p269402 ?_)
                  obtain ⟨row269466, q269467, ht269446⟩ := bind_some ht269446
                  obtain ⟨h269468, e269469, e269470, _⟩ := ((hS269399).f1).rows_at q269467
                  obtain ⟨g269471, c269472, e269473⟩ := (hS269399).arr_at e269469
                  refine WL_run rfl (yield_of rfl (congrArg Value.bool hc269465)) rfl (Exec.index_slice S61 rfl e269473 rfl (idx_some e269469).1 (idx_some e269469).2.1 ?_)
                  refine WL_run rfl (yield_of rfl (congrArg Value.bool hc269465)) rfl (Exec.load_arr (F := encRaw) (hS269399) e269473 A49 rfl rfl rfl e269469 (Sub.refl _) ?_)
                  intro v269474 q269475
                  replace q269475 := (encRaw_val.1 q269475).1
                  subst v269474
                  refine WL_run rfl (yield_of rfl (congrArg Value.bool hc269465)) rfl (Exec.move (v := Value.int .i64 ((i266233 : Int))) rfl rfl ?_)
                  obtain ⟨x269476, q269477, ht269446⟩ := bind_some ht269446
                  obtain ⟨g269478, c269479, e269480⟩ := (((hS269399).f1).rows_split e269470 (idx_some q269467).2.2).arr_at q269477
                  refine WL_run rfl (yield_of rfl (congrArg Value.bool hc269465)) rfl (Exec.index_slice S49 rfl e269480 rfl (idx_some q269477).1 (idx_some q269477).2.1 ?_)
                  refine WL_run rfl (yield_of rfl (congrArg Value.bool hc269465)) rfl (Exec.load_arr (F := (encInt .i64)) (((hS269399).f1).rows_split e269470 (idx_some q269467).2.2) e269480 A3 rfl rfl rfl q269477 (Sub.refl _) ?_)
                  intro v269481 q269482
                  obtain rfl := encInt_val.1 q269482
                  refine WL_run rfl (yield_of rfl (congrArg Value.bool hc269465)) rfl (Exec.lss rfl rfl rfl ?_)
                  refine WL_step rfl rfl (Exec.pick_t (v := Value.bool (decide (x269476 < 1125899906842624))) rfl (congrArg Value.bool hc269465) rfl ?_)
                  refine WL_nil (at_normal ?_)
                  have e269483 := Option.some.inj ht269446
                  subst z269445
                  exact ⟨s269397, (PHeap.le_refl _), hS269399, p269400, p269401, p269402, p269403, rfl, p269404, p269405, p269406, p269407, p269408, x269409, rfl⟩
                · replace hc269465 := not_true hc269465
                  refine WL_pass rfl (yield_of rfl (congrArg Value.bool hc269465)) rfl rfl ?_
                  refine WL_pass rfl (yield_of rfl (congrArg Value.bool hc269465)) rfl rfl ?_
                  refine WL_pass rfl (yield_of rfl (congrArg Value.bool hc269465)) rfl rfl ?_
                  refine WL_pass rfl (yield_of rfl (congrArg Value.bool hc269465)) rfl rfl ?_
                  refine WL_pass rfl (yield_of rfl (congrArg Value.bool hc269465)) rfl rfl ?_
                  refine WL_pass rfl (yield_of rfl (congrArg Value.bool hc269465)) rfl rfl ?_
                  refine WL_pass rfl (yield_of rfl (congrArg Value.bool hc269465)) rfl rfl ?_
                  refine WL_pass rfl (yield_of rfl (congrArg Value.bool hc269465)) rfl rfl ?_
                  refine WL_step rfl rfl (Exec.pick_f (v := Value.bool (false)) rfl (congrArg Value.bool hc269465) rfl ?_)
                  refine WL_nil (at_normal ?_)
                  have e269484 := Option.some.inj ht269446
                  subst z269445
                  exact ⟨s269397, (PHeap.le_refl _), hS269399, p269400, p269401, p269402, p269403, rfl, p269404, p269405, p269406, p269407, p269408, x269409, rfl⟩
              · intro f269485 w269486 hM269487
                obtain ⟨s269488, l269489, hS269490, p269491, p269492, p269493, p269494, p269495, p269496, p269497, p269498, p269499, p269500, p269501, p269502⟩ := hM269487
                refine (at_normal ?_)
                obtain ⟨l270233, ht270234, hm269396⟩ := bind_some hm269396
                refine W_mid (M := fun f' w' => (fun (l270233 : (List (List Int))) => ∃ (s270235 : PHeap) , PHeap.le s269488 s270235 ∧ St w0 s270235 (Res.arr encRaw 49 v211006 hs211007 :: Res.rows (encInt .i64) 3 hs211007 l270233 :: H) w' ∧ f' 0 = Value.int .i64 (n150260) ∧ f' 6 = v211006 ∧ f' 11 = Value.int .i64 ((i213085 : Int)) ∧ f' 12 = Value.int .i64 ((i256665 : Int)) ∧ f' 69 = Value.int .i64 (n150260) ∧ f' 70 = Value.int .i64 ((i213085 : Int)) ∧ f' 73 = Value.int .i64 (n150260) ∧ f' 74 = Value.int .i64 ((i256665 : Int)) ∧ f' 77 = Value.int .i64 (n150260) ∧ f' 78 = Value.int .i64 ((i266233 : Int))) l270233) ?_ ?_
                · rcases ite_some ht270234 with ⟨hc270236, ht270234⟩ | ⟨hc270236, ht270234⟩
                  · refine W_cond_t p269502 hc270236 ?_
                    obtain ⟨row270639, q270640, ht270234⟩ := bind_some ht270234
                    obtain ⟨h270641, e270642, e270643, _⟩ := ((hS269490).f1).rows_at q270640
                    obtain ⟨g270644, c270645, e270646⟩ := (hS269490).arr_at e270642
                    obtain ⟨g270647, c270648, e270649⟩ := (hS269490).arr_at e270642
                    obtain ⟨x270650, q270651, ht270234⟩ := bind_some ht270234
                    obtain ⟨g270652, c270653, e270654⟩ := (((hS269490).f1).rows_split e270643 (idx_some q270640).2.2).arr_at q270651
                    obtain ⟨g270655, c270656, e270657⟩ := (hS269490).arr_at e270642
                    obtain ⟨x270658, q270659, ht270234⟩ := bind_some ht270234
                    obtain ⟨g270660, c270661, e270662⟩ := (((hS269490).f1).rows_split e270643 (idx_some q270640).2.2).arr_at q270659
                    obtain ⟨row270663, q270664, ht270234⟩ := bind_some ht270234
                    obtain ⟨h270665, e270666, e270667, _⟩ := ((hS269490).f1).rows_at q270664
                    obtain ⟨g270668, c270669, e270670⟩ := (hS269490).arr_at e270666
                    obtain ⟨x270671, q270672, ht270234⟩ := bind_some ht270234
                    obtain ⟨g270673, c270674, e270675⟩ := (((hS269490).f1).rows_split e270667 (idx_some q270664).2.2).arr_at q270672
                    obtain ⟨g270676, c270677, e270678⟩ := (((hS269490).f1).rows_split e270643 (idx_some q270640).2.2).arr_at q270651
                    obtain ⟨l270679, q270680, ht270234⟩ := bind_some ht270234
                    obtain ⟨l270681, q270682, ht270234⟩ := bind_some ht270234
                    refine W_drawn (n0 := 29) hmix (by kernel_rfl) [RP.eq (v211006), RP.eq (Value.int .i64 ((i256665 : Int))), RP.eq (Value.pointer (some ⟨g270644, 0 + ((i256665 : Int)).toNat * 1, none⟩)), RP.eq (h270641), RP.eq (Value.int .i64 ((i266233 : Int))), RP.eq (v211006), RP.eq (Value.int .i64 ((i256665 : Int))), RP.eq (Value.pointer (some ⟨g270647, 0 + ((i256665 : Int)).toNat * 1, none⟩)), RP.eq (h270641), RP.eq (Value.int .i64 ((i266233 : Int))), RP.eq (Value.pointer (some ⟨g270652, 0 + ((i266233 : Int)).toNat * 1, none⟩)), RP.eq (Value.int .i64 (x270650)), RP.eq (v211006), RP.eq (Value.int .i64 ((i256665 : Int))), RP.eq (Value.pointer (some ⟨g270655, 0 + ((i256665 : Int)).toNat * 1, none⟩)), RP.eq (h270641), RP.eq (Value.int .i64 ((i213085 : Int))), RP.eq (Value.pointer (some ⟨g270660, 0 + ((i213085 : Int)).toNat * 1, none⟩)), RP.eq (Value.int .i64 (x270658)), RP.eq (v211006), RP.eq (Value.int .i64 ((i213085 : Int))), RP.eq (Value.pointer (some ⟨g270668, 0 + ((i213085 : Int)).toNat * 1, none⟩)), RP.eq (h270665), RP.eq (Value.int .i64 ((i266233 : Int))), RP.eq (Value.pointer (some ⟨g270673, 0 + ((i266233 : Int)).toNat * 1, none⟩)), RP.eq (Value.int .i64 (x270671)), RP.eq (Value.int .i64 (IntKind.i64.wrap (x270658 + x270671))), RP.eq (Value.int .i64 (min x270650 (IntKind.i64.wrap (x270658 + x270671)))), RP.eq (Value.pointer (some ⟨g270676, 0 + ((i266233 : Int)).toNat * 1, none⟩))] hS269490 (HeadAll.cons ?_ (HeadAll.cons ?_ (HeadAll.cons ?_ (HeadAll.cons ?_ (HeadAll.cons ?_ (HeadAll.cons ?_ (HeadAll.cons ?_ (HeadAll.cons ?_ (HeadAll.cons ?_ (HeadAll.cons ?_ (HeadAll.cons ?_ (HeadAll.cons ?_ (HeadAll.cons ?_ (HeadAll.cons ?_ (HeadAll.cons ?_ (HeadAll.cons ?_ (HeadAll.cons ?_ (HeadAll.cons ?_ (HeadAll.cons ?_ (HeadAll.cons ?_ (HeadAll.cons ?_ (HeadAll.cons ?_ (HeadAll.cons ?_ (HeadAll.cons ?_ (HeadAll.cons ?_ (HeadAll.cons ?_ (HeadAll.cons ?_ (HeadAll.cons ?_ (HeadAll.cons ?_ (HeadAll.nil)))))))))))))))))))))))))))))) ?_
                    · intro g270683 s270684 w270685 l270686 hS270687 fr270688 pre270689
                      refine head_run rfl (Exec.move (v := v211006) rfl (Eq.trans (fr270688 6 rfl) p269492) ?_)
                      exact head_done hS270687 rfl
                    · intro g270690 s270691 w270692 l270693 hS270694 fr270695 pre270696
                      refine head_run rfl (Exec.move (v := Value.int .i64 ((i256665 : Int))) rfl (Eq.trans (fr270695 12 rfl) p269494) ?_)
                      exact head_done hS270694 rfl
                    · intro g270697 s270698 w270699 l270700 hS270701 fr270702 pre270703
                      have p270704 : g270697 99 = (v211006) := pre270703 0 _ rfl rfl
                      have p270705 : g270697 100 = (Value.int .i64 ((i256665 : Int))) := pre270703 1 _ rfl rfl
                      refine head_run rfl (Exec.index_slice S61 rfl (Eq.trans p270704 e270646) p270705 (idx_some e270642).1 (idx_some e270642).2.1 ?_)
                      exact head_done hS270701 rfl
                    · intro g270706 s270707 w270708 l270709 hS270710 fr270711 pre270712
                      have p270713 : g270706 101 = (Value.pointer (some ⟨g270644, 0 + ((i256665 : Int)).toNat * 1, none⟩)) := pre270712 0 _ rfl rfl
                      refine head_run rfl (Exec.load_arr (F := encRaw) (hS270710) e270646 A49 rfl p270713 rfl e270642 (Sub.refl _) ?_)
                      intro v270714 q270715
                      exact head_done hS270710 (encRaw_val.1 q270715).1
                    · intro g270716 s270717 w270718 l270719 hS270720 fr270721 pre270722
                      refine head_run rfl (Exec.move (v := Value.int .i64 ((i266233 : Int))) rfl (Eq.trans (fr270721 13 rfl) p269495) ?_)
                      exact head_done hS270720 rfl
                    · intro g270723 s270724 w270725 l270726 hS270727 fr270728 pre270729
                      refine head_run rfl (Exec.move (v := v211006) rfl (Eq.trans (fr270728 6 rfl) p269492) ?_)
                      exact head_done hS270727 rfl
                    · intro g270730 s270731 w270732 l270733 hS270734 fr270735 pre270736
                      refine head_run rfl (Exec.move (v := Value.int .i64 ((i256665 : Int))) rfl (Eq.trans (fr270735 12 rfl) p269494) ?_)
                      exact head_done hS270734 rfl
                    · intro g270737 s270738 w270739 l270740 hS270741 fr270742 pre270743
                      have p270744 : g270737 104 = (v211006) := pre270743 0 _ rfl rfl
                      have p270745 : g270737 105 = (Value.int .i64 ((i256665 : Int))) := pre270743 1 _ rfl rfl
                      refine head_run rfl (Exec.index_slice S61 rfl (Eq.trans p270744 e270649) p270745 (idx_some e270642).1 (idx_some e270642).2.1 ?_)
                      exact head_done hS270741 rfl
                    · intro g270746 s270747 w270748 l270749 hS270750 fr270751 pre270752
                      have p270753 : g270746 106 = (Value.pointer (some ⟨g270647, 0 + ((i256665 : Int)).toNat * 1, none⟩)) := pre270752 0 _ rfl rfl
                      refine head_run rfl (Exec.load_arr (F := encRaw) (hS270750) e270649 A49 rfl p270753 rfl e270642 (Sub.refl _) ?_)
                      intro v270754 q270755
                      exact head_done hS270750 (encRaw_val.1 q270755).1
                    · intro g270756 s270757 w270758 l270759 hS270760 fr270761 pre270762
                      refine head_run rfl (Exec.move (v := Value.int .i64 ((i266233 : Int))) rfl (Eq.trans (fr270761 13 rfl) p269495) ?_)
                      exact head_done hS270760 rfl
                    · intro g270763 s270764 w270765 l270766 hS270767 fr270768 pre270769
                      have p270770 : g270763 107 = (h270641) := pre270769 0 _ rfl rfl
                      have p270771 : g270763 108 = (Value.int .i64 ((i266233 : Int))) := pre270769 1 _ rfl rfl
                      refine head_run rfl (Exec.index_slice S49 rfl (Eq.trans p270770 e270654) p270771 (idx_some q270651).1 (idx_some q270651).2.1 ?_)
                      exact head_done hS270767 rfl
                    · intro g270772 s270773 w270774 l270775 hS270776 fr270777 pre270778
                      have p270779 : g270772 109 = (Value.pointer (some ⟨g270652, 0 + ((i266233 : Int)).toNat * 1, none⟩)) := pre270778 0 _ rfl rfl
                      refine head_run rfl (Exec.load_arr (F := (encInt .i64)) (((hS270776).f1).rows_split e270643 (idx_some q270640).2.2) e270654 A3 rfl p270779 rfl q270651 (Sub.refl _) ?_)
                      intro v270780 q270781
                      exact head_done hS270776 (encInt_val.1 q270781)
                    · intro g270782 s270783 w270784 l270785 hS270786 fr270787 pre270788
                      refine head_run rfl (Exec.move (v := v211006) rfl (Eq.trans (fr270787 6 rfl) p269492) ?_)
                      exact head_done hS270786 rfl
                    · intro g270789 s270790 w270791 l270792 hS270793 fr270794 pre270795
                      refine head_run rfl (Exec.move (v := Value.int .i64 ((i256665 : Int))) rfl (Eq.trans (fr270794 12 rfl) p269494) ?_)
                      exact head_done hS270793 rfl
                    · intro g270796 s270797 w270798 l270799 hS270800 fr270801 pre270802
                      have p270803 : g270796 112 = (Value.int .i64 ((i256665 : Int))) := pre270802 1 _ rfl rfl
                      have p270804 : g270796 111 = (v211006) := pre270802 0 _ rfl rfl
                      refine head_run rfl (Exec.index_slice S61 rfl (Eq.trans p270804 e270657) p270803 (idx_some e270642).1 (idx_some e270642).2.1 ?_)
                      exact head_done hS270800 rfl
                    · intro g270805 s270806 w270807 l270808 hS270809 fr270810 pre270811
                      have p270812 : g270805 113 = (Value.pointer (some ⟨g270655, 0 + ((i256665 : Int)).toNat * 1, none⟩)) := pre270811 0 _ rfl rfl
                      refine head_run rfl (Exec.load_arr (F := encRaw) (hS270809) e270657 A49 rfl p270812 rfl e270642 (Sub.refl _) ?_)
                      intro v270813 q270814
                      exact head_done hS270809 (encRaw_val.1 q270814).1
                    · intro g270815 s270816 w270817 l270818 hS270819 fr270820 pre270821
                      refine head_run rfl (Exec.move (v := Value.int .i64 ((i213085 : Int))) rfl (Eq.trans (fr270820 11 rfl) p269493) ?_)
                      exact head_done hS270819 rfl
                    · intro g270822 s270823 w270824 l270825 hS270826 fr270827 pre270828
                      have p270829 : g270822 114 = (h270641) := pre270828 0 _ rfl rfl
                      have p270830 : g270822 115 = (Value.int .i64 ((i213085 : Int))) := pre270828 1 _ rfl rfl
                      refine head_run rfl (Exec.index_slice S49 rfl (Eq.trans p270829 e270662) p270830 (idx_some q270659).1 (idx_some q270659).2.1 ?_)
                      exact head_done hS270826 rfl
                    · intro g270831 s270832 w270833 l270834 hS270835 fr270836 pre270837
                      have p270838 : g270831 116 = (Value.pointer (some ⟨g270660, 0 + ((i213085 : Int)).toNat * 1, none⟩)) := pre270837 0 _ rfl rfl
                      refine head_run rfl (Exec.load_arr (F := (encInt .i64)) (((hS270835).f1).rows_split e270643 (idx_some q270640).2.2) e270662 A3 rfl p270838 rfl q270659 (Sub.refl _) ?_)
                      intro v270839 q270840
                      exact head_done hS270835 (encInt_val.1 q270840)
                    · intro g270841 s270842 w270843 l270844 hS270845 fr270846 pre270847
                      refine head_run rfl (Exec.move (v := v211006) rfl (Eq.trans (fr270846 6 rfl) p269492) ?_)
                      exact head_done hS270845 rfl
                    · intro g270848 s270849 w270850 l270851 hS270852 fr270853 pre270854
                      refine head_run rfl (Exec.move (v := Value.int .i64 ((i213085 : Int))) rfl (Eq.trans (fr270853 11 rfl) p269493) ?_)
                      exact head_done hS270852 rfl
                    · intro g270855 s270856 w270857 l270858 hS270859 fr270860 pre270861
                      have p270862 : g270855 118 = (v211006) := pre270861 0 _ rfl rfl
                      have p270863 : g270855 119 = (Value.int .i64 ((i213085 : Int))) := pre270861 1 _ rfl rfl
                      refine head_run rfl (Exec.index_slice S61 rfl (Eq.trans p270862 e270670) p270863 (idx_some e270666).1 (idx_some e270666).2.1 ?_)
                      exact head_done hS270859 rfl
                    · intro g270864 s270865 w270866 l270867 hS270868 fr270869 pre270870
                      have p270871 : g270864 120 = (Value.pointer (some ⟨g270668, 0 + ((i213085 : Int)).toNat * 1, none⟩)) := pre270870 0 _ rfl rfl
                      refine head_run rfl (Exec.load_arr (F := encRaw) (hS270868) e270670 A49 rfl p270871 rfl e270666 (Sub.refl _) ?_)
                      intro v270872 q270873
                      exact head_done hS270868 (encRaw_val.1 q270873).1
                    · intro g270874 s270875 w270876 l270877 hS270878 fr270879 pre270880
                      refine head_run rfl (Exec.move (v := Value.int .i64 ((i266233 : Int))) rfl (Eq.trans (fr270879 13 rfl) p269495) ?_)
                      exact head_done hS270878 rfl
                    · intro g270881 s270882 w270883 l270884 hS270885 fr270886 pre270887
                      have p270888 : g270881 121 = (h270665) := pre270887 0 _ rfl rfl
                      have p270889 : g270881 122 = (Value.int .i64 ((i266233 : Int))) := pre270887 1 _ rfl rfl
                      refine head_run rfl (Exec.index_slice S49 rfl (Eq.trans p270888 e270675) p270889 (idx_some q270672).1 (idx_some q270672).2.1 ?_)
                      exact head_done hS270885 rfl
                    · intro g270890 s270891 w270892 l270893 hS270894 fr270895 pre270896
                      have p270897 : g270890 123 = (Value.pointer (some ⟨g270673, 0 + ((i266233 : Int)).toNat * 1, none⟩)) := pre270896 0 _ rfl rfl
                      refine head_run rfl (Exec.load_arr (F := (encInt .i64)) (((hS270894).f1).rows_split e270667 (idx_some q270664).2.2) e270675 A3 rfl p270897 rfl q270672 (Sub.refl _) ?_)
                      intro v270898 q270899
                      exact head_done hS270894 (encInt_val.1 q270899)
                    · intro g270900 s270901 w270902 l270903 hS270904 fr270905 pre270906
                      have p270907 : g270900 124 = (Value.int .i64 (x270671)) := pre270906 1 _ rfl rfl
                      have p270908 : g270900 117 = (Value.int .i64 (x270658)) := pre270906 0 _ rfl rfl
                      refine head_run rfl (Exec.add rfl p270908 p270907 ?_)
                      exact head_done hS270904 rfl
                    · intro g270909 s270910 w270911 l270912 hS270913 fr270914 pre270915
                      have p270916 : g270909 125 = (Value.int .i64 (IntKind.i64.wrap (x270658 + x270671))) := pre270915 1 _ rfl rfl
                      have p270917 : g270909 110 = (Value.int .i64 (x270650)) := pre270915 0 _ rfl rfl
                      refine head_run rfl (Exec.min2 rfl p270917 p270916 ?_)
                      exact head_done hS270913 rfl
                    · intro g270918 s270919 w270920 l270921 hS270922 fr270923 pre270924
                      have p270925 : g270918 102 = (h270641) := pre270924 0 _ rfl rfl
                      have p270926 : g270918 103 = (Value.int .i64 ((i266233 : Int))) := pre270924 1 _ rfl rfl
                      refine head_run rfl (Exec.index_slice S49 rfl (Eq.trans p270925 e270678) p270926 (idx_some q270651).1 (idx_some q270651).2.1 ?_)
                      exact head_done hS270922 rfl
                    · intro g270927 s270928 w270929 l270930 hS270931 fr270932 hR270933
                      have p270934 : g270927 99 = (v211006) := hR270933 0 rfl
                      have p270935 : g270927 100 = (Value.int .i64 ((i256665 : Int))) := hR270933 1 rfl
                      have p270936 : g270927 101 = (Value.pointer (some ⟨g270644, 0 + ((i256665 : Int)).toNat * 1, none⟩)) := hR270933 2 rfl
                      have p270937 : g270927 102 = (h270641) := hR270933 3 rfl
                      have p270938 : g270927 103 = (Value.int .i64 ((i266233 : Int))) := hR270933 4 rfl
                      have p270939 : g270927 104 = (v211006) := hR270933 5 rfl
                      have p270940 : g270927 105 = (Value.int .i64 ((i256665 : Int))) := hR270933 6 rfl
                      have p270941 : g270927 106 = (Value.pointer (some ⟨g270647, 0 + ((i256665 : Int)).toNat * 1, none⟩)) := hR270933 7 rfl
                      have p270942 : g270927 107 = (h270641) := hR270933 8 rfl
                      have p270943 : g270927 108 = (Value.int .i64 ((i266233 : Int))) := hR270933 9 rfl
                      have p270944 : g270927 109 = (Value.pointer (some ⟨g270652, 0 + ((i266233 : Int)).toNat * 1, none⟩)) := hR270933 10 rfl
                      have p270945 : g270927 110 = (Value.int .i64 (x270650)) := hR270933 11 rfl
                      have p270946 : g270927 111 = (v211006) := hR270933 12 rfl
                      have p270947 : g270927 112 = (Value.int .i64 ((i256665 : Int))) := hR270933 13 rfl
                      have p270948 : g270927 113 = (Value.pointer (some ⟨g270655, 0 + ((i256665 : Int)).toNat * 1, none⟩)) := hR270933 14 rfl
                      have p270949 : g270927 114 = (h270641) := hR270933 15 rfl
                      have p270950 : g270927 115 = (Value.int .i64 ((i213085 : Int))) := hR270933 16 rfl
                      have p270951 : g270927 116 = (Value.pointer (some ⟨g270660, 0 + ((i213085 : Int)).toNat * 1, none⟩)) := hR270933 17 rfl
                      have p270952 : g270927 117 = (Value.int .i64 (x270658)) := hR270933 18 rfl
                      have p270953 : g270927 118 = (v211006) := hR270933 19 rfl
                      have p270954 : g270927 119 = (Value.int .i64 ((i213085 : Int))) := hR270933 20 rfl
                      have p270955 : g270927 120 = (Value.pointer (some ⟨g270668, 0 + ((i213085 : Int)).toNat * 1, none⟩)) := hR270933 21 rfl
                      have p270956 : g270927 121 = (h270665) := hR270933 22 rfl
                      have p270957 : g270927 122 = (Value.int .i64 ((i266233 : Int))) := hR270933 23 rfl
                      have p270958 : g270927 123 = (Value.pointer (some ⟨g270673, 0 + ((i266233 : Int)).toNat * 1, none⟩)) := hR270933 24 rfl
                      have p270959 : g270927 124 = (Value.int .i64 (x270671)) := hR270933 25 rfl
                      have p270960 : g270927 125 = (Value.int .i64 (IntKind.i64.wrap (x270658 + x270671))) := hR270933 26 rfl
                      have p270961 : g270927 126 = (Value.int .i64 (min x270650 (IntKind.i64.wrap (x270658 + x270671)))) := hR270933 27 rfl
                      have p270962 : g270927 127 = (Value.pointer (some ⟨g270676, 0 + ((i266233 : Int)).toNat * 1, none⟩)) := hR270933 28 rfl
                      refine WL_step rfl rfl (Exec.store_arr (((hS270931).f1).rows_split e270643 (idx_some q270640).2.2) e270678 A3 rfl p270962 rfl p270961 (encInt_val.2 rfl) q270680 ?_)
                      intro w270963 hS270964
                      have hS270965 := (hS270964).rows_back e270643 (setI_some q270682).2.1
                      rw [← (setI_some q270682).2.2] at hS270965
                      have hS270966 := (hS270965).f1
                      refine WL_nil (at_normal ?_)
                      have e270967 := Option.some.inj ht270234
                      subst l270233
                      exact ⟨s270928, l270930, hS270966, (Eq.trans (fr270932 0 rfl) p269491), (Eq.trans (fr270932 6 rfl) p269492), (Eq.trans (fr270932 11 rfl) p269493), (Eq.trans (fr270932 12 rfl) p269494), (Eq.trans (fr270932 69 rfl) p269496), (Eq.trans (fr270932 70 rfl) p269497), (Eq.trans (fr270932 73 rfl) p269498), (Eq.trans (fr270932 74 rfl) p269499), (Eq.trans (fr270932 77 rfl) p269500), (Eq.trans (fr270932 78 rfl) p269501)⟩
                  · refine W_cond_f p269502 hc270236 ?_
                    replace hc270236 := not_true hc270236
                    refine W_skip (at_normal ?_)
                    have e270968 := Option.some.inj ht270234
                    subst l270233
                    exact ⟨s269488, (PHeap.le_refl _), hS269490, p269491, p269492, p269493, p269494, p269496, p269497, p269498, p269499, p269500, p269501⟩
                · intro f270969 w270970 hM270971
                  obtain ⟨s270972, l270973, hS270974, p270975, p270976, p270977, p270978, p270979, p270980, p270981, p270982, p270983, p270984⟩ := hM270971
                  refine (ib_normal (at_normal ?_))
                  refine W_region ?_
                  refine WL_step rfl rfl (Exec.add rfl p270984 rfl ?_)
                  refine WL_step rfl rfl (Exec.move (v := Value.int .i64 (IntKind.i64.wrap ((i266233 : Int) + 1))) rfl rfl ?_)
                  refine WL_nil (at_normal ?_)
                  have e270985 := Option.some.inj hm269396
                  subst s269391
                  exact ⟨s270972, (PHeap.le.trans (PHeap.le.trans l269398 l269489) l270973), hS270974, p270975, p270976, p270977, p270978, p270979, p270980, p270981, p270982, p270983, (Eq.trans rfl (wrap_up hi269394 (by have h := must_some q266232; simp at h; simp only [maxLen]; omega)))⟩
            · intro f270986 w270987 hI270988
              obtain ⟨s270989, l270990, hS270991, p270992, p270993, p270994, p270995, p270996, p270997, p270998, p270999, p271000, x271001⟩ := hI270988
              refine W_seq ?_
              refine W_region ?_
              refine WL_step rfl rfl (Exec.lss rfl x271001 p271000 ?_)
              refine WL_nil (at_normal ?_)
              refine W_seq ?_
              refine W_false (congrArg Value.bool (decide_eq_false (by omega))) ?_
              refine W_exit (at_exit (at_exit (ib_here (ib_normal (at_normal ?_)))))
              refine W_region ?_
              refine WL_step rfl rfl (Exec.add rfl p270999 rfl ?_)
              refine WL_step rfl rfl (Exec.move (v := Value.int .i64 (IntKind.i64.wrap ((i256665 : Int) + 1))) rfl rfl ?_)
              refine WL_nil (at_normal ?_)
              have e271002 := Option.some.inj hm266220
              subst s266215
              exact ⟨s270989, (PHeap.le.trans l266222 l270990), hS270991, p270992, p270993, p270994, p270996, p270997, p270998, (Eq.trans rfl (wrap_up hi266218 (by have h := must_some q256664; simp at h; simp only [maxLen]; omega)))⟩
          · intro f271003 w271004 hI271005
            obtain ⟨s271006, l271007, hS271008, p271009, p271010, p271011, p271012, p271013, p271014, x271015⟩ := hI271005
            refine W_seq ?_
            refine W_region ?_
            refine WL_step rfl rfl (Exec.lss rfl x271015 p271014 ?_)
            refine WL_nil (at_normal ?_)
            refine W_seq ?_
            refine W_false (congrArg Value.bool (decide_eq_false (by omega))) ?_
            refine W_exit (at_exit (at_exit (ib_here (at_normal ?_))))
            refine W_seq ?_
            refine W_region ?_
            refine WL_step rfl rfl (Exec.move (v := Value.int .i64 (n150260)) rfl p271009 ?_)
            refine WL_step rfl rfl (Exec.move (v := Value.int .i64 (0)) rfl rfl ?_)
            refine WL_nil (at_normal ?_)
            obtain ⟨u271016, q271017, hm256653⟩ := bind_some hm256653
            obtain ⟨c271091, hB271092, hr271093, hn271094, hb271095⟩ := ctl_some hm256653
            refine W_mid (M := fun f' w' => ∃ s', (c271091 = .next s' ∨ c271091 = .brk s') ∧ (fun (_ : Unit) => ∃ (s271097 : PHeap) , PHeap.le s271006 s271097 ∧ St w0 s271097 (Res.arr encRaw 49 v211006 hs211007 :: Res.rows (encInt .i64) 3 hs211007 l261438 :: H) w' ∧ f' 0 = Value.int .i64 (n150260) ∧ f' 6 = v211006 ∧ f' 69 = Value.int .i64 (n150260) ∧ f' 70 = Value.int .i64 ((i213085 : Int)) ∧ f' 130 = Value.int .i64 (n150260)) s') ?_ ?_
            · refine W_block (W_forC (fun k' s' f' w' => (fun (_ : Unit) => ∃ (s271096 : PHeap) , PHeap.le s271006 s271096 ∧ St w0 s271096 (Res.arr encRaw 49 v211006 hs211007 :: Res.rows (encInt .i64) 3 hs211007 l261438 :: H) w' ∧ f' 0 = Value.int .i64 (n150260) ∧ f' 6 = v211006 ∧ f' 69 = Value.int .i64 (n150260) ∧ f' 70 = Value.int .i64 ((i213085 : Int)) ∧ f' 130 = Value.int .i64 (n150260) ∧ f' 131 = Value.int .i64 (k' : Int)) s') hB271092 ?_ ?_ ?_)
              · exact ⟨s271006, (PHeap.le_refl _), hS271008, p271009, p271010, p271012, p271013, rfl, rfl⟩
              · intro i271018 t271105 c271099 f271100 w271101 hi271106 hI271102 hm271103 hres271104
                obtain ⟨s271107, l271108, hS271109, p271110, p271111, p271112, p271113, p271114, x271115⟩ := hI271102
                refine W_seq ?_
                refine W_region ?_
                refine WL_step rfl rfl (Exec.lss rfl x271115 p271114 ?_)
                refine WL_nil (at_normal ?_)
                refine W_seq ?_
                refine W_true (congrArg Value.bool (decide_eq_true (by omega))) ?_
                refine W_skip (at_normal ?_)
                refine W_seq ?_
                refine W_block ?_
                refine W_seq ?_
                refine W_region ?_
                refine WL_step rfl rfl (Exec.move (v := Value.int .i64 ((i271018 : Int))) rfl x271115 ?_)
                refine WL_step rfl rfl (Exec.assign (v := Value.int .i64 ((i271018 : Int))) rfl rfl ?_)
                refine WL_nil (at_normal ?_)
                refine W_seq ?_
                refine W_region ?_
                refine WL_step rfl rfl (Exec.move (v := v211006) rfl p271111 ?_)
                refine WL_step rfl rfl (Exec.move (v := Value.int .i64 ((i271018 : Int))) rfl rfl ?_)
                obtain ⟨row271133, q271134, hm271103⟩ := bind_some hm271103
                obtain ⟨h271135, e271136, e271137, _⟩ := ((hS271109).f1).rows_at q271134
                obtain ⟨g271138, c271139, e271140⟩ := (hS271109).arr_at e271136
                refine WL_step rfl rfl (Exec.index_slice S61 rfl e271140 rfl (idx_some e271136).1 (idx_some e271136).2.1 ?_)
                refine WL_step rfl rfl (Exec.load_arr (F := encRaw) (hS271109) e271140 A49 rfl rfl rfl e271136 (Sub.refl _) ?_)
                intro v271141 q271142
                replace q271142 := (encRaw_val.1 q271142).1
                subst v271141
                refine WL_step rfl rfl (Exec.move (v := Value.int .i64 ((i271018 : Int))) rfl rfl ?_)
                obtain ⟨x271143, q271144, hm271103⟩ := bind_some hm271103
                obtain ⟨g271145, c271146, e271147⟩ := (((hS271109).f1).rows_split e271137 (idx_some q271134).2.2).arr_at q271144
                refine WL_step rfl rfl (Exec.index_slice S49 rfl e271147 rfl (idx_some q271144).1 (idx_some q271144).2.1 ?_)
                refine WL_step rfl rfl (Exec.load_arr (F := (encInt .i64)) (((hS271109).f1).rows_split e271137 (idx_some q271134).2.2) e271147 A3 rfl rfl rfl q271144 (Sub.refl _) ?_)
                intro v271148 q271149
                obtain rfl := encInt_val.1 q271149
                refine WL_step rfl rfl (Exec.lss rfl rfl rfl ?_)
                refine WL_nil (at_normal ?_)
                rcases ite_some hm271103 with ⟨hc271150, hm271103⟩ | ⟨hc271150, hm271103⟩
                · refine W_cond_t rfl hc271150 ?_
                  refine W_seq ?_
                  refine W_region ?_
                  refine WL_step rfl rfl (Exec.assign (v := Value.slice none 0 0) rfl rfl ?_)
                  refine WL_step rfl rfl (Exec.assign (v := Value.bool (false)) rfl rfl ?_)
                  refine WL_nil (at_normal ?_)
                  refine W_ret (ib_ret (at_ret (at_ret (ib_ret (at_ret (ib_ret (at_ret (at_ret (ib_ret (at_ret (at_ret ?_)))))))))))
                  have e271151 := Option.some.inj hm271103
                  subst c271099
                  have hq271152 := hr271093 _ (hres271104 (by intro _ h; cases h))
                  have e271153 := Option.some.inj hq271152
                  subst c256649
                  have hq271154 := hr256643 _ (hres256654 (by intro _ h; cases h))
                  have e271155 := Option.some.inj hq271154
                  subst r
                  refine ⟨_, ret2 rfl, ?_⟩
                  have hS271156 := ((hS271109).drop).drop
                  exact ⟨s271107, (Value.slice none 0 0), (PHeap.le.trans (PHeap.le.trans (PHeap.le.trans (PHeap.le.trans l211559 l213076) l256657) l271007) l271108), hS271156, (tup2 rfl rfl), (SliceRep.nil _ _)⟩
                · refine W_cond_f rfl hc271150 ?_
                  replace hc271150 := not_true hc271150
                  refine W_skip (ib_normal (at_normal ?_))
                  refine W_region ?_
                  refine WL_step rfl rfl (Exec.add rfl x271115 rfl ?_)
                  refine WL_step rfl rfl (Exec.move (v := Value.int .i64 (IntKind.i64.wrap ((i271018 : Int) + 1))) rfl rfl ?_)
                  refine WL_nil (at_normal ?_)
                  have e271157 := Option.some.inj hm271103
                  subst c271099
                  refine ⟨_, rfl, ?_⟩; exact ⟨s271107, l271108, hS271109, p271110, p271111, p271112, p271113, p271114, (Eq.trans rfl (wrap_up hi271106 (by have h := must_some q271017; simp at h; simp only [maxLen]; omega)))⟩
              · intro t271158 f271159 w271160 hI271161 hres271162
                obtain ⟨s271163, l271164, hS271165, p271166, p271167, p271168, p271169, p271170, x271171⟩ := hI271161
                refine W_seq ?_
                refine W_region ?_
                refine WL_step rfl rfl (Exec.lss rfl x271171 p271170 ?_)
                refine WL_nil (at_normal ?_)
                refine W_seq ?_
                refine W_false (congrArg Value.bool (decide_eq_false (by omega))) ?_
                refine W_exit (at_exit (at_exit (ib_here (at_normal ?_))))
                refine ⟨_, .inl hres271162, ?_⟩; exact ⟨s271163, l271164, hS271165, p271166, p271167, p271168, p271169, p271170⟩
            · rintro f271172 w271173 ⟨t271174, hc271175, hM271176⟩
              have hm256653 := hc271175.elim (hn271094 _) (hb271095 _)
              clear hc271175
              obtain ⟨s271177, l271178, hS271179, p271180, p271181, p271182, p271183, p271184⟩ := hM271176
              refine (ib_normal (at_normal ?_))
              refine W_region ?_
              refine WL_step rfl rfl (Exec.add rfl p271183 rfl ?_)
              refine WL_step rfl rfl (Exec.move (v := Value.int .i64 (IntKind.i64.wrap ((i213085 : Int) + 1))) rfl rfl ?_)
              refine WL_nil (at_normal ?_)
              have e271185 := Option.some.inj hm256653
              subst c256649
              refine ⟨_, rfl, ?_⟩; exact ⟨s271177, (PHeap.le.trans (PHeap.le.trans l256657 l271007) l271178), hS271179, p271180, p271181, p271182, (Eq.trans rfl (wrap_up hi256655 (by have h := must_some q213084; simp at h; simp only [maxLen]; omega)))⟩
        · intro l227603 f271186 w271187 hI271188 hres271189
          obtain ⟨s271190, l271191, hS271192, p271193, p271194, p271195, x271196⟩ := hI271188
          refine W_seq ?_
          refine W_region ?_
          refine WL_step rfl rfl (Exec.lss rfl x271196 p271195 ?_)
          refine WL_nil (at_normal ?_)
          refine W_seq ?_
          refine W_false (congrArg Value.bool (decide_eq_false (by omega))) ?_
          refine W_exit (at_exit (at_exit (ib_here (at_normal ?_))))
          refine ⟨_, .inl hres271189, ?_⟩; exact ⟨s271190, l271191, hS271192, p271193, p271194, p271195⟩
      · rintro f271197 w271198 ⟨l256640, hc271199, hM271200⟩
        have hm := hc271199.elim (hn256644 _) (hb256645 _)
        clear hc271199
        obtain ⟨s271201, l271202, hS271203, p271204, p271205, p271206⟩ := hM271200
        refine (at_normal ?_)
        refine W_seq ?_
        refine W_region ?_
        refine WL_step rfl rfl (Exec.move (v := v211006) rfl p271205 ?_)
        refine WL_step rfl rfl (Exec.assign (v := v211006) rfl rfl ?_)
        refine WL_step rfl rfl (Exec.assign (v := Value.bool (true)) rfl rfl ?_)
        refine WL_nil (at_normal ?_)
        refine W_ret ?_
        have e271208 := Option.some.inj hm
        subst r
        refine ⟨_, ret2 rfl, ?_⟩
        obtain ⟨s271209, l271210, hS271211, r271212⟩ := hS271203.freezeGrid
        exact ⟨s271209, v211006, (PHeap.le.trans (PHeap.le.trans (PHeap.le.trans l211559 l213076) l271202) l271210), hS271211, (tup2 rfl rfl), r271212⟩

theorem base_Ints_o_sim {w0 w : World} {s : PHeap} {H : List Res} {a274370 : (List Int)} {b274373 : (List Int)} {v274371 : Value} {v274374 : Value} {r : Bool} (hm : base_Ints_o_p a274370 b274373 = some r) (hS : St w0 s (Res.arr (encInt .i64) 3 v274374 b274373 :: H) w) (a274372 : SliceRep (encInt .i64) s v274371 a274370) :
    Calls Try.prog 23 #[v274371, v274374] w fun e w' => ∃ v, e = .returned v ∧ ((fun (y275126 : Bool) => ∃ (s275127 : PHeap) , PHeap.le s s275127 ∧ St w0 s275127 (Res.arr (encInt .i64) 3 v274374 b274373 :: H) w' ∧ v = Value.bool (y275126)) r) := by
  unfold base_Ints_o_p at hm
  refine calls_of_W Try.func23 rfl rfl ?_
  refine W_seq ?_
  refine W_region ?_
  refine WL_step rfl rfl (Exec.assign (v := Value.bool (false)) rfl rfl ?_)
  refine WL_nil (at_normal ?_)
  refine W_seq ?_
  refine W_seq ?_
  refine W_region ?_
  refine WL_step rfl rfl (Exec.move (v := v274371) rfl rfl ?_)
  refine WL_step rfl rfl (Exec.len_rep S49 rfl rfl a274372 ?_)
  refine WL_step rfl rfl (Exec.move (v := v274374) rfl rfl ?_)
  refine WL_step rfl rfl (Exec.len_arr (hS) S49 rfl rfl ?_)
  refine WL_step rfl rfl (Exec.neq rfl rfl rfl ?_)
  refine WL_nil (at_normal ?_)
  rcases ite_some hm with ⟨hc275128, hm⟩ | ⟨hc275128, hm⟩
  · refine W_cond_t rfl hc275128 ?_
    refine W_seq ?_
    refine W_region ?_
    refine WL_step rfl rfl (Exec.assign (v := Value.bool (false)) rfl rfl ?_)
    refine WL_nil (at_normal ?_)
    refine W_ret (at_ret ?_)
    have e275130 := Option.some.inj hm
    subst r
    refine ⟨_, ret1 rfl, ?_⟩
    exact ⟨s, (PHeap.le_refl _), hS, rfl⟩
  · refine W_cond_f rfl hc275128 ?_
    replace hc275128 := not_true hc275128
    refine W_skip (at_normal ?_)
    refine W_seq ?_
    refine W_seq ?_
    refine W_region ?_
    refine WL_step rfl rfl (Exec.move (v := v274371) rfl rfl ?_)
    refine WL_step rfl rfl (Exec.len_rep S49 rfl rfl a274372 ?_)
    refine WL_step rfl rfl (Exec.move (v := Value.int .i64 (0)) rfl rfl ?_)
    refine WL_nil (at_normal ?_)
    obtain ⟨c275600, hB275601, hr275602, hn275603, hb275604⟩ := ctl_some hm
    refine W_mid (M := fun f' w' => ∃ s', (c275600 = .next s' ∨ c275600 = .brk s') ∧ (fun (_ : Unit) => ∃ (s275606 : PHeap) , PHeap.le s s275606 ∧ St w0 s275606 (Res.arr (encInt .i64) 3 v274374 b274373 :: H) w' ∧ f' 0 = v274371 ∧ f' 1 = v274374 ∧ f' 12 = Value.int .i64 ((a274370.length : Int))) s') ?_ ?_
    · refine W_block (W_forC (fun k' s' f' w' => (fun (_ : Unit) => ∃ (s275605 : PHeap) , PHeap.le s s275605 ∧ St w0 s275605 (Res.arr (encInt .i64) 3 v274374 b274373 :: H) w' ∧ f' 0 = v274371 ∧ f' 1 = v274374 ∧ f' 12 = Value.int .i64 ((a274370.length : Int)) ∧ f' 13 = Value.int .i64 (k' : Int)) s') hB275601 ?_ ?_ ?_)
      · exact ⟨s, (PHeap.le_refl _), hS, rfl, rfl, rfl, rfl⟩
      · intro i275131 t275614 c275608 f275609 w275610 hi275615 hI275611 hm275612 hres275613
        obtain ⟨s275616, l275617, hS275618, p275619, p275620, p275621, x275622⟩ := hI275611
        refine W_seq ?_
        refine W_region ?_
        refine WL_step rfl rfl (Exec.lss rfl x275622 p275621 ?_)
        refine WL_nil (at_normal ?_)
        refine W_seq ?_
        refine W_true (congrArg Value.bool (decide_eq_true (by omega))) ?_
        refine W_skip (at_normal ?_)
        refine W_seq ?_
        refine W_block ?_
        refine W_seq ?_
        refine W_region ?_
        refine WL_step rfl rfl (Exec.move (v := Value.int .i64 ((i275131 : Int))) rfl x275622 ?_)
        refine WL_step rfl rfl (Exec.assign (v := Value.int .i64 ((i275131 : Int))) rfl rfl ?_)
        refine WL_nil (at_normal ?_)
        refine W_seq ?_
        obtain ⟨x275746, q275747, hm275612⟩ := bind_some hm275612
        obtain ⟨x275748, q275749, hm275612⟩ := bind_some hm275612
        obtain ⟨g275750, c275751, e275752⟩ := (hS275618).arr_at q275749
        refine W_drawn (n0 := 9) hmix (by kernel_rfl) [RP.eq (v274371), RP.eq (Value.int .i64 ((i275131 : Int))), RP.at (encInt .i64) x275746, RP.eq (Value.int .i64 (x275746)), RP.eq (v274374), RP.eq (Value.int .i64 ((i275131 : Int))), RP.eq (Value.pointer (some ⟨g275750, 0 + ((i275131 : Int)).toNat * 1, none⟩)), RP.eq (Value.int .i64 (x275748)), RP.eq (Value.bool (!decide (x275746 = x275748)))] hS275618 (HeadAll.cons ?_ (HeadAll.cons ?_ (HeadAll.cons ?_ (HeadAll.cons ?_ (HeadAll.cons ?_ (HeadAll.cons ?_ (HeadAll.cons ?_ (HeadAll.cons ?_ (HeadAll.cons ?_ (HeadAll.nil)))))))))) ?_
        · intro g275753 s275754 w275755 l275756 hS275757 fr275758 pre275759
          refine head_run rfl (Exec.move (v := v274371) rfl (Eq.trans (fr275758 0 rfl) p275619) ?_)
          exact head_done hS275757 rfl
        · intro g275760 s275761 w275762 l275763 hS275764 fr275765 pre275766
          refine head_run rfl (Exec.move (v := Value.int .i64 ((i275131 : Int))) rfl (fr275765 5 rfl) ?_)
          exact head_done hS275764 rfl
        · intro g275767 s275768 w275769 l275770 hS275771 fr275772 pre275773
          have p275774 : g275767 16 = (v274371) := pre275773 0 _ rfl rfl
          have p275775 : g275767 17 = (Value.int .i64 ((i275131 : Int))) := pre275773 1 _ rfl rfl
          refine head_run rfl (Exec.index_rep S49 rfl p275774 p275775 (a274372.mono (PHeap.le.trans l275617 l275770)) q275747 ?_)
          intro b275776 o275777 a275778
          exact head_done hS275771 ⟨_, _, rfl, a275778⟩
        · intro g275779 s275780 w275781 l275782 hS275783 fr275784 pre275785
          obtain ⟨b275787, o275788, e275789, a275790⟩ := (show ∃ b off, g275779 18 = .pointer (some ⟨b, off, none⟩) ∧ At s275780 b off (encInt .i64) x275746 from pre275785 0 _ rfl rfl)
          refine head_run rfl (Exec.load_at (E := (encInt .i64)) hS275783 A3 rfl e275789 rfl a275790 ?_)
          intro v275791 q275792
          exact head_done hS275783 (encInt_val.1 q275792)
        · intro g275793 s275794 w275795 l275796 hS275797 fr275798 pre275799
          refine head_run rfl (Exec.move (v := v274374) rfl (Eq.trans (fr275798 1 rfl) p275620) ?_)
          exact head_done hS275797 rfl
        · intro g275800 s275801 w275802 l275803 hS275804 fr275805 pre275806
          refine head_run rfl (Exec.move (v := Value.int .i64 ((i275131 : Int))) rfl (fr275805 5 rfl) ?_)
          exact head_done hS275804 rfl
        · intro g275807 s275808 w275809 l275810 hS275811 fr275812 pre275813
          have p275814 : g275807 20 = (v274374) := pre275813 0 _ rfl rfl
          have p275815 : g275807 21 = (Value.int .i64 ((i275131 : Int))) := pre275813 1 _ rfl rfl
          refine head_run rfl (Exec.index_slice S49 rfl (Eq.trans p275814 e275752) p275815 (idx_some q275749).1 (idx_some q275749).2.1 ?_)
          exact head_done hS275811 rfl
        · intro g275816 s275817 w275818 l275819 hS275820 fr275821 pre275822
          have p275823 : g275816 22 = (Value.pointer (some ⟨g275750, 0 + ((i275131 : Int)).toNat * 1, none⟩)) := pre275822 0 _ rfl rfl
          refine head_run rfl (Exec.load_arr (F := (encInt .i64)) (hS275820) e275752 A3 rfl p275823 rfl q275749 (Sub.refl _) ?_)
          intro v275824 q275825
          exact head_done hS275820 (encInt_val.1 q275825)
        · intro g275826 s275827 w275828 l275829 hS275830 fr275831 pre275832
          have p275833 : g275826 19 = (Value.int .i64 (x275746)) := pre275832 0 _ rfl rfl
          have p275834 : g275826 23 = (Value.int .i64 (x275748)) := pre275832 1 _ rfl rfl
          refine head_run rfl (Exec.neq rfl p275833 p275834 ?_)
          exact head_done hS275830 rfl
        · intro g275835 s275836 w275837 l275838 hS275839 fr275840 hR275841
          have p275842 : g275835 16 = (v274371) := hR275841 0 rfl
          have p275843 : g275835 17 = (Value.int .i64 ((i275131 : Int))) := hR275841 1 rfl
          obtain ⟨b275845, o275846, e275847, a275848⟩ := (show ∃ b off, g275835 18 = .pointer (some ⟨b, off, none⟩) ∧ At s275836 b off (encInt .i64) x275746 from hR275841 2 rfl)
          have p275849 : g275835 19 = (Value.int .i64 (x275746)) := hR275841 3 rfl
          have p275850 : g275835 20 = (v274374) := hR275841 4 rfl
          have p275851 : g275835 21 = (Value.int .i64 ((i275131 : Int))) := hR275841 5 rfl
          have p275852 : g275835 22 = (Value.pointer (some ⟨g275750, 0 + ((i275131 : Int)).toNat * 1, none⟩)) := hR275841 6 rfl
          have p275853 : g275835 23 = (Value.int .i64 (x275748)) := hR275841 7 rfl
          have p275854 : g275835 24 = (Value.bool (!decide (x275746 = x275748))) := hR275841 8 rfl
          refine WL_nil (at_normal ?_)
          rcases ite_some hm275612 with ⟨hc275855, hm275612⟩ | ⟨hc275855, hm275612⟩
          · refine W_cond_t p275854 hc275855 ?_
            refine W_seq ?_
            refine W_region ?_
            refine WL_step rfl rfl (Exec.assign (v := Value.bool (false)) rfl rfl ?_)
            refine WL_nil (at_normal ?_)
            refine W_ret (ib_ret (at_ret (at_ret (ib_ret (at_ret (at_ret ?_))))))
            have e275856 := Option.some.inj hm275612
            subst c275608
            have hq275857 := hr275602 _ (hres275613 (by intro _ h; cases h))
            have e275858 := Option.some.inj hq275857
            subst r
            refine ⟨_, ret1 rfl, ?_⟩
            exact ⟨s275836, (PHeap.le.trans l275617 l275838), hS275839, rfl⟩
          · refine W_cond_f p275854 hc275855 ?_
            replace hc275855 := not_true hc275855
            refine W_skip (ib_normal (at_normal ?_))
            refine W_region ?_
            refine WL_step rfl rfl (Exec.add rfl (Eq.trans (fr275840 13 rfl) x275622) rfl ?_)
            refine WL_step rfl rfl (Exec.move (v := Value.int .i64 (IntKind.i64.wrap ((i275131 : Int) + 1))) rfl rfl ?_)
            refine WL_nil (at_normal ?_)
            have e275859 := Option.some.inj hm275612
            subst c275608
            refine ⟨_, rfl, ?_⟩; exact ⟨s275836, (PHeap.le.trans l275617 l275838), hS275839, (Eq.trans (fr275840 0 rfl) p275619), (Eq.trans (fr275840 1 rfl) p275620), (Eq.trans (fr275840 12 rfl) p275621), (Eq.trans rfl (wrap_up hi275615 (SliceRep.le a274372)))⟩
      · intro t275860 f275861 w275862 hI275863 hres275864
        obtain ⟨s275865, l275866, hS275867, p275868, p275869, p275870, x275871⟩ := hI275863
        refine W_seq ?_
        refine W_region ?_
        refine WL_step rfl rfl (Exec.lss rfl x275871 p275870 ?_)
        refine WL_nil (at_normal ?_)
        refine W_seq ?_
        refine W_false (congrArg Value.bool (decide_eq_false (by omega))) ?_
        refine W_exit (at_exit (at_exit (ib_here (at_normal ?_))))
        refine ⟨_, .inl hres275864, ?_⟩; exact ⟨s275865, l275866, hS275867, p275868, p275869, p275870⟩
    · rintro f275872 w275873 ⟨t275874, hc275875, hM275876⟩
      have hm := hc275875.elim (hn275603 _) (hb275604 _)
      clear hc275875
      obtain ⟨s275877, l275878, hS275879, p275880, p275881, p275882⟩ := hM275876
      refine (at_normal ?_)
      refine W_seq ?_
      refine W_region ?_
      refine WL_step rfl rfl (Exec.assign (v := Value.bool (true)) rfl rfl ?_)
      refine WL_nil (at_normal ?_)
      refine W_ret ?_
      have e275884 := Option.some.inj hm
      subst r
      refine ⟨_, ret1 rfl, ?_⟩
      exact ⟨s275877, l275878, hS275879, rfl⟩

theorem N18 : (Try.f18.name == "runtime.NumGoroutine") = false := by kernel_rfl

end Go.Pw
