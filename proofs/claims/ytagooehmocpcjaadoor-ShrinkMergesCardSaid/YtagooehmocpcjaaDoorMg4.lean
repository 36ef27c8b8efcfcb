/-
  The walks (printed by my generator).
-/
import Derived.Test.YtagooehmocpcjaaDoorMg3
set_option maxRecDepth 100000
set_option maxHeartbeats 4000000
set_option linter.unusedVariables false
namespace Go.Pw
open Go.Proofs
theorem ref45_Many_o_sim {w0 w : World} {s : PHeap} {H : List Res} {class49183 : (List Int)} {n49185 : Int} {v49184 : Value} {r : Int} (hm : ref45_Many_o_p class49183 n49185 = some r) (hS : St w0 s (Res.arr (encInt .i64) 3 v49184 class49183 :: H) w)  :
    Calls Tryd.prog 36 #[v49184, Value.int .i64 (n49185)] w fun e w' => ∃ v, e = .returned v ∧ ((fun (y50076 : Int) => ∃ (s50077 : PHeap) , PHeap.le s s50077 ∧ St w0 s50077 (Res.arr (encInt .i64) 3 v49184 class49183 :: H) w' ∧ v = Value.int .i64 (y50076)) r) := by
  unfold ref45_Many_o_p at hm
  refine calls_of_W Tryd.func36 rfl rfl ?_
  refine W_seq ?_
  refine W_region ?_
  refine WL_step rfl rfl (Exec.assign (v := Value.int .i64 (0)) rfl rfl ?_)
  refine WL_nil (at_normal ?_)
  refine W_seq ?_
  refine W_seq ?_
  refine W_region ?_
  refine WL_step rfl rfl (Exec.move (v := v49184) rfl rfl ?_)
  refine WL_step rfl rfl (Exec.len_arr (hS) S22 rfl rfl ?_)
  refine WL_step rfl rfl (Exec.move (v := Value.int .i64 (n49185)) rfl rfl ?_)
  refine WL_step rfl rfl (Exec.neq rfl rfl rfl ?_)
  refine WL_nil (at_normal ?_)
  rcases ite_some hm with ⟨hc50078, hm⟩ | ⟨hc50078, hm⟩
  · refine W_cond_t rfl hc50078 ?_
    refine W_seq ?_
    refine W_region ?_
    refine WL_step rfl rfl (Exec.assign (v := Value.int .i64 ((-1))) rfl rfl ?_)
    refine WL_nil (at_normal ?_)
    refine W_ret (at_ret ?_)
    have e50080 := Option.some.inj hm
    subst r
    refine ⟨_, ret1 rfl, ?_⟩
    exact ⟨s, (PHeap.le_refl _), hS, rfl⟩
  · refine W_cond_f rfl hc50078 ?_
    replace hc50078 := not_true hc50078
    refine W_skip (at_normal ?_)
    refine W_seq ?_
    refine W_region ?_
    refine WL_step rfl rfl (Exec.assign (v := Value.int .i64 (0)) rfl rfl ?_)
    refine WL_nil (at_normal ?_)
    refine W_seq ?_
    refine W_seq ?_
    refine W_region ?_
    refine WL_step rfl rfl (Exec.move (v := v49184) rfl rfl ?_)
    refine WL_step rfl rfl (Exec.len_arr (hS) S22 rfl rfl ?_)
    refine WL_step rfl rfl (Exec.move (v := Value.int .i64 (0)) rfl rfl ?_)
    refine WL_nil (at_normal ?_)
    obtain ⟨c50185, hB50186, hr50187, hn50188, hb50189⟩ := ctl_some hm
    refine W_mid (M := fun f' w' => ∃ s', (c50185 = .next s' ∨ c50185 = .brk s') ∧ (fun (k50184 : Int) => ∃ (s50191 : PHeap) , PHeap.le s s50191 ∧ St w0 s50191 (Res.arr (encInt .i64) 3 v49184 class49183 :: H) w' ∧ f' 0 = v49184 ∧ f' 1 = Value.int .i64 (n49185) ∧ f' 5 = Value.int .i64 (k50184) ∧ f' 18 = v49184 ∧ f' 19 = Value.int .i64 ((class49183.length : Int))) s') ?_ ?_
    · refine W_block (W_forC (fun k' s' f' w' => (fun (k50115 : Int) => ∃ (s50190 : PHeap) , PHeap.le s s50190 ∧ St w0 s50190 (Res.arr (encInt .i64) 3 v49184 class49183 :: H) w' ∧ f' 0 = v49184 ∧ f' 1 = Value.int .i64 (n49185) ∧ f' 5 = Value.int .i64 (k50115) ∧ f' 18 = v49184 ∧ f' 19 = Value.int .i64 ((class49183.length : Int)) ∧ f' 20 = Value.int .i64 (k' : Int)) s') hB50186 ?_ ?_ ?_)
      · exact ⟨s, (PHeap.le_refl _), hS, rfl, rfl, rfl, rfl, rfl, rfl⟩
      · intro i50081 k50115 c50193 f50194 w50195 hi50199 hI50196 hm50197 hres50198
        obtain ⟨s50200, l50201, hS50202, p50203, p50204, p50205, p50206, p50207, x50208⟩ := hI50196
        refine W_seq ?_
        refine W_region ?_
        refine WL_step rfl rfl (Exec.lss rfl x50208 p50207 ?_)
        refine WL_nil (at_normal ?_)
        refine W_seq ?_
        refine W_true (congrArg Value.bool (decide_eq_true (by omega))) ?_
        refine W_skip (at_normal ?_)
        refine W_seq ?_
        refine W_block ?_
        refine W_seq ?_
        refine W_region ?_
        obtain ⟨x50216, q50217, hm50197⟩ := bind_some hm50197
        obtain ⟨g50218, c50219, e50220⟩ := (hS50202).arr_at q50217
        refine WL_step rfl rfl (Exec.index_slice S22 rfl (Eq.trans p50206 e50220) x50208 (idx_some q50217).1 (idx_some q50217).2.1 ?_)
        refine WL_step rfl rfl (Exec.load_arr (F := (encInt .i64)) (hS50202) e50220 A3 rfl rfl rfl q50217 (Sub.refl _) ?_)
        intro v50221 q50222
        obtain rfl := encInt_val.1 q50222
        refine WL_step rfl rfl (Exec.assign (v := Value.int .i64 (x50216)) rfl rfl ?_)
        refine WL_nil (at_normal ?_)
        refine W_seq ?_
        refine W_seq ?_
        refine W_mid (M := fun f' w' => ∃ (s50224 : PHeap) , PHeap.le s50200 s50224 ∧ St w0 s50224 (Res.arr (encInt .i64) 3 v49184 class49183 :: H) w' ∧ f' 0 = v49184 ∧ f' 1 = Value.int .i64 (n49185) ∧ f' 5 = Value.int .i64 (k50115) ∧ f' 7 = Value.int .i64 (x50216) ∧ f' 18 = v49184 ∧ f' 19 = Value.int .i64 ((class49183.length : Int)) ∧ f' 20 = Value.int .i64 ((i50081 : Int)) ∧ f' 30 = Value.bool (((decide (x50216 < 0)) || decide (n49185 ≤ x50216)))) ?_ ?_
        · refine W_region ?_
          refine WL_step rfl rfl (Exec.move (v := Value.int .i64 (x50216)) rfl rfl ?_)
          refine WL_step rfl rfl (Exec.lss rfl rfl rfl ?_)
          refine WL_step rfl rfl (Exec.move (v := Value.bool (decide (x50216 < 0))) rfl rfl ?_)
          by_cases hc50225 : (decide (x50216 < 0)) = true
          · refine WL_pass rfl (yield_of rfl (congrArg Value.bool hc50225)) rfl rfl ?_
            refine WL_pass rfl (yield_of rfl (congrArg Value.bool hc50225)) rfl rfl ?_
            refine WL_pass rfl (yield_of rfl (congrArg Value.bool hc50225)) rfl rfl ?_
            refine WL_step rfl rfl (Exec.pick_t (v := Value.bool (true)) rfl (congrArg Value.bool hc50225) rfl ?_)
            refine WL_nil (at_normal ?_)
            exact ⟨s50200, (PHeap.le_refl _), hS50202, p50203, p50204, p50205, rfl, p50206, p50207, x50208, (congrArg Value.bool (or_t hc50225)).symm⟩
          · replace hc50225 := not_true hc50225
            refine WL_run rfl (yield_of rfl (congrArg Value.bool hc50225)) rfl (Exec.move (v := Value.int .i64 (x50216)) rfl rfl ?_)
            refine WL_run rfl (yield_of rfl (congrArg Value.bool hc50225)) rfl (Exec.move (v := Value.int .i64 (n49185)) rfl p50204 ?_)
            refine WL_run rfl (yield_of rfl (congrArg Value.bool hc50225)) rfl (Exec.geq rfl rfl rfl ?_)
            refine WL_step rfl rfl (Exec.pick_f (v := Value.bool (decide (n49185 ≤ x50216))) rfl (congrArg Value.bool hc50225) rfl ?_)
            refine WL_nil (at_normal ?_)
            exact ⟨s50200, (PHeap.le_refl _), hS50202, p50203, p50204, p50205, rfl, p50206, p50207, x50208, (congrArg Value.bool (or_f hc50225)).symm⟩
        · intro f50226 w50227 hM50228
          obtain ⟨s50229, l50230, hS50231, p50232, p50233, p50234, p50235, p50236, p50237, p50238, p50239⟩ := hM50228
          refine (at_normal ?_)
          rcases ite_some hm50197 with ⟨hc50240, hm50197⟩ | ⟨hc50240, hm50197⟩
          · refine W_cond_t p50239 hc50240 ?_
            refine W_seq ?_
            refine W_region ?_
            refine WL_step rfl rfl (Exec.assign (v := Value.int .i64 ((-1))) rfl rfl ?_)
            refine WL_nil (at_normal ?_)
            refine W_ret (at_ret (ib_ret (at_ret (at_ret (ib_ret (at_ret (at_ret ?_)))))))
            have e50241 := Option.some.inj hm50197
            subst c50193
            have hq50242 := hr50187 _ (hres50198 (by intro _ h; cases h))
            have e50243 := Option.some.inj hq50242
            subst r
            refine ⟨_, ret1 rfl, ?_⟩
            exact ⟨s50229, (PHeap.le.trans l50201 l50230), hS50231, rfl⟩
          · refine W_cond_f p50239 hc50240 ?_
            replace hc50240 := not_true hc50240
            refine W_skip (at_normal ?_)
            refine W_region ?_
            refine WL_step rfl rfl (Exec.move (v := Value.int .i64 (k50115)) rfl p50234 ?_)
            refine WL_step rfl rfl (Exec.move (v := Value.int .i64 (x50216)) rfl p50235 ?_)
            refine WL_step rfl rfl (Exec.add rfl rfl rfl ?_)
            refine WL_step rfl rfl (Exec.max2 rfl rfl rfl ?_)
            refine WL_step rfl rfl (Exec.assign (v := Value.int .i64 (max k50115 (IntKind.i64.wrap (x50216 + 1)))) rfl rfl ?_)
            refine WL_nil (ib_normal (at_normal ?_))
            refine W_region ?_
            refine WL_step rfl rfl (Exec.add rfl p50238 rfl ?_)
            refine WL_step rfl rfl (Exec.move (v := Value.int .i64 (IntKind.i64.wrap ((i50081 : Int) + 1))) rfl rfl ?_)
            refine WL_nil (at_normal ?_)
            have e50244 := Option.some.inj hm50197
            subst c50193
            refine ⟨_, rfl, ?_⟩; exact ⟨s50229, (PHeap.le.trans l50201 l50230), hS50231, p50232, p50233, rfl, p50236, p50237, (Eq.trans rfl (wrap_up hi50199 (hS).arr_le))⟩
      · intro k50115 f50245 w50246 hI50247 hres50248
        obtain ⟨s50249, l50250, hS50251, p50252, p50253, p50254, p50255, p50256, x50257⟩ := hI50247
        refine W_seq ?_
        refine W_region ?_
        refine WL_step rfl rfl (Exec.lss rfl x50257 p50256 ?_)
        refine WL_nil (at_normal ?_)
        refine W_seq ?_
        refine W_false (congrArg Value.bool (decide_eq_false (by omega))) ?_
        refine W_exit (at_exit (at_exit (ib_here (at_normal ?_))))
        refine ⟨_, .inl hres50248, ?_⟩; exact ⟨s50249, l50250, hS50251, p50252, p50253, p50254, p50255, p50256⟩
    · rintro f50258 w50259 ⟨k50184, hc50260, hM50261⟩
      have hm := hc50260.elim (hn50188 _) (hb50189 _)
      clear hc50260
      obtain ⟨s50262, l50263, hS50264, p50265, p50266, p50267, p50268, p50269⟩ := hM50261
      refine (at_normal ?_)
      refine W_seq ?_
      refine W_seq ?_
      refine W_region ?_
      refine WL_step rfl rfl (Exec.move (v := Value.int .i64 (k50184)) rfl p50267 ?_)
      refine WL_step rfl rfl (Exec.move (v := Value.int .i64 (0)) rfl rfl ?_)
      refine WL_nil (at_normal ?_)
      obtain ⟨u50270, q50271, hm⟩ := bind_some hm
      obtain ⟨c50645, hB50646, hr50647, hn50648, hb50649⟩ := ctl_some hm
      refine W_mid (M := fun f' w' => ∃ s', (c50645 = .next s' ∨ c50645 = .brk s') ∧ (fun (_ : Unit) => ∃ (s50651 : PHeap) , PHeap.le s50262 s50651 ∧ St w0 s50651 (Res.arr (encInt .i64) 3 v49184 class49183 :: H) w' ∧ f' 0 = v49184 ∧ f' 5 = Value.int .i64 (k50184) ∧ f' 36 = Value.int .i64 (k50184)) s') ?_ ?_
      · refine W_block (W_forC (fun k' s' f' w' => (fun (_ : Unit) => ∃ (s50650 : PHeap) , PHeap.le s50262 s50650 ∧ St w0 s50650 (Res.arr (encInt .i64) 3 v49184 class49183 :: H) w' ∧ f' 0 = v49184 ∧ f' 5 = Value.int .i64 (k50184) ∧ f' 36 = Value.int .i64 (k50184) ∧ f' 37 = Value.int .i64 (k' : Int)) s') hB50646 ?_ ?_ ?_)
        · exact ⟨s50262, (PHeap.le_refl _), hS50264, p50265, p50267, rfl, rfl⟩
        · intro i50272 t50659 c50653 f50654 w50655 hi50660 hI50656 hm50657 hres50658
          obtain ⟨s50661, l50662, hS50663, p50664, p50665, p50666, x50667⟩ := hI50656
          refine W_seq ?_
          refine W_region ?_
          refine WL_step rfl rfl (Exec.lss rfl x50667 p50666 ?_)
          refine WL_nil (at_normal ?_)
          refine W_seq ?_
          refine W_true (congrArg Value.bool (decide_eq_true (by omega))) ?_
          refine W_skip (at_normal ?_)
          refine W_seq ?_
          refine W_block ?_
          refine W_seq ?_
          refine W_region ?_
          refine WL_step rfl rfl (Exec.move (v := Value.int .i64 ((i50272 : Int))) rfl x50667 ?_)
          refine WL_step rfl rfl (Exec.assign (v := Value.int .i64 ((i50272 : Int))) rfl rfl ?_)
          refine WL_nil (at_normal ?_)
          refine W_seq ?_
          refine W_region ?_
          refine WL_step rfl rfl (Exec.assign (v := Value.bool (false)) rfl rfl ?_)
          refine WL_nil (at_normal ?_)
          refine W_seq ?_
          refine W_seq ?_
          refine W_region ?_
          refine WL_step rfl rfl (Exec.move (v := v49184) rfl p50664 ?_)
          refine WL_step rfl rfl (Exec.len_arr (hS50663) S22 rfl rfl ?_)
          refine WL_step rfl rfl (Exec.move (v := Value.int .i64 (0)) rfl rfl ?_)
          refine WL_nil (at_normal ?_)
          obtain ⟨c50759, hB50760, hr50761, hn50762, hb50763⟩ := ctl_some hm50657
          refine W_mid (M := fun f' w' => ∃ s', (c50759 = .next s' ∨ c50759 = .brk s') ∧ (fun (in_50758 : Bool) => ∃ (s50765 : PHeap) , PHeap.le s50661 s50765 ∧ St w0 s50765 (Res.arr (encInt .i64) 3 v49184 class49183 :: H) w' ∧ f' 0 = v49184 ∧ f' 5 = Value.int .i64 (k50184) ∧ f' 8 = Value.int .i64 ((i50272 : Int)) ∧ f' 9 = Value.bool (in_50758) ∧ f' 36 = Value.int .i64 (k50184) ∧ f' 37 = Value.int .i64 ((i50272 : Int)) ∧ f' 40 = v49184 ∧ f' 41 = Value.int .i64 ((class49183.length : Int))) s') ?_ ?_
          · refine W_block (W_forC (fun k' s' f' w' => (fun (in_50685 : Bool) => ∃ (s50764 : PHeap) , PHeap.le s50661 s50764 ∧ St w0 s50764 (Res.arr (encInt .i64) 3 v49184 class49183 :: H) w' ∧ f' 0 = v49184 ∧ f' 5 = Value.int .i64 (k50184) ∧ f' 8 = Value.int .i64 ((i50272 : Int)) ∧ f' 9 = Value.bool (in_50685) ∧ f' 36 = Value.int .i64 (k50184) ∧ f' 37 = Value.int .i64 ((i50272 : Int)) ∧ f' 40 = v49184 ∧ f' 41 = Value.int .i64 ((class49183.length : Int)) ∧ f' 42 = Value.int .i64 (k' : Int)) s') hB50760 ?_ ?_ ?_)
            · exact ⟨s50661, (PHeap.le_refl _), hS50663, p50664, p50665, rfl, rfl, p50666, x50667, rfl, rfl, rfl⟩
            · intro i50668 in_50685 c50767 f50768 w50769 hi50773 hI50770 hm50771 hres50772
              obtain ⟨s50774, l50775, hS50776, p50777, p50778, p50779, p50780, p50781, p50782, p50783, p50784, x50785⟩ := hI50770
              refine W_seq ?_
              refine W_region ?_
              refine WL_step rfl rfl (Exec.lss rfl x50785 p50784 ?_)
              refine WL_nil (at_normal ?_)
              refine W_seq ?_
              refine W_true (congrArg Value.bool (decide_eq_true (by omega))) ?_
              refine W_skip (at_normal ?_)
              refine W_seq ?_
              refine W_block ?_
              refine W_seq ?_
              refine W_region ?_
              obtain ⟨x50793, q50794, hm50771⟩ := bind_some hm50771
              obtain ⟨g50795, c50796, e50797⟩ := (hS50776).arr_at q50794
              refine WL_step rfl rfl (Exec.index_slice S22 rfl (Eq.trans p50783 e50797) x50785 (idx_some q50794).1 (idx_some q50794).2.1 ?_)
              refine WL_step rfl rfl (Exec.load_arr (F := (encInt .i64)) (hS50776) e50797 A3 rfl rfl rfl q50794 (Sub.refl _) ?_)
              intro v50798 q50799
              obtain rfl := encInt_val.1 q50799
              refine WL_step rfl rfl (Exec.assign (v := Value.int .i64 (x50793)) rfl rfl ?_)
              refine WL_nil (at_normal ?_)
              refine W_seq ?_
              refine W_mid (M := fun f' w' => ∃ (s50801 : PHeap) , PHeap.le s50774 s50801 ∧ St w0 s50801 (Res.arr (encInt .i64) 3 v49184 class49183 :: H) w' ∧ f' 0 = v49184 ∧ f' 5 = Value.int .i64 (k50184) ∧ f' 8 = Value.int .i64 ((i50272 : Int)) ∧ f' 9 = Value.bool ((in_50685 || decide (x50793 = (i50272 : Int)))) ∧ f' 11 = Value.int .i64 (x50793) ∧ f' 36 = Value.int .i64 (k50184) ∧ f' 37 = Value.int .i64 ((i50272 : Int)) ∧ f' 40 = v49184 ∧ f' 41 = Value.int .i64 ((class49183.length : Int)) ∧ f' 42 = Value.int .i64 ((i50668 : Int))) ?_ ?_
              · refine W_region ?_
                refine WL_step rfl rfl (Exec.move (v := Value.bool (in_50685)) rfl p50780 ?_)
                refine WL_step rfl rfl (Exec.move (v := Value.bool (in_50685)) rfl rfl ?_)
                by_cases hc50802 : in_50685 = true
                · refine WL_pass rfl (yield_of rfl (congrArg Value.bool hc50802)) rfl rfl ?_
                  refine WL_pass rfl (yield_of rfl (congrArg Value.bool hc50802)) rfl rfl ?_
                  refine WL_pass rfl (yield_of rfl (congrArg Value.bool hc50802)) rfl rfl ?_
                  refine WL_step rfl rfl (Exec.pick_t (v := Value.bool (true)) rfl (congrArg Value.bool hc50802) rfl ?_)
                  refine WL_step rfl rfl (Exec.assign (v := Value.bool (true)) rfl rfl ?_)
                  refine WL_nil (at_normal ?_)
                  exact ⟨s50774, (PHeap.le_refl _), hS50776, p50777, p50778, p50779, (congrArg Value.bool (or_t hc50802)).symm, rfl, p50781, p50782, p50783, p50784, x50785⟩
                · replace hc50802 := not_true hc50802
                  refine WL_run rfl (yield_of rfl (congrArg Value.bool hc50802)) rfl (Exec.move (v := Value.int .i64 (x50793)) rfl rfl ?_)
                  refine WL_run rfl (yield_of rfl (congrArg Value.bool hc50802)) rfl (Exec.move (v := Value.int .i64 ((i50272 : Int))) rfl p50779 ?_)
                  refine WL_run rfl (yield_of rfl (congrArg Value.bool hc50802)) rfl (Exec.eql rfl rfl rfl ?_)
                  refine WL_step rfl rfl (Exec.pick_f (v := Value.bool (decide (x50793 = (i50272 : Int)))) rfl (congrArg Value.bool hc50802) rfl ?_)
                  refine WL_step rfl rfl (Exec.assign (v := Value.bool (decide (x50793 = (i50272 : Int)))) rfl rfl ?_)
                  refine WL_nil (at_normal ?_)
                  exact ⟨s50774, (PHeap.le_refl _), hS50776, p50777, p50778, p50779, (congrArg Value.bool (or_f hc50802)).symm, rfl, p50781, p50782, p50783, p50784, x50785⟩
              · intro f50803 w50804 hM50805
                obtain ⟨s50806, l50807, hS50808, p50809, p50810, p50811, p50812, p50813, p50814, p50815, p50816, p50817, p50818⟩ := hM50805
                refine (at_normal ?_)
                refine W_seq ?_
                refine W_region ?_
                refine WL_step rfl rfl (Exec.move (v := Value.int .i64 (x50793)) rfl p50813 ?_)
                refine WL_step rfl rfl (Exec.lss rfl rfl rfl ?_)
                refine WL_nil (at_normal ?_)
                rcases ite_some hm50771 with ⟨hc50819, hm50771⟩ | ⟨hc50819, hm50771⟩
                · refine W_cond_t rfl hc50819 ?_
                  refine W_seq ?_
                  refine W_region ?_
                  refine WL_step rfl rfl (Exec.assign (v := Value.int .i64 ((-1))) rfl rfl ?_)
                  refine WL_nil (at_normal ?_)
                  refine W_ret (ib_ret (at_ret (at_ret (ib_ret (at_ret (at_ret (ib_ret (at_ret (at_ret (ib_ret (at_ret (at_ret ?_))))))))))))
                  have e50820 := Option.some.inj hm50771
                  subst c50767
                  have hq50821 := hr50761 _ (hres50772 (by intro _ h; cases h))
                  have e50822 := Option.some.inj hq50821
                  subst c50653
                  have hq50823 := hr50647 _ (hres50658 (by intro _ h; cases h))
                  have e50824 := Option.some.inj hq50823
                  subst r
                  refine ⟨_, ret1 rfl, ?_⟩
                  exact ⟨s50806, (PHeap.le.trans (PHeap.le.trans (PHeap.le.trans l50263 l50662) l50775) l50807), hS50808, rfl⟩
                · refine W_cond_f rfl hc50819 ?_
                  replace hc50819 := not_true hc50819
                  refine W_skip (ib_normal (at_normal ?_))
                  refine W_region ?_
                  refine WL_step rfl rfl (Exec.add rfl p50818 rfl ?_)
                  refine WL_step rfl rfl (Exec.move (v := Value.int .i64 (IntKind.i64.wrap ((i50668 : Int) + 1))) rfl rfl ?_)
                  refine WL_nil (at_normal ?_)
                  have e50825 := Option.some.inj hm50771
                  subst c50767
                  refine ⟨_, rfl, ?_⟩; exact ⟨s50806, (PHeap.le.trans l50775 l50807), hS50808, p50809, p50810, p50811, p50812, p50814, p50815, p50816, p50817, (Eq.trans rfl (wrap_up hi50773 (hS50663).arr_le))⟩
            · intro in_50685 f50826 w50827 hI50828 hres50829
              obtain ⟨s50830, l50831, hS50832, p50833, p50834, p50835, p50836, p50837, p50838, p50839, p50840, x50841⟩ := hI50828
              refine W_seq ?_
              refine W_region ?_
              refine WL_step rfl rfl (Exec.lss rfl x50841 p50840 ?_)
              refine WL_nil (at_normal ?_)
              refine W_seq ?_
              refine W_false (congrArg Value.bool (decide_eq_false (by omega))) ?_
              refine W_exit (at_exit (at_exit (ib_here (at_normal ?_))))
              refine ⟨_, .inl hres50829, ?_⟩; exact ⟨s50830, l50831, hS50832, p50833, p50834, p50835, p50836, p50837, p50838, p50839, p50840⟩
          · rintro f50842 w50843 ⟨in_50758, hc50844, hM50845⟩
            have hm50657 := hc50844.elim (hn50762 _) (hb50763 _)
            clear hc50844
            obtain ⟨s50846, l50847, hS50848, p50849, p50850, p50851, p50852, p50853, p50854, p50855, p50856⟩ := hM50845
            refine (at_normal ?_)
            refine W_seq ?_
            refine W_region ?_
            refine WL_step rfl rfl (Exec.move (v := Value.bool (in_50758)) rfl p50852 ?_)
            refine WL_step rfl rfl (Exec.not rfl rfl ?_)
            refine WL_nil (at_normal ?_)
            rcases ite_some hm50657 with ⟨hc50857, hm50657⟩ | ⟨hc50857, hm50657⟩
            · refine W_cond_t rfl hc50857 ?_
              refine W_seq ?_
              refine W_region ?_
              refine WL_step rfl rfl (Exec.assign (v := Value.int .i64 ((-1))) rfl rfl ?_)
              refine WL_nil (at_normal ?_)
              refine W_ret (ib_ret (at_ret (at_ret (ib_ret (at_ret (at_ret ?_))))))
              have e50858 := Option.some.inj hm50657
              subst c50653
              have hq50859 := hr50647 _ (hres50658 (by intro _ h; cases h))
              have e50860 := Option.some.inj hq50859
              subst r
              refine ⟨_, ret1 rfl, ?_⟩
              exact ⟨s50846, (PHeap.le.trans (PHeap.le.trans l50263 l50662) l50847), hS50848, rfl⟩
            · refine W_cond_f rfl hc50857 ?_
              replace hc50857 := not_true hc50857
              refine W_skip (ib_normal (at_normal ?_))
              refine W_region ?_
              refine WL_step rfl rfl (Exec.add rfl p50854 rfl ?_)
              refine WL_step rfl rfl (Exec.move (v := Value.int .i64 (IntKind.i64.wrap ((i50272 : Int) + 1))) rfl rfl ?_)
              refine WL_nil (at_normal ?_)
              have e50861 := Option.some.inj hm50657
              subst c50653
              refine ⟨_, rfl, ?_⟩; exact ⟨s50846, (PHeap.le.trans l50662 l50847), hS50848, p50849, p50850, p50853, (Eq.trans rfl (wrap_up hi50660 (by have h := must_some q50271; simp at h; simp only [maxLen]; omega)))⟩
        · intro t50862 f50863 w50864 hI50865 hres50866
          obtain ⟨s50867, l50868, hS50869, p50870, p50871, p50872, x50873⟩ := hI50865
          refine W_seq ?_
          refine W_region ?_
          refine WL_step rfl rfl (Exec.lss rfl x50873 p50872 ?_)
          refine WL_nil (at_normal ?_)
          refine W_seq ?_
          refine W_false (congrArg Value.bool (decide_eq_false (by omega))) ?_
          refine W_exit (at_exit (at_exit (ib_here (at_normal ?_))))
          refine ⟨_, .inl hres50866, ?_⟩; exact ⟨s50867, l50868, hS50869, p50870, p50871, p50872⟩
      · rintro f50874 w50875 ⟨t50876, hc50877, hM50878⟩
        have hm := hc50877.elim (hn50648 _) (hb50649 _)
        clear hc50877
        obtain ⟨s50879, l50880, hS50881, p50882, p50883, p50884⟩ := hM50878
        refine (at_normal ?_)
        refine W_seq ?_
        refine W_seq ?_
        refine W_region ?_
        refine WL_step rfl rfl (Exec.move (v := v49184) rfl p50882 ?_)
        refine WL_step rfl rfl (Exec.len_arr (hS50881) S22 rfl rfl ?_)
        refine WL_step rfl rfl (Exec.move (v := Value.int .i64 (0)) rfl rfl ?_)
        refine WL_nil (at_normal ?_)
        obtain ⟨c50918, hB50919, hr50920, hn50921, hb50922⟩ := ctl_some hm
        refine W_mid (M := fun f' w' => ∃ s', (c50918 = .next s' ∨ c50918 = .brk s') ∧ (fun (_ : Unit) => ∃ (s50924 : PHeap) , PHeap.le s50879 s50924 ∧ St w0 s50924 (Res.arr (encInt .i64) 3 v49184 class49183 :: H) w' ∧ f' 5 = Value.int .i64 (k50184) ∧ f' 58 = v49184 ∧ f' 59 = Value.int .i64 ((class49183.length : Int))) s') ?_ ?_
        · refine W_block (W_forC (fun k' s' f' w' => (fun (_ : Unit) => ∃ (s50923 : PHeap) , PHeap.le s50879 s50923 ∧ St w0 s50923 (Res.arr (encInt .i64) 3 v49184 class49183 :: H) w' ∧ f' 5 = Value.int .i64 (k50184) ∧ f' 58 = v49184 ∧ f' 59 = Value.int .i64 ((class49183.length : Int)) ∧ f' 60 = Value.int .i64 (k' : Int)) s') hB50919 ?_ ?_ ?_)
          · exact ⟨s50879, (PHeap.le_refl _), hS50881, p50883, rfl, rfl, rfl⟩
          · intro i50885 t50932 c50926 f50927 w50928 hi50933 hI50929 hm50930 hres50931
            obtain ⟨s50934, l50935, hS50936, p50937, p50938, p50939, x50940⟩ := hI50929
            refine W_seq ?_
            refine W_region ?_
            refine WL_step rfl rfl (Exec.lss rfl x50940 p50939 ?_)
            refine WL_nil (at_normal ?_)
            refine W_seq ?_
            refine W_true (congrArg Value.bool (decide_eq_true (by omega))) ?_
            refine W_skip (at_normal ?_)
            refine W_seq ?_
            refine W_block ?_
            refine W_seq ?_
            refine W_region ?_
            obtain ⟨x50948, q50949, hm50930⟩ := bind_some hm50930
            obtain ⟨g50950, c50951, e50952⟩ := (hS50936).arr_at q50949
            refine WL_step rfl rfl (Exec.index_slice S22 rfl (Eq.trans p50938 e50952) x50940 (idx_some q50949).1 (idx_some q50949).2.1 ?_)
            refine WL_step rfl rfl (Exec.load_arr (F := (encInt .i64)) (hS50936) e50952 A3 rfl rfl rfl q50949 (Sub.refl _) ?_)
            intro v50953 q50954
            obtain rfl := encInt_val.1 q50954
            refine WL_step rfl rfl (Exec.assign (v := Value.int .i64 (x50948)) rfl rfl ?_)
            refine WL_nil (at_normal ?_)
            refine W_seq ?_
            refine W_region ?_
            refine WL_step rfl rfl (Exec.move (v := Value.int .i64 (x50948)) rfl rfl ?_)
            refine WL_step rfl rfl (Exec.lss rfl rfl rfl ?_)
            refine WL_nil (at_normal ?_)
            rcases ite_some hm50930 with ⟨hc50955, hm50930⟩ | ⟨hc50955, hm50930⟩
            · refine W_cond_t rfl hc50955 ?_
              refine W_seq ?_
              refine W_region ?_
              refine WL_step rfl rfl (Exec.assign (v := Value.int .i64 ((-1))) rfl rfl ?_)
              refine WL_nil (at_normal ?_)
              refine W_ret (ib_ret (at_ret (at_ret (ib_ret (at_ret (at_ret ?_))))))
              have e50956 := Option.some.inj hm50930
              subst c50926
              have hq50957 := hr50920 _ (hres50931 (by intro _ h; cases h))
              have e50958 := Option.some.inj hq50957
              subst r
              refine ⟨_, ret1 rfl, ?_⟩
              exact ⟨s50934, (PHeap.le.trans (PHeap.le.trans l50263 l50880) l50935), hS50936, rfl⟩
            · refine W_cond_f rfl hc50955 ?_
              replace hc50955 := not_true hc50955
              refine W_skip (ib_normal (at_normal ?_))
              refine W_region ?_
              refine WL_step rfl rfl (Exec.add rfl x50940 rfl ?_)
              refine WL_step rfl rfl (Exec.move (v := Value.int .i64 (IntKind.i64.wrap ((i50885 : Int) + 1))) rfl rfl ?_)
              refine WL_nil (at_normal ?_)
              have e50959 := Option.some.inj hm50930
              subst c50926
              refine ⟨_, rfl, ?_⟩; exact ⟨s50934, l50935, hS50936, p50937, p50938, p50939, (Eq.trans rfl (wrap_up hi50933 (hS50881).arr_le))⟩
          · intro t50960 f50961 w50962 hI50963 hres50964
            obtain ⟨s50965, l50966, hS50967, p50968, p50969, p50970, x50971⟩ := hI50963
            refine W_seq ?_
            refine W_region ?_
            refine WL_step rfl rfl (Exec.lss rfl x50971 p50970 ?_)
            refine WL_nil (at_normal ?_)
            refine W_seq ?_
            refine W_false (congrArg Value.bool (decide_eq_false (by omega))) ?_
            refine W_exit (at_exit (at_exit (ib_here (at_normal ?_))))
            refine ⟨_, .inl hres50964, ?_⟩; exact ⟨s50965, l50966, hS50967, p50968, p50969, p50970⟩
        · rintro f50972 w50973 ⟨t50974, hc50975, hM50976⟩
          have hm := hc50975.elim (hn50921 _) (hb50922 _)
          clear hc50975
          obtain ⟨s50977, l50978, hS50979, p50980, p50981, p50982⟩ := hM50976
          refine (at_normal ?_)
          refine W_seq ?_
          refine W_region ?_
          refine WL_step rfl rfl (Exec.move (v := Value.int .i64 (k50184)) rfl p50980 ?_)
          refine WL_step rfl rfl (Exec.assign (v := Value.int .i64 (k50184)) rfl rfl ?_)
          refine WL_nil (at_normal ?_)
          refine W_ret ?_
          have e50984 := Option.some.inj hm
          subst r
          refine ⟨_, ret1 rfl, ?_⟩
          exact ⟨s50977, (PHeap.le.trans (PHeap.le.trans l50263 l50880) l50978), hS50979, rfl⟩

theorem N37 : (Tryd.f37.name == "runtime.NumGoroutine") = false := by kernel_rfl

theorem base_Clip_sim {w0 w : World} {s : PHeap} {H : List Res} {n51000 : Int} {lo51001 : Int} {hi51002 : Int}  {r : Int} (hm : base_Clip_p n51000 lo51001 hi51002 = some r) (hS : St w0 s (H) w)  :
    Calls Tryd.prog 37 #[Value.int .i64 (n51000), Value.int .i64 (lo51001), Value.int .i64 (hi51002)] w fun e w' => ∃ v, e = .returned v ∧ ((fun (y51004 : Int) => ∃ (s51005 : PHeap) , PHeap.le s s51005 ∧ St w0 s51005 (H) w' ∧ v = Value.int .i64 (y51004)) r) := by
  unfold base_Clip_p at hm
  refine calls_of_W Tryd.func37 rfl rfl ?_
  refine W_seq ?_
  refine W_region ?_
  refine WL_step rfl rfl (Exec.assign (v := Value.int .i64 (0)) rfl rfl ?_)
  refine WL_nil (at_normal ?_)
  refine W_seq ?_
  refine W_region ?_
  refine WL_step rfl rfl (Exec.move (v := Value.int .i64 (lo51001)) rfl rfl ?_)
  refine WL_step rfl rfl (Exec.move (v := Value.int .i64 (n51000)) rfl rfl ?_)
  refine WL_step rfl rfl (Exec.move (v := Value.int .i64 (hi51002)) rfl rfl ?_)
  refine WL_step rfl rfl (Exec.min2 rfl rfl rfl ?_)
  refine WL_step rfl rfl (Exec.max2 rfl rfl rfl ?_)
  refine WL_step rfl rfl (Exec.assign (v := Value.int .i64 (max lo51001 (min n51000 hi51002))) rfl rfl ?_)
  refine WL_nil (at_normal ?_)
  refine W_ret ?_
  have e51007 := Option.some.inj hm
  subst r
  refine ⟨_, ret1 rfl, ?_⟩
  exact ⟨s, (PHeap.le_refl _), hS, rfl⟩

theorem N38 : (Tryd.f38.name == "runtime.NumGoroutine") = false := by kernel_rfl

theorem ref45_goal_o_sim {w0 w : World} {s : PHeap} {H : List Res} {x51026 : System} {class51033 : (List Int)} {c51035 : Int} {v51027 : Value} {v51029 : Value} {v51031 : Value} {v51034 : Value} {r : Bool} (hm : ref45_goal_o_p x51026 class51033 c51035 = some r) (hS : St w0 s (Res.arr (encInt .i64) 3 v51034 class51033 :: H) w) (a51028 : SliceRep (encInt .i64) s v51027 x51026.Costs) (a51030 : SliceRep encEdge s v51029 x51026.Edges) (a51032 : SliceRep encBool s v51031 x51026.Goals) :
    Calls Tryd.prog 38 #[Value.agg #[Value.int .i64 (x51026.States), Value.int .i64 (x51026.Init), v51027, v51029, v51031], v51034, Value.int .i64 (c51035)] w fun e w' => ∃ v, e = .returned v ∧ ((fun (y51257 : Bool) => ∃ (s51258 : PHeap) , PHeap.le s s51258 ∧ St w0 s51258 (Res.arr (encInt .i64) 3 v51034 class51033 :: H) w' ∧ v = Value.bool (y51257)) r) := by
  unfold ref45_goal_o_p at hm
  refine calls_of_W Tryd.func38 rfl rfl ?_
  refine W_seq ?_
  refine W_region ?_
  refine WL_step rfl rfl (Exec.box (cs := [Value.int .i64 (x51026.States), Value.int .i64 (x51026.Init), v51027, v51029, v51031]) hS rfl rfl rfl ?_)
  intro b51262 w51263 hS51264
  refine WL_step rfl rfl (Exec.assign (v := Value.bool (false)) rfl rfl ?_)
  refine WL_nil (at_normal ?_)
  refine W_seq ?_
  refine W_seq ?_
  refine W_region ?_
  refine WL_step rfl rfl (Exec.move (v := v51034) rfl rfl ?_)
  refine WL_step rfl rfl (Exec.len_arr ((hS51264).f1) S22 rfl rfl ?_)
  refine WL_step rfl rfl (Exec.move (v := Value.int .i64 (0)) rfl rfl ?_)
  refine WL_nil (at_normal ?_)
  obtain ⟨c51372, hB51373, hr51374, hn51375, hb51376⟩ := ctl_some hm
  refine W_mid (M := fun f' w' => ∃ s', (c51372 = .next s' ∨ c51372 = .brk s') ∧ (fun (_ : Unit) => ∃ (s51378 : PHeap) , PHeap.le s s51378 ∧ St w0 s51378 (Res.arr (encInt .i64) 3 v51034 class51033 :: Res.box b51262 26 [Value.int .i64 (x51026.States), Value.int .i64 (x51026.Init), v51027, v51029, v51031] :: H) w' ∧ f' 1 = v51034 ∧ f' 2 = Value.int .i64 (c51035) ∧ f' 3 = Value.pointer (some ⟨b51262, 0, none⟩) ∧ f' 9 = Value.int .i64 ((class51033.length : Int))) s') ?_ ?_
  · refine W_block (W_forC (fun k' s' f' w' => (fun (_ : Unit) => ∃ (s51377 : PHeap) , PHeap.le s s51377 ∧ St w0 s51377 (Res.arr (encInt .i64) 3 v51034 class51033 :: Res.box b51262 26 [Value.int .i64 (x51026.States), Value.int .i64 (x51026.Init), v51027, v51029, v51031] :: H) w' ∧ f' 1 = v51034 ∧ f' 2 = Value.int .i64 (c51035) ∧ f' 3 = Value.pointer (some ⟨b51262, 0, none⟩) ∧ f' 9 = Value.int .i64 ((class51033.length : Int)) ∧ f' 10 = Value.int .i64 (k' : Int)) s') hB51373 ?_ ?_ ?_)
    · have hS51379 := (hS51264).f1
      exact ⟨s, (PHeap.le_refl _), hS51379, rfl, rfl, rfl, rfl, rfl⟩
    · intro i51265 t51387 c51381 f51382 w51383 hi51388 hI51384 hm51385 hres51386
      obtain ⟨s51389, l51390, hS51391, p51392, p51393, p51394, p51395, x51396⟩ := hI51384
      refine W_seq ?_
      refine W_region ?_
      refine WL_step rfl rfl (Exec.lss rfl x51396 p51395 ?_)
      refine WL_nil (at_normal ?_)
      refine W_seq ?_
      refine W_true (congrArg Value.bool (decide_eq_true (by omega))) ?_
      refine W_skip (at_normal ?_)
      refine W_seq ?_
      refine W_block ?_
      refine W_seq ?_
      refine W_region ?_
      refine WL_step rfl rfl (Exec.move (v := Value.int .i64 ((i51265 : Int))) rfl x51396 ?_)
      refine WL_step rfl rfl (Exec.assign (v := Value.int .i64 ((i51265 : Int))) rfl rfl ?_)
      refine WL_nil (at_normal ?_)
      refine W_seq ?_
      obtain ⟨z51412, ht51413, hm51385⟩ := bind_some hm51385
      refine W_mid (M := fun f' w' => (fun (z51412 : Bool) => ∃ (s51414 : PHeap) , PHeap.le s51389 s51414 ∧ St w0 s51414 (Res.arr (encInt .i64) 3 v51034 class51033 :: Res.box b51262 26 [Value.int .i64 (x51026.States), Value.int .i64 (x51026.Init), v51027, v51029, v51031] :: H) w' ∧ f' 1 = v51034 ∧ f' 2 = Value.int .i64 (c51035) ∧ f' 3 = Value.pointer (some ⟨b51262, 0, none⟩) ∧ f' 9 = Value.int .i64 ((class51033.length : Int)) ∧ f' 10 = Value.int .i64 ((i51265 : Int)) ∧ f' 25 = Value.bool (z51412)) z51412) ?_ ?_
      · refine W_region ?_
        refine WL_step rfl rfl (Exec.move (v := v51034) rfl p51392 ?_)
        refine WL_step rfl rfl (Exec.move (v := Value.int .i64 ((i51265 : Int))) rfl rfl ?_)
        obtain ⟨x51415, q51416, ht51413⟩ := bind_some ht51413
        obtain ⟨g51417, c51418, e51419⟩ := (hS51391).arr_at q51416
        refine WL_step rfl rfl (Exec.index_slice S22 rfl e51419 rfl (idx_some q51416).1 (idx_some q51416).2.1 ?_)
        refine WL_step rfl rfl (Exec.load_arr (F := (encInt .i64)) (hS51391) e51419 A3 rfl rfl rfl q51416 (Sub.refl _) ?_)
        intro v51420 q51421
        obtain rfl := encInt_val.1 q51421
        refine WL_step rfl rfl (Exec.move (v := Value.int .i64 (c51035)) rfl p51393 ?_)
        refine WL_step rfl rfl (Exec.eql rfl rfl rfl ?_)
        refine WL_step rfl rfl (Exec.move (v := Value.bool (decide (x51415 = c51035))) rfl rfl ?_)
        rcases ite_some ht51413 with ⟨hc51422, ht51413⟩ | ⟨hc51422, ht51413⟩
        · refine WL_run rfl (yield_of rfl (congrArg Value.bool hc51422)) rfl (Exec.field F26_4 rfl p51394 rfl ?_)
          refine WL_run rfl (yield_of rfl (congrArg Value.bool hc51422)) rfl (Exec.load_box ((hS51391).f1) A24 rfl rfl rfl ?_)
          refine WL_run rfl (yield_of rfl (congrArg Value.bool hc51422)) rfl (Exec.move (v := Value.int .i64 ((i51265 : Int))) rfl rfl ?_)
          obtain ⟨x51423, q51424, ht51413⟩ := bind_some ht51413
          refine WL_run rfl (yield_of rfl (congrArg Value.bool hc51422)) rfl (Exec.index_rep S24 rfl rfl rfl (a51032.mono l51390) q51424 ?_)
          intro b51425 o51426 a51427
          refine WL_run rfl (yield_of rfl (congrArg Value.bool hc51422)) rfl (Exec.load_at (E := encBool) hS51391 A4 rfl rfl rfl a51427 ?_)
          intro v51428 q51429
          obtain rfl := encBool_val.1 q51429
          refine WL_step rfl rfl (Exec.pick_t (v := Value.bool (x51423)) rfl (congrArg Value.bool hc51422) rfl ?_)
          refine WL_nil (at_normal ?_)
          have e51430 := Option.some.inj ht51413
          subst z51412
          have hS51431 := (hS51391).f1
          have hS51432 := (hS51431).f1
          exact ⟨s51389, (PHeap.le_refl _), hS51432, p51392, p51393, p51394, p51395, x51396, rfl⟩
        · replace hc51422 := not_true hc51422
          refine WL_pass rfl (yield_of rfl (congrArg Value.bool hc51422)) rfl rfl ?_
          refine WL_pass rfl (yield_of rfl (congrArg Value.bool hc51422)) rfl rfl ?_
          refine WL_pass rfl (yield_of rfl (congrArg Value.bool hc51422)) rfl rfl ?_
          refine WL_pass rfl (yield_of rfl (congrArg Value.bool hc51422)) rfl rfl ?_
          refine WL_pass rfl (yield_of rfl (congrArg Value.bool hc51422)) rfl rfl ?_
          refine WL_step rfl rfl (Exec.pick_f (v := Value.bool (false)) rfl (congrArg Value.bool hc51422) rfl ?_)
          refine WL_nil (at_normal ?_)
          have e51433 := Option.some.inj ht51413
          subst z51412
          have hS51434 := (hS51391).f1
          have hS51435 := (hS51434).f1
          exact ⟨s51389, (PHeap.le_refl _), hS51435, p51392, p51393, p51394, p51395, x51396, rfl⟩
      · intro f51436 w51437 hM51438
        obtain ⟨s51439, l51440, hS51441, p51442, p51443, p51444, p51445, p51446, p51447⟩ := hM51438
        refine (at_normal ?_)
        rcases ite_some hm51385 with ⟨hc51448, hm51385⟩ | ⟨hc51448, hm51385⟩
        · refine W_cond_t p51447 hc51448 ?_
          refine W_seq ?_
          refine W_region ?_
          refine WL_step rfl rfl (Exec.assign (v := Value.bool (true)) rfl rfl ?_)
          refine WL_nil (at_normal ?_)
          refine W_ret (ib_ret (at_ret (at_ret (ib_ret (at_ret (at_ret ?_))))))
          have e51449 := Option.some.inj hm51385
          subst c51381
          have hq51450 := hr51374 _ (hres51386 (by intro _ h; cases h))
          have e51451 := Option.some.inj hq51450
          subst r
          refine ⟨_, ret1 rfl, ?_⟩
          have hS51452 := ((hS51441).f1).drop
          exact ⟨s51439, (PHeap.le.trans l51390 l51440), hS51452, rfl⟩
        · refine W_cond_f p51447 hc51448 ?_
          replace hc51448 := not_true hc51448
          refine W_skip (ib_normal (at_normal ?_))
          refine W_region ?_
          refine WL_step rfl rfl (Exec.add rfl p51446 rfl ?_)
          refine WL_step rfl rfl (Exec.move (v := Value.int .i64 (IntKind.i64.wrap ((i51265 : Int) + 1))) rfl rfl ?_)
          refine WL_nil (at_normal ?_)
          have e51453 := Option.some.inj hm51385
          subst c51381
          have hS51454 := (hS51441).f1
          have hS51455 := (hS51454).f1
          refine ⟨_, rfl, ?_⟩; exact ⟨s51439, (PHeap.le.trans l51390 l51440), hS51455, p51442, p51443, p51444, p51445, (Eq.trans rfl (wrap_up hi51388 ((hS51264).f1).arr_le))⟩
    · intro t51456 f51457 w51458 hI51459 hres51460
      obtain ⟨s51461, l51462, hS51463, p51464, p51465, p51466, p51467, x51468⟩ := hI51459
      refine W_seq ?_
      refine W_region ?_
      refine WL_step rfl rfl (Exec.lss rfl x51468 p51467 ?_)
      refine WL_nil (at_normal ?_)
      refine W_seq ?_
      refine W_false (congrArg Value.bool (decide_eq_false (by omega))) ?_
      refine W_exit (at_exit (at_exit (ib_here (at_normal ?_))))
      have hS51469 := (hS51463).f1
      have hS51470 := (hS51469).f1
      refine ⟨_, .inl hres51460, ?_⟩; exact ⟨s51461, l51462, hS51470, p51464, p51465, p51466, p51467⟩
  · rintro f51471 w51472 ⟨t51473, hc51474, hM51475⟩
    have hm := hc51474.elim (hn51375 _) (hb51376 _)
    clear hc51474
    obtain ⟨s51476, l51477, hS51478, p51479, p51480, p51481, p51482⟩ := hM51475
    refine (at_normal ?_)
    refine W_seq ?_
    refine W_region ?_
    refine WL_step rfl rfl (Exec.assign (v := Value.bool (false)) rfl rfl ?_)
    refine WL_nil (at_normal ?_)
    refine W_ret ?_
    have e51484 := Option.some.inj hm
    subst r
    refine ⟨_, ret1 rfl, ?_⟩
    have hS51485 := ((hS51478).f1).drop
    exact ⟨s51476, l51477, hS51485, rfl⟩

theorem N18 : (Tryd.f18.name == "runtime.NumGoroutine") = false := by kernel_rfl

theorem ref45_Merge_sim {w0 w : World} {s : PHeap} {H : List Res} {x23741 : System} {most23748 : Int} {v23742 : Value} {v23744 : Value} {v23746 : Value} {r : (List Int)} (hm : ref45_Merge_p x23741 most23748 = some r) (hS : St w0 s (H) w) (a23743 : SliceRep (encInt .i64) s v23742 x23741.Costs) (a23745 : SliceRep encEdge s v23744 x23741.Edges) (a23747 : SliceRep encBool s v23746 x23741.Goals) :
    Calls Tryd.prog 18 #[Value.agg #[Value.int .i64 (x23741.States), Value.int .i64 (x23741.Init), v23742, v23744, v23746], Value.int .i64 (most23748)] w fun e w' => ∃ v, e = .returned v ∧ ((fun (y58551 : (List Int)) => ∃ (s58553 : PHeap) (v58552 : Value), PHeap.le s s58553 ∧ St w0 s58553 (Res.arr (encInt .i64) 3 v58552 y58551 :: H) w' ∧ v = v58552) r) := by
  unfold ref45_Merge_p at hm
  refine calls_of_W Tryd.func18 rfl rfl ?_
  refine W_seq ?_
  refine W_region ?_
  refine WL_step rfl rfl (Exec.box (cs := [Value.int .i64 (x23741.States), Value.int .i64 (x23741.Init), v23742, v23744, v23746]) hS rfl rfl rfl ?_)
  intro b58557 w58558 hS58559
  refine WL_step rfl rfl (Exec.assign (v := Value.slice none 0 0) rfl rfl ?_)
  refine WL_nil (at_normal ?_)
  refine W_seq ?_
  refine W_region ?_
  refine WL_step rfl rfl (Exec.load_box_agg (ds := [Value.int .i64 (x23741.States), Value.int .i64 (x23741.Init), v23742, v23744, v23746]) (hS58559) A26 rfl rfl rfl ?_)
  obtain ⟨y58570, q58569, hm⟩ := bind_some hm
  refine WL_step rfl rfl (Exec.call rfl rfl Tryd.func16 rfl N16 (args_cons rfl args_nil) ((ref45_Bisimulation_sim q58569 hS58559 a23743 a23745 a23747).mono ?_))
  rintro _ w58571 ⟨v58575, rfl, ⟨s58572, _, l58573, hS58574, rfl⟩⟩
  refine ⟨_, rfl, ?_⟩
  refine WL_step rfl rfl (Exec.assign (v := v58575) rfl rfl ?_)
  refine WL_nil (at_normal ?_)
  refine W_seq ?_
  refine W_seq ?_
  refine W_region ?_
  refine WL_step rfl rfl (Exec.move (v := v58575) rfl rfl ?_)
  refine WL_step rfl rfl (Exec.field F26_0 rfl rfl rfl ?_)
  refine WL_step rfl rfl (Exec.load_box ((hS58574).f1) A3 rfl rfl rfl ?_)
  obtain ⟨y58585, q58584, hm⟩ := bind_some hm
  refine WL_step rfl rfl (Exec.call rfl rfl Tryd.func36 rfl N36 (args_cons rfl (args_cons rfl args_nil)) ((ref45_Many_o_sim q58584 hS58574 ).mono ?_))
  rintro _ w58586 ⟨_, rfl, ⟨s58587, l58588, hS58589, rfl⟩⟩
  refine ⟨_, rfl, ?_⟩
  refine WL_step rfl rfl (Exec.assign (v := Value.int .i64 (y58585)) rfl rfl ?_)
  refine WL_nil (at_normal ?_)
  obtain ⟨c63874, hB63875, hr63876, hn63877, hb63878⟩ := ctl_some hm
  refine W_mid (M := fun f' w' => ∃ s', (c63874 = .next s' ∨ c63874 = .brk s') ∧ (un2 fun (k63872 : Int) (l63873 : (List Int)) => ∃ (s63880 : PHeap) , PHeap.le s58587 s63880 ∧ St w0 s63880 (Res.box b58557 26 [Value.int .i64 (x23741.States), Value.int .i64 (x23741.Init), v23742, v23744, v23746] :: Res.arr (encInt .i64) 3 v58575 l63873 :: H) w' ∧ f' 1 = Value.int .i64 (most23748) ∧ f' 2 = Value.pointer (some ⟨b58557, 0, none⟩) ∧ f' 5 = v58575 ∧ f' 6 = Value.int .i64 (k63872)) s') ?_ ?_
  · refine W_block (W_while (fun s' f' w' => (un2 fun (k60349 : Int) (l60350 : (List Int)) => ∃ (s63879 : PHeap) , PHeap.le s58587 s63879 ∧ St w0 s63879 (Res.box b58557 26 [Value.int .i64 (x23741.States), Value.int .i64 (x23741.Init), v23742, v23744, v23746] :: Res.arr (encInt .i64) 3 v58575 l60350 :: H) w' ∧ f' 1 = Value.int .i64 (most23748) ∧ f' 2 = Value.pointer (some ⟨b58557, 0, none⟩) ∧ f' 5 = v58575 ∧ f' 6 = Value.int .i64 (k60349)) s') hB63875 ?_ ?_)
    · have hS63881 := (hS58589).f1
      exact ⟨s58587, (PHeap.le_refl _), hS63881, rfl, rfl, rfl, rfl⟩
    · intro t63889 c63883 f63884 w63885 hI63886 hm63887 hres63888
      obtain ⟨k60349, l60350⟩ := t63889
      replace hm63887 := un2_eq hm63887
      obtain ⟨s63890, l63891, hS63892, p63893, p63894, p63895, p63896⟩ := hI63886
      refine W_seq ?_
      refine W_seq ?_
      refine W_region ?_
      refine WL_step rfl rfl (Exec.move (v := Value.int .i64 (k60349)) rfl p63896 ?_)
      refine WL_step rfl rfl (Exec.move (v := Value.int .i64 (most23748)) rfl p63893 ?_)
      refine WL_step rfl rfl (Exec.call rfl rfl Tryd.func37 rfl N37 (args_cons rfl (args_cons rfl (args_cons rfl args_nil))) ((base_Clip_sim (base_Clip_tot most23748 1 4096) hS63892 ).mono ?_))
      rintro _ w63901 ⟨_, rfl, ⟨s63902, l63903, hS63904, rfl⟩⟩
      refine ⟨_, rfl, ?_⟩
      refine WL_step rfl rfl (Exec.gtr rfl rfl rfl ?_)
      refine WL_nil (at_normal ?_)
      rcases ite_some hm63887 with ⟨hc63905, hm63887⟩ | ⟨hc63905, hm63887⟩
      · refine W_cond_t rfl hc63905 ?_
        refine W_skip (at_normal ?_)
        refine W_seq ?_
        refine W_block ?_
        refine W_seq ?_
        refine W_region ?_
        refine WL_step rfl rfl (Exec.assign (v := Value.int .i64 (1)) rfl rfl ?_)
        refine WL_step rfl rfl (Exec.assign (v := Value.int .i64 (0)) rfl rfl ?_)
        refine WL_nil (at_normal ?_)
        refine W_seq ?_
        refine W_seq ?_
        refine W_region ?_
        refine WL_step rfl rfl (Exec.move (v := Value.int .i64 (k60349)) rfl p63896 ?_)
        refine WL_step rfl rfl (Exec.move (v := Value.int .i64 (0)) rfl rfl ?_)
        refine WL_nil (at_normal ?_)
        obtain ⟨u63906, q63907, hm63887⟩ := bind_some hm63887
        obtain ⟨t64573, hB64574, hm63887⟩ := bind_some hm63887
        refine W_block (W_forS (fun k' s' f' w' => (un2 fun (from_64239 : Int) (to64240 : Int) => ∃ (s64575 : PHeap) , PHeap.le s63902 s64575 ∧ St w0 s64575 (Res.box b58557 26 [Value.int .i64 (x23741.States), Value.int .i64 (x23741.Init), v23742, v23744, v23746] :: Res.arr (encInt .i64) 3 v58575 l60350 :: H) w' ∧ f' 1 = Value.int .i64 (most23748) ∧ f' 2 = Value.pointer (some ⟨b58557, 0, none⟩) ∧ f' 5 = v58575 ∧ f' 6 = Value.int .i64 (k60349) ∧ f' 7 = Value.int .i64 (from_64239) ∧ f' 8 = Value.int .i64 (to64240) ∧ f' 25 = Value.int .i64 (k60349) ∧ f' 26 = Value.int .i64 (k' : Int)) s') hB64574 ?_ ?_ ?_)
        · have hS64576 := (hS63904).f1
          have hS64577 := (hS64576).f1
          exact ⟨s63902, (PHeap.le_refl _), hS64577, p63893, p63894, p63895, p63896, rfl, rfl, rfl, rfl⟩
        · intro i63908 t64585 s64579 f64580 w64581 hi64582 hI64583 hm64584
          obtain ⟨from_64239, to64240⟩ := t64585
          replace hm64584 := un2_eq hm64584
          obtain ⟨s64586, l64587, hS64588, p64589, p64590, p64591, p64592, p64593, p64594, p64595, x64596⟩ := hI64583
          refine W_seq ?_
          refine W_region ?_
          refine WL_step rfl rfl (Exec.lss rfl x64596 p64595 ?_)
          refine WL_nil (at_normal ?_)
          refine W_seq ?_
          refine W_true (congrArg Value.bool (decide_eq_true (by omega))) ?_
          refine W_skip (at_normal ?_)
          refine W_seq ?_
          refine W_block ?_
          refine W_seq ?_
          refine W_region ?_
          refine WL_step rfl rfl (Exec.move (v := Value.int .i64 ((i63908 : Int))) rfl x64596 ?_)
          refine WL_step rfl rfl (Exec.assign (v := Value.int .i64 ((i63908 : Int))) rfl rfl ?_)
          refine WL_nil (at_normal ?_)
          refine W_seq ?_
          refine W_region ?_
          refine WL_step rfl rfl (Exec.move (v := Value.int .i64 ((i63908 : Int))) rfl rfl ?_)
          refine WL_step rfl rfl (Exec.move (v := Value.int .i64 (0)) rfl rfl ?_)
          refine WL_nil (at_normal ?_)
          obtain ⟨u64597, q64598, hm64584⟩ := bind_some hm64584
          obtain ⟨t64788, hB64789, hm64584⟩ := bind_some hm64584
          refine W_block (W_forS (fun k' s' f' w' => (un2 fun (from_64692 : Int) (to64693 : Int) => ∃ (s64790 : PHeap) , PHeap.le s64586 s64790 ∧ St w0 s64790 (Res.box b58557 26 [Value.int .i64 (x23741.States), Value.int .i64 (x23741.Init), v23742, v23744, v23746] :: Res.arr (encInt .i64) 3 v58575 l60350 :: H) w' ∧ f' 1 = Value.int .i64 (most23748) ∧ f' 2 = Value.pointer (some ⟨b58557, 0, none⟩) ∧ f' 5 = v58575 ∧ f' 6 = Value.int .i64 (k60349) ∧ f' 7 = Value.int .i64 (from_64692) ∧ f' 8 = Value.int .i64 (to64693) ∧ f' 9 = Value.int .i64 ((i63908 : Int)) ∧ f' 25 = Value.int .i64 (k60349) ∧ f' 26 = Value.int .i64 ((i63908 : Int)) ∧ f' 29 = Value.int .i64 ((i63908 : Int)) ∧ f' 30 = Value.int .i64 (k' : Int)) s') hB64789 ?_ ?_ ?_)
          · have hS64791 := (hS64588).f1
            have hS64792 := (hS64791).f1
            exact ⟨s64586, (PHeap.le_refl _), hS64792, p64589, p64590, p64591, p64592, p64593, p64594, rfl, p64595, x64596, rfl, rfl⟩
          · intro i64599 t64800 s64794 f64795 w64796 hi64797 hI64798 hm64799
            obtain ⟨from_64692, to64693⟩ := t64800
            replace hm64799 := un2_eq hm64799
            obtain ⟨s64801, l64802, hS64803, p64804, p64805, p64806, p64807, p64808, p64809, p64810, p64811, p64812, p64813, x64814⟩ := hI64798
            refine W_seq ?_
            refine W_region ?_
            refine WL_step rfl rfl (Exec.lss rfl x64814 p64813 ?_)
            refine WL_nil (at_normal ?_)
            refine W_seq ?_
            refine W_true (congrArg Value.bool (decide_eq_true (by omega))) ?_
            refine W_skip (at_normal ?_)
            refine W_seq ?_
            refine W_block ?_
            refine W_seq ?_
            refine W_region ?_
            refine WL_step rfl rfl (Exec.move (v := Value.int .i64 ((i64599 : Int))) rfl x64814 ?_)
            refine WL_step rfl rfl (Exec.assign (v := Value.int .i64 ((i64599 : Int))) rfl rfl ?_)
            refine WL_nil (at_normal ?_)
            refine W_seq ?_
            refine W_dl (n0 := 9) (.q 0 (.q 1 (.q 2 (.q 4 (.q 5 (.q 6 (.e 3 [4, 5, 6] (.e 7 [] (.q 8 .done))))))))) hmix (by kernel_rfl) (by kernel_rfl) ?_
            have hS64863 := hS64803.drew
            refine DL_q rfl rfl (Exec.load_box_agg (ds := [Value.int .i64 (x23741.States), Value.int .i64 (x23741.Init), v23742, v23744, v23746]) (hS64863) A26 rfl p64805 rfl ⟨rfl, ?_⟩)
            refine DL_q rfl rfl (Exec.move (v := v58575) rfl p64806 ⟨rfl, ?_⟩)
            refine DL_q rfl rfl (Exec.move (v := Value.int .i64 ((i64599 : Int))) rfl rfl ⟨rfl, ?_⟩)
            refine DL_q rfl rfl (Exec.load_box_agg (ds := [Value.int .i64 (x23741.States), Value.int .i64 (x23741.Init), v23742, v23744, v23746]) (hS64863) A26 rfl p64805 rfl ⟨rfl, ?_⟩)
            refine DL_q rfl rfl (Exec.move (v := v58575) rfl p64806 ⟨rfl, ?_⟩)
            refine DL_q rfl rfl (Exec.move (v := Value.int .i64 ((i63908 : Int))) rfl p64810 ⟨rfl, ?_⟩)
            obtain ⟨y64866, q64865, hm64799⟩ := bind_some hm64799
            have hS64867 := (hS64863).f1
            refine DL_e rfl rfl (Exec.call rfl rfl Tryd.func38 rfl N38 (args_cons rfl (args_cons rfl (args_cons rfl args_nil))) ((ref45_goal_o_sim q64865 hS64867 (a23743.mono (PHeap.le.trans (PHeap.le.trans (PHeap.le.trans (PHeap.le.trans (PHeap.le.trans l58573 l58588) l63891) l63903) l64587) l64802)) (a23745.mono (PHeap.le.trans (PHeap.le.trans (PHeap.le.trans (PHeap.le.trans (PHeap.le.trans l58573 l58588) l63891) l63903) l64587) l64802)) (a23747.mono (PHeap.le.trans (PHeap.le.trans (PHeap.le.trans (PHeap.le.trans (PHeap.le.trans l58573 l58588) l63891) l63903) l64587) l64802))).mono ?_))
            rintro _ w64868 ⟨_, rfl, ⟨s64869, l64870, hS64871, rfl⟩⟩
            refine ⟨_, rfl, ?_⟩
            refine ⟨(ag_cons (ag_r rfl rfl (Exec.load_box_agg (ds := [Value.int .i64 (x23741.States), Value.int .i64 (x23741.Init), v23742, v23744, v23746]) ((hS64871).f1) A26 rfl p64805 rfl ⟨rfl, rfl⟩)) (ag_cons (ag_r rfl rfl (Exec.move (v := v58575) rfl p64806 ⟨rfl, rfl⟩)) (ag_cons (ag_r rfl rfl (Exec.move (v := Value.int .i64 ((i63908 : Int))) rfl p64810 ⟨rfl, rfl⟩)) ag_nil))), ?_⟩
            obtain ⟨y64874, q64873, hm64799⟩ := bind_some hm64799
            refine DL_e rfl rfl (Exec.call rfl rfl Tryd.func38 rfl N38 (args_cons rfl (args_cons rfl (args_cons rfl args_nil))) ((ref45_goal_o_sim q64873 hS64871 (a23743.mono (PHeap.le.trans (PHeap.le.trans (PHeap.le.trans (PHeap.le.trans (PHeap.le.trans (PHeap.le.trans l58573 l58588) l63891) l63903) l64587) l64802) l64870)) (a23745.mono (PHeap.le.trans (PHeap.le.trans (PHeap.le.trans (PHeap.le.trans (PHeap.le.trans (PHeap.le.trans l58573 l58588) l63891) l63903) l64587) l64802) l64870)) (a23747.mono (PHeap.le.trans (PHeap.le.trans (PHeap.le.trans (PHeap.le.trans (PHeap.le.trans (PHeap.le.trans l58573 l58588) l63891) l63903) l64587) l64802) l64870))).mono ?_))
            rintro _ w64875 ⟨_, rfl, ⟨s64876, l64877, hS64878, rfl⟩⟩
            refine ⟨_, rfl, ?_⟩
            refine ⟨ag_nil, ?_⟩
            refine DL_q rfl rfl (Exec.bool_eql Tryd.underlying4 rfl rfl rfl ⟨rfl, ?_⟩)
            refine DL_done ?_
            refine WL_nil (at_normal ?_)
            obtain ⟨t64881, ht64882, hm64799⟩ := bind_some hm64799
            refine W_mid (M := fun f' w' => (un2 fun (from_64879 : Int) (to64880 : Int) => ∃ (s64883 : PHeap) , PHeap.le s64876 s64883 ∧ St w0 s64883 (Res.box b58557 26 [Value.int .i64 (x23741.States), Value.int .i64 (x23741.Init), v23742, v23744, v23746] :: Res.arr (encInt .i64) 3 v58575 l60350 :: H) w' ∧ f' 1 = Value.int .i64 (most23748) ∧ f' 2 = Value.pointer (some ⟨b58557, 0, none⟩) ∧ f' 5 = v58575 ∧ f' 6 = Value.int .i64 (k60349) ∧ f' 7 = Value.int .i64 (from_64879) ∧ f' 8 = Value.int .i64 (to64880) ∧ f' 9 = Value.int .i64 ((i63908 : Int)) ∧ f' 25 = Value.int .i64 (k60349) ∧ f' 26 = Value.int .i64 ((i63908 : Int)) ∧ f' 29 = Value.int .i64 ((i63908 : Int)) ∧ f' 30 = Value.int .i64 ((i64599 : Int))) t64881) ?_ ?_
            · rcases ite_some ht64882 with ⟨hc64884, ht64882⟩ | ⟨hc64884, ht64882⟩
              · refine W_cond_t rfl hc64884 ?_
                refine W_region ?_
                refine WL_step rfl rfl (Exec.move (v := Value.int .i64 ((i63908 : Int))) rfl p64810 ?_)
                refine WL_step rfl rfl (Exec.move (v := Value.int .i64 ((i64599 : Int))) rfl rfl ?_)
                refine WL_step rfl rfl (Exec.assign (v := Value.int .i64 ((i63908 : Int))) rfl rfl ?_)
                refine WL_step rfl rfl (Exec.assign (v := Value.int .i64 ((i64599 : Int))) rfl rfl ?_)
                refine WL_nil (at_normal ?_)
                have e64885 := Option.some.inj ht64882
                subst t64881
                have hS64886 := (hS64878).f1
                exact ⟨s64876, (PHeap.le_refl _), hS64886, p64804, p64805, p64806, p64807, rfl, rfl, p64810, p64811, p64812, p64813, x64814⟩
              · refine W_cond_f rfl hc64884 ?_
                replace hc64884 := not_true hc64884
                refine W_skip (at_normal ?_)
                have e64887 := Option.some.inj ht64882
                subst t64881
                have hS64888 := (hS64878).f1
                exact ⟨s64876, (PHeap.le_refl _), hS64888, p64804, p64805, p64806, p64807, p64808, p64809, p64810, p64811, p64812, p64813, x64814⟩
            · intro f64889 w64890 hM64891
              obtain ⟨from_64879, to64880⟩ := t64881
              replace hm64799 := un2_eq hm64799
              obtain ⟨s64892, l64893, hS64894, p64895, p64896, p64897, p64898, p64899, p64900, p64901, p64902, p64903, p64904, p64905⟩ := hM64891
              refine (ib_normal (at_normal ?_))
              refine W_region ?_
              refine WL_step rfl rfl (Exec.add rfl p64905 rfl ?_)
              refine WL_step rfl rfl (Exec.move (v := Value.int .i64 (IntKind.i64.wrap ((i64599 : Int) + 1))) rfl rfl ?_)
              refine WL_nil (at_normal ?_)
              have e64906 := Option.some.inj hm64799
              subst s64794
              have hS64907 := (hS64894).f1
              have hS64908 := (hS64907).f1
              exact ⟨s64892, (PHeap.le.trans (PHeap.le.trans (PHeap.le.trans l64802 l64870) l64877) l64893), hS64908, p64895, p64896, p64897, p64898, p64899, p64900, p64901, p64902, p64903, p64904, (Eq.trans rfl (wrap_up hi64797 (by have h := must_some q64598; simp at h; simp only [maxLen]; omega)))⟩
          · intro f64909 w64910 hI64911
            obtain ⟨from_64692, to64693⟩ := t64788
            replace hm64584 := un2_eq hm64584
            obtain ⟨s64912, l64913, hS64914, p64915, p64916, p64917, p64918, p64919, p64920, p64921, p64922, p64923, p64924, x64925⟩ := hI64911
            refine W_seq ?_
            refine W_region ?_
            refine WL_step rfl rfl (Exec.lss rfl x64925 p64924 ?_)
            refine WL_nil (at_normal ?_)
            refine W_seq ?_
            refine W_false (congrArg Value.bool (decide_eq_false (by omega))) ?_
            refine W_exit (at_exit (at_exit (ib_here (ib_normal (at_normal ?_)))))
            refine W_region ?_
            refine WL_step rfl rfl (Exec.add rfl p64923 rfl ?_)
            refine WL_step rfl rfl (Exec.move (v := Value.int .i64 (IntKind.i64.wrap ((i63908 : Int) + 1))) rfl rfl ?_)
            refine WL_nil (at_normal ?_)
            have e64926 := Option.some.inj hm64584
            subst s64579
            have hS64927 := (hS64914).f1
            have hS64928 := (hS64927).f1
            exact ⟨s64912, (PHeap.le.trans l64587 l64913), hS64928, p64915, p64916, p64917, p64918, p64919, p64920, p64922, (Eq.trans rfl (wrap_up hi64582 (by have h := must_some q63907; simp at h; simp only [maxLen]; omega)))⟩
        · intro f64929 w64930 hI64931
          obtain ⟨from_64239, to64240⟩ := t64573
          replace hm63887 := un2_eq hm63887
          obtain ⟨s64932, l64933, hS64934, p64935, p64936, p64937, p64938, p64939, p64940, p64941, x64942⟩ := hI64931
          refine W_seq ?_
          refine W_region ?_
          refine WL_step rfl rfl (Exec.lss rfl x64942 p64941 ?_)
          refine WL_nil (at_normal ?_)
          refine W_seq ?_
          refine W_false (congrArg Value.bool (decide_eq_false (by omega))) ?_
          refine W_exit (at_exit (at_exit (ib_here (at_normal ?_))))
          refine W_seq ?_
          refine W_region ?_
          refine WL_step rfl rfl (Exec.move (v := v58575) rfl p64937 ?_)
          refine WL_step rfl rfl (Exec.len_arr ((hS64934).f1) S22 rfl rfl ?_)
          refine WL_step rfl rfl (Exec.move (v := Value.int .i64 (0)) rfl rfl ?_)
          refine WL_nil (at_normal ?_)
          obtain ⟨l65167, hB65392, hm63887⟩ := bind_some hm63887
          refine W_block (W_forS (fun k' s' f' w' => (fun (l65167 : (List Int)) => ∃ (s65393 : PHeap) , PHeap.le s64932 s65393 ∧ St w0 s65393 (Res.box b58557 26 [Value.int .i64 (x23741.States), Value.int .i64 (x23741.Init), v23742, v23744, v23746] :: Res.arr (encInt .i64) 3 v58575 l65167 :: H) w' ∧ f' 1 = Value.int .i64 (most23748) ∧ f' 2 = Value.pointer (some ⟨b58557, 0, none⟩) ∧ f' 5 = v58575 ∧ f' 6 = Value.int .i64 (k60349) ∧ f' 7 = Value.int .i64 (from_64239) ∧ f' 8 = Value.int .i64 (to64240) ∧ f' 46 = v58575 ∧ f' 47 = Value.int .i64 ((l60350.length : Int)) ∧ f' 48 = Value.int .i64 (k' : Int)) s') hB65392 ?_ ?_ ?_)
          · have hS65394 := (hS64934).f1
            have hS65395 := (hS65394).f1
            exact ⟨s64932, (PHeap.le_refl _), hS65395, p64935, p64936, p64937, p64938, p64939, p64940, rfl, rfl, rfl⟩
          · intro i64943 l65167 s65397 f65398 w65399 hi65400 hI65401 hm65402
            obtain ⟨s65403, l65404, hS65405, p65406, p65407, p65408, p65409, p65410, p65411, p65412, p65413, x65414⟩ := hI65401
            refine W_seq ?_
            refine W_region ?_
            refine WL_step rfl rfl (Exec.lss rfl x65414 p65413 ?_)
            refine WL_nil (at_normal ?_)
            refine W_seq ?_
            refine W_true (congrArg Value.bool (decide_eq_true (by omega))) ?_
            refine W_skip (at_normal ?_)
            refine W_seq ?_
            refine W_block ?_
            refine W_seq ?_
            refine W_region ?_
            refine WL_step rfl rfl (Exec.move (v := Value.int .i64 ((i64943 : Int))) rfl x65414 ?_)
            obtain ⟨x65422, q65423, hm65402⟩ := bind_some hm65402
            obtain ⟨g65424, c65425, e65426⟩ := ((hS65405).f1).arr_at q65423
            refine WL_step rfl rfl (Exec.index_slice S22 rfl (Eq.trans p65412 e65426) x65414 (idx_some q65423).1 (idx_some q65423).2.1 ?_)
            refine WL_step rfl rfl (Exec.load_arr (F := (encInt .i64)) ((hS65405).f1) e65426 A3 rfl rfl rfl q65423 (Sub.refl _) ?_)
            intro v65427 q65428
            obtain rfl := encInt_val.1 q65428
            refine WL_step rfl rfl (Exec.assign (v := Value.int .i64 ((i64943 : Int))) rfl rfl ?_)
            refine WL_step rfl rfl (Exec.assign (v := Value.int .i64 (x65422)) rfl rfl ?_)
            refine WL_nil (at_normal ?_)
            refine W_block ?_
            refine W_seq ?_
            refine W_region ?_
            refine WL_step rfl rfl (Exec.move (v := Value.int .i64 (x65422)) rfl rfl ?_)
            refine WL_step rfl rfl (Exec.move (v := Value.int .i64 (from_64239)) rfl p65410 ?_)
            refine WL_step rfl rfl (Exec.eql rfl rfl rfl ?_)
            refine WL_step rfl rfl (Exec.assign (v := Value.bool (decide (x65422 = from_64239))) rfl rfl ?_)
            refine WL_nil (at_normal ?_)
            obtain ⟨l65521, ht65522, hm65402⟩ := bind_some hm65402
            refine W_mid (M := fun f' w' => (fun (l65521 : (List Int)) => ∃ (s65523 : PHeap) , PHeap.le s65403 s65523 ∧ St w0 s65523 (Res.box b58557 26 [Value.int .i64 (x23741.States), Value.int .i64 (x23741.Init), v23742, v23744, v23746] :: Res.arr (encInt .i64) 3 v58575 l65521 :: H) w' ∧ f' 1 = Value.int .i64 (most23748) ∧ f' 2 = Value.pointer (some ⟨b58557, 0, none⟩) ∧ f' 5 = v58575 ∧ f' 6 = Value.int .i64 (k60349) ∧ f' 7 = Value.int .i64 (from_64239) ∧ f' 8 = Value.int .i64 (to64240) ∧ f' 46 = v58575 ∧ f' 47 = Value.int .i64 ((l60350.length : Int)) ∧ f' 48 = Value.int .i64 ((i64943 : Int))) l65521) ?_ ?_
            · rcases ite_some ht65522 with ⟨hc65524, ht65522⟩ | ⟨hc65524, ht65522⟩
              · refine W_cond_t rfl hc65524 ?_
                refine W_region ?_
                refine WL_step rfl rfl (Exec.move (v := v58575) rfl p65408 ?_)
                refine WL_step rfl rfl (Exec.move (v := Value.int .i64 ((i64943 : Int))) rfl rfl ?_)
                refine WL_step rfl rfl (Exec.move (v := Value.int .i64 (to64240)) rfl p65411 ?_)
                obtain ⟨g65533, c65534, e65535⟩ := ((hS65405).f1).arr_at q65423
                refine WL_step rfl rfl (Exec.index_slice S22 rfl e65535 rfl (idx_some q65423).1 (idx_some q65423).2.1 ?_)
                obtain ⟨l65536, q65537, ht65522⟩ := bind_some ht65522
                have hS65538 := (hS65405).f1
                refine WL_step rfl rfl (Exec.store_arr hS65538 e65535 A3 rfl rfl rfl rfl (encInt_val.2 rfl) q65537 ?_)
                intro w65539 hS65540
                refine WL_nil (at_normal ?_)
                have e65541 := Option.some.inj ht65522
                subst l65521
                have hS65542 := (hS65540).f1
                exact ⟨s65403, (PHeap.le_refl _), hS65542, p65406, p65407, p65408, p65409, p65410, p65411, p65412, p65413, x65414⟩
              · refine W_cond_f rfl hc65524 ?_
                replace hc65524 := not_true hc65524
                refine W_seq ?_
                refine W_region ?_
                refine WL_step rfl rfl (Exec.move (v := Value.int .i64 (x65422)) rfl rfl ?_)
                refine WL_step rfl rfl (Exec.move (v := Value.int .i64 (from_64239)) rfl p65410 ?_)
                refine WL_step rfl rfl (Exec.gtr rfl rfl rfl ?_)
                refine WL_step rfl rfl (Exec.assign (v := Value.bool (decide (from_64239 < x65422))) rfl rfl ?_)
                refine WL_nil (at_normal ?_)
                obtain ⟨l65569, ht65570, ht65522⟩ := bind_some ht65522
                refine W_mid (M := fun f' w' => (fun (l65569 : (List Int)) => ∃ (s65571 : PHeap) , PHeap.le s65403 s65571 ∧ St w0 s65571 (Res.box b58557 26 [Value.int .i64 (x23741.States), Value.int .i64 (x23741.Init), v23742, v23744, v23746] :: Res.arr (encInt .i64) 3 v58575 l65569 :: H) w' ∧ f' 1 = Value.int .i64 (most23748) ∧ f' 2 = Value.pointer (some ⟨b58557, 0, none⟩) ∧ f' 5 = v58575 ∧ f' 6 = Value.int .i64 (k60349) ∧ f' 7 = Value.int .i64 (from_64239) ∧ f' 8 = Value.int .i64 (to64240) ∧ f' 46 = v58575 ∧ f' 47 = Value.int .i64 ((l60350.length : Int)) ∧ f' 48 = Value.int .i64 ((i64943 : Int))) l65569) ?_ ?_
                · rcases ite_some ht65570 with ⟨hc65572, ht65570⟩ | ⟨hc65572, ht65570⟩
                  · refine W_cond_t rfl hc65572 ?_
                    refine W_region ?_
                    refine WL_step rfl rfl (Exec.move (v := v58575) rfl p65408 ?_)
                    refine WL_step rfl rfl (Exec.move (v := Value.int .i64 ((i64943 : Int))) rfl rfl ?_)
                    obtain ⟨g65586, c65587, e65588⟩ := ((hS65405).f1).arr_at q65423
                    refine WL_step rfl rfl (Exec.index_slice S22 rfl e65588 rfl (idx_some q65423).1 (idx_some q65423).2.1 ?_)
                    refine WL_step rfl rfl (Exec.load_arr (F := (encInt .i64)) ((hS65405).f1) e65588 A3 rfl rfl rfl q65423 (Sub.refl _) ?_)
                    intro v65589 q65590
                    obtain rfl := encInt_val.1 q65590
                    refine WL_step rfl rfl (Exec.sub rfl rfl rfl ?_)
                    obtain ⟨g65591, c65592, e65593⟩ := ((hS65405).f1).arr_at q65423
                    refine WL_step rfl rfl (Exec.index_slice S22 rfl e65593 rfl (idx_some q65423).1 (idx_some q65423).2.1 ?_)
                    obtain ⟨l65594, q65595, ht65570⟩ := bind_some ht65570
                    have hS65596 := (hS65405).f1
                    refine WL_step rfl rfl (Exec.store_arr hS65596 e65593 A3 rfl rfl rfl rfl (encInt_val.2 rfl) q65595 ?_)
                    intro w65597 hS65598
                    refine WL_nil (at_normal ?_)
                    have e65599 := Option.some.inj ht65570
                    subst l65569
                    have hS65600 := (hS65598).f1
                    exact ⟨s65403, (PHeap.le_refl _), hS65600, p65406, p65407, p65408, p65409, p65410, p65411, p65412, p65413, x65414⟩
                  · refine W_cond_f rfl hc65572 ?_
                    replace hc65572 := not_true hc65572
                    refine W_skip (at_normal ?_)
                    have e65601 := Option.some.inj ht65570
                    subst l65569
                    have hS65602 := (hS65405).f1
                    have hS65603 := (hS65602).f1
                    exact ⟨s65403, (PHeap.le_refl _), hS65603, p65406, p65407, p65408, p65409, p65410, p65411, p65412, p65413, x65414⟩
                · intro f65604 w65605 hM65606
                  obtain ⟨s65607, l65608, hS65609, p65610, p65611, p65612, p65613, p65614, p65615, p65616, p65617, p65618⟩ := hM65606
                  refine (at_normal ?_)
                  have e65619 := Option.some.inj ht65522
                  subst l65521
                  have hS65620 := (hS65609).f1
                  have hS65621 := (hS65620).f1
                  exact ⟨s65607, l65608, hS65621, p65610, p65611, p65612, p65613, p65614, p65615, p65616, p65617, p65618⟩
            · intro f65622 w65623 hM65624
              obtain ⟨s65625, l65626, hS65627, p65628, p65629, p65630, p65631, p65632, p65633, p65634, p65635, p65636⟩ := hM65624
              refine (ib_normal (ib_normal (at_normal ?_)))
              refine W_region ?_
              refine WL_step rfl rfl (Exec.add rfl p65636 rfl ?_)
              refine WL_step rfl rfl (Exec.move (v := Value.int .i64 (IntKind.i64.wrap ((i64943 : Int) + 1))) rfl rfl ?_)
              refine WL_nil (at_normal ?_)
              have e65637 := Option.some.inj hm65402
              subst s65397
              have hS65638 := (hS65627).f1
              have hS65639 := (hS65638).f1
              exact ⟨s65625, (PHeap.le.trans l65404 l65626), hS65639, p65628, p65629, p65630, p65631, p65632, p65633, p65634, p65635, (Eq.trans rfl (wrap_up hi65400 ((hS64934).f1).arr_le))⟩
          · intro f65640 w65641 hI65642
            obtain ⟨s65643, l65644, hS65645, p65646, p65647, p65648, p65649, p65650, p65651, p65652, p65653, x65654⟩ := hI65642
            refine W_seq ?_
            refine W_region ?_
            refine WL_step rfl rfl (Exec.lss rfl x65654 p65653 ?_)
            refine WL_nil (at_normal ?_)
            refine W_seq ?_
            refine W_false (congrArg Value.bool (decide_eq_false (by omega))) ?_
            refine W_exit (at_exit (at_exit (ib_here (ib_normal (at_normal ?_)))))
            refine W_region ?_
            refine WL_step rfl rfl (Exec.move (v := Value.int .i64 (k60349)) rfl p65649 ?_)
            refine WL_step rfl rfl (Exec.sub rfl rfl rfl ?_)
            refine WL_step rfl rfl (Exec.assign (v := Value.int .i64 (IntKind.i64.wrap (k60349 - 1))) rfl rfl ?_)
            refine WL_nil (at_normal ?_)
            have e65655 := Option.some.inj hm63887
            subst c63883
            have hS65656 := (hS65645).f1
            have hS65657 := (hS65656).f1
            refine ⟨_, rfl, ?_⟩; exact ⟨s65643, (PHeap.le.trans (PHeap.le.trans (PHeap.le.trans l63891 l63903) l64933) l65644), hS65657, p65646, p65647, p65648, rfl⟩
      · refine W_cond_f rfl hc63905 ?_
        replace hc63905 := not_true hc63905
        refine W_exit (at_exit (at_exit (ib_here (at_normal ?_))))
        have e65658 := Option.some.inj hm63887
        subst c63883
        have hS65659 := (hS63904).f1
        have hS65660 := (hS65659).f1
        refine ⟨_, .inr (hres63888 (by intro _ h; cases h)), ?_⟩; exact ⟨s63902, (PHeap.le.trans l63891 l63903), hS65660, p63893, p63894, p63895, p63896⟩
  · rintro f65661 w65662 ⟨t65663, hc65664, hM65665⟩
    have hm := hc65664.elim (hn63877 _) (hb63878 _)
    clear hc65664
    obtain ⟨k63872, l63873⟩ := t65663
    replace hm := un2_eq hm
    obtain ⟨s65666, l65667, hS65668, p65669, p65670, p65671, p65672⟩ := hM65665
    refine (at_normal ?_)
    refine W_seq ?_
    refine W_region ?_
    refine WL_step rfl rfl (Exec.move (v := v58575) rfl p65671 ?_)
    refine WL_step rfl rfl (Exec.assign (v := v58575) rfl rfl ?_)
    refine WL_nil (at_normal ?_)
    refine W_ret ?_
    have e65674 := Option.some.inj hm
    subst r
    refine ⟨_, ret1 rfl, ?_⟩
    have hS65675 := (hS65668).drop
    exact ⟨s65666, v58575, (PHeap.le.trans (PHeap.le.trans l58573 l58588) l65667), hS65675, rfl⟩

theorem N4 : (Tryd.f4.name == "runtime.NumGoroutine") = false := by kernel_rfl

theorem law45_ShrinkMerges_sim {w0 w : World} {s : PHeap} {H : List Res} {x1 : System} {most8 : Int} {v2 : Value} {v4 : Value} {v6 : Value} {r : Bool} (hm : law45_ShrinkMerges_p x1 most8 = some r) (hS : St w0 s (H) w) (a3 : SliceRep (encInt .i64) s v2 x1.Costs) (a5 : SliceRep encEdge s v4 x1.Edges) (a7 : SliceRep encBool s v6 x1.Goals) :
    Calls Tryd.prog 4 #[Value.agg #[Value.int .i64 (x1.States), Value.int .i64 (x1.Init), v2, v4, v6], Value.int .i64 (most8)] w fun e w' => ∃ v, e = .returned v ∧ ((fun (y65727 : Bool) => ∃ (s65728 : PHeap) , PHeap.le s s65728 ∧ St w0 s65728 (H) w' ∧ v = Value.bool (y65727)) r) := by
  unfold law45_ShrinkMerges_p at hm
  refine calls_of_W Tryd.func4 rfl rfl ?_
  refine W_seq ?_
  refine W_region ?_
  refine WL_step rfl rfl (Exec.box (cs := [Value.int .i64 (x1.States), Value.int .i64 (x1.Init), v2, v4, v6]) hS rfl rfl rfl ?_)
  intro b65732 w65733 hS65734
  refine WL_step rfl rfl (Exec.assign (v := Value.bool (false)) rfl rfl ?_)
  refine WL_nil (at_normal ?_)
  refine W_seq ?_
  refine W_seq ?_
  obtain ⟨z65750, ht65751, hm⟩ := bind_some hm
  refine W_mid (M := fun f' w' => (fun (z65750 : Bool) => ∃ (s65752 : PHeap) , PHeap.le s s65752 ∧ St w0 s65752 (Res.box b65732 26 [Value.int .i64 (x1.States), Value.int .i64 (x1.Init), v2, v4, v6] :: H) w' ∧ f' 1 = Value.int .i64 (most8) ∧ f' 2 = Value.pointer (some ⟨b65732, 0, none⟩) ∧ f' 12 = Value.bool (z65750)) z65750) ?_ ?_
  · refine W_region ?_
    obtain ⟨y65755, q65754, ht65751⟩ := bind_some ht65751
    refine WL_step rfl rfl (Exec.call rfl rfl Tryd.func10 rfl N10 args_nil ((law45_awake_sim q65754 hS65734 ).mono ?_))
    rintro _ w65756 ⟨_, rfl, ⟨s65757, l65758, hS65759, rfl⟩⟩
    refine ⟨_, rfl, ?_⟩
    refine WL_step rfl rfl (Exec.not rfl rfl ?_)
    refine WL_step rfl rfl (Exec.move (v := Value.bool (!y65755)) rfl rfl ?_)
    rcases ite_some ht65751 with ⟨hc65760, ht65751⟩ | ⟨hc65760, ht65751⟩
    · refine WL_pass rfl (yield_of rfl (congrArg Value.bool hc65760)) rfl rfl ?_
      refine WL_pass rfl (yield_of rfl (congrArg Value.bool hc65760)) rfl rfl ?_
      refine WL_step rfl rfl (Exec.pick_t (v := Value.bool (true)) rfl (congrArg Value.bool hc65760) rfl ?_)
      refine WL_nil (at_normal ?_)
      have e65761 := Option.some.inj ht65751
      subst z65750
      exact ⟨s65757, l65758, hS65759, rfl, rfl, rfl⟩
    · replace hc65760 := not_true hc65760
      refine WL_run rfl (yield_of rfl (congrArg Value.bool hc65760)) rfl (Exec.load_box_agg (ds := [Value.int .i64 (x1.States), Value.int .i64 (x1.Init), v2, v4, v6]) (hS65759) A26 rfl rfl rfl ?_)
      obtain ⟨y65764, q65763, ht65751⟩ := bind_some ht65751
      refine WL_run rfl (yield_of rfl (congrArg Value.bool hc65760)) rfl (Exec.call rfl rfl Tryd.func11 rfl N11 (args_cons rfl args_nil) ((law45_large_sim q65763 hS65759 (a3.mono l65758) (a5.mono l65758) (a7.mono l65758)).mono ?_))
      rintro _ w65765 ⟨_, rfl, ⟨s65766, l65767, hS65768, rfl⟩⟩
      refine ⟨_, rfl, ?_⟩
      refine WL_step rfl rfl (Exec.pick_f (v := Value.bool (y65764)) rfl (congrArg Value.bool hc65760) rfl ?_)
      refine WL_nil (at_normal ?_)
      have e65769 := Option.some.inj ht65751
      subst z65750
      exact ⟨s65766, (PHeap.le.trans l65758 l65767), hS65768, rfl, rfl, rfl⟩
  · intro f65770 w65771 hM65772
    obtain ⟨s65773, l65774, hS65775, p65776, p65777, p65778⟩ := hM65772
    refine (at_normal ?_)
    rcases ite_some hm with ⟨hc65779, hm⟩ | ⟨hc65779, hm⟩
    · refine W_cond_t p65778 hc65779 ?_
      refine W_seq ?_
      refine W_region ?_
      obtain ⟨y65789, q65788, hm⟩ := bind_some hm
      refine WL_step rfl rfl (Exec.call rfl rfl Tryd.func10 rfl N10 args_nil ((law45_awake_sim q65788 hS65775 ).mono ?_))
      rintro _ w65790 ⟨_, rfl, ⟨s65791, l65792, hS65793, rfl⟩⟩
      refine ⟨_, rfl, ?_⟩
      refine WL_step rfl rfl (Exec.assign (v := Value.bool (y65789)) rfl rfl ?_)
      refine WL_nil (at_normal ?_)
      refine W_ret (at_ret ?_)
      have e65795 := Option.some.inj hm
      subst r
      refine ⟨_, ret1 rfl, ?_⟩
      have hS65796 := (hS65793).drop
      exact ⟨s65791, (PHeap.le.trans l65774 l65792), hS65796, rfl⟩
    · refine W_cond_f p65778 hc65779 ?_
      replace hc65779 := not_true hc65779
      refine W_skip (at_normal ?_)
      refine W_seq ?_
      refine W_region ?_
      refine WL_step rfl rfl (Exec.load_box_agg (ds := [Value.int .i64 (x1.States), Value.int .i64 (x1.Init), v2, v4, v6]) (hS65775) A26 rfl p65777 rfl ?_)
      refine WL_step rfl rfl (Exec.move (v := Value.int .i64 (most8)) rfl p65776 ?_)
      obtain ⟨t65806, q65807, hm⟩ := bind_some hm
      obtain ⟨y65808, y65809⟩ := t65806
      replace hm := un2_eq hm
      refine WL_step rfl rfl (Exec.call rfl rfl Tryd.func17 rfl N17 (args_cons rfl (args_cons rfl args_nil)) ((shrink_Merge_sim q65807 hS65775 (a3.mono l65774) (a5.mono l65774) (a7.mono l65774)).mono ?_))
      rintro _ w65810 ⟨_, rfl, ⟨s65811, v65814, l65812, hS65813, rfl⟩⟩
      refine ⟨_, rfl, ?_⟩
      refine WL_step rfl rfl (Exec.move (v := Value.tuple #[v65814, errV 34 (y65809)]) rfl rfl ?_)
      refine WL_step rfl rfl (Exec.extract (v := v65814) rfl rfl rfl ?_)
      refine WL_step rfl rfl (Exec.extract (v := errV 34 (y65809)) rfl rfl rfl ?_)
      refine WL_step rfl rfl (Exec.assign (v := v65814) rfl rfl ?_)
      refine WL_step rfl rfl (Exec.assign (v := errV 34 (y65809)) rfl rfl ?_)
      refine WL_nil (at_normal ?_)
      refine W_seq ?_
      refine W_seq ?_
      refine W_region ?_
      refine WL_step rfl rfl (Exec.load_box_agg (ds := [Value.int .i64 (x1.States), Value.int .i64 (x1.Init), v2, v4, v6]) ((hS65813).f1) A26 rfl p65777 rfl ?_)
      obtain ⟨y65824, q65823, hm⟩ := bind_some hm
      refine WL_step rfl rfl (Exec.call rfl rfl Tryd.func13 rfl N13 (args_cons rfl args_nil) ((ref44_Valid_sim q65823 hS65813 (a3.mono (PHeap.le.trans l65774 l65812)) (a5.mono (PHeap.le.trans l65774 l65812)) (a7.mono (PHeap.le.trans l65774 l65812))).mono ?_))
      rintro _ w65825 ⟨_, rfl, ⟨s65826, l65827, hS65828, rfl⟩⟩
      refine ⟨_, rfl, ?_⟩
      refine WL_step rfl rfl (Exec.not rfl rfl ?_)
      refine WL_nil (at_normal ?_)
      rcases ite_some hm with ⟨hc65829, hm⟩ | ⟨hc65829, hm⟩
      · refine W_cond_t rfl hc65829 ?_
        refine W_seq ?_
        refine W_mid (M := fun f' w' => ∃ (s65835 : PHeap) , PHeap.le s65826 s65835 ∧ St w0 s65835 (H) w' ∧ f' 4 = Value.bool (((decide ((y65808.length : Int) = 0)) && (base_Is_t y65809 2)))) ?_ ?_
        · refine W_region ?_
          refine WL_step rfl rfl (Exec.move (v := v65814) rfl rfl ?_)
          refine WL_step rfl rfl (Exec.len_arr (hS65828) S22 rfl rfl ?_)
          refine WL_step rfl rfl (Exec.eql rfl rfl rfl ?_)
          refine WL_step rfl rfl (Exec.move (v := Value.bool (decide ((y65808.length : Int) = 0))) rfl rfl ?_)
          by_cases hc65836 : (decide ((y65808.length : Int) = 0)) = true
          · refine WL_run rfl (yield_of rfl (congrArg Value.bool hc65836)) rfl (Exec.move (v := errV 34 (y65809)) rfl rfl ?_)
            refine WL_run rfl (yield_of rfl (congrArg Value.bool hc65836)) rfl (Exec.call rfl rfl Tryd.func14 rfl N14 (args_cons rfl (args_cons rfl args_nil)) ((base_Is_sim (base_Is_tot y65809 2) hS65828 ).mono ?_))
            rintro _ w65837 ⟨_, rfl, ⟨s65838, l65839, hS65840, rfl⟩⟩
            refine ⟨_, rfl, ?_⟩
            refine WL_step rfl rfl (Exec.pick_t (v := Value.bool ((base_Is_t y65809 2))) rfl (congrArg Value.bool hc65836) rfl ?_)
            refine WL_step rfl rfl (Exec.assign (v := Value.bool ((base_Is_t y65809 2))) rfl rfl ?_)
            refine WL_nil (at_normal ?_)
            have hS65841 := (hS65840).drop
            have hS65842 := (hS65841).drop
            exact ⟨s65838, l65839, hS65842, (congrArg Value.bool (and_t hc65836)).symm⟩
          · replace hc65836 := not_true hc65836
            refine WL_pass rfl (yield_of rfl (congrArg Value.bool hc65836)) rfl rfl ?_
            refine WL_pass rfl (yield_of rfl (congrArg Value.bool hc65836)) rfl rfl ?_
            refine WL_step rfl rfl (Exec.pick_f (v := Value.bool (false)) rfl (congrArg Value.bool hc65836) rfl ?_)
            refine WL_step rfl rfl (Exec.assign (v := Value.bool (false)) rfl rfl ?_)
            refine WL_nil (at_normal ?_)
            have hS65843 := (hS65828).drop
            have hS65844 := (hS65843).drop
            exact ⟨s65826, (PHeap.le_refl _), hS65844, (congrArg Value.bool (and_f hc65836)).symm⟩
        · intro f65845 w65846 hM65847
          obtain ⟨s65848, l65849, hS65850, p65851⟩ := hM65847
          refine (at_normal ?_)
          refine W_ret (at_ret ?_)
          have e65853 := Option.some.inj hm
          subst r
          refine ⟨_, ret1 rfl, ?_⟩
          exact ⟨s65848, (PHeap.le.trans (PHeap.le.trans (PHeap.le.trans l65774 l65812) l65827) l65849), hS65850, p65851⟩
      · refine W_cond_f rfl hc65829 ?_
        replace hc65829 := not_true hc65829
        refine W_skip (at_normal ?_)
        refine W_seq ?_
        obtain ⟨z65871, ht65872, hm⟩ := bind_some hm
        refine W_mid (M := fun f' w' => (fun (z65871 : Bool) => ∃ (s65873 : PHeap) , PHeap.le s65826 s65873 ∧ St w0 s65873 (H) w' ∧ f' 4 = Value.bool (z65871)) z65871) ?_ ?_
        · refine W_region ?_
          refine WL_step rfl rfl (Exec.move (v := errV 34 (y65809)) rfl rfl ?_)
          refine WL_step rfl rfl (Exec.err_eql_nil (T := 34) Tryd.underlying30 rfl rfl rfl ?_)
          refine WL_step rfl rfl (Exec.move (v := Value.bool (y65809.isNone)) rfl rfl ?_)
          rcases ite_some ht65872 with ⟨hc65874, ht65872⟩ | ⟨hc65874, ht65872⟩
          · refine WL_run rfl (yield_of rfl (congrArg Value.bool hc65874)) rfl (Exec.move (v := v65814) rfl rfl ?_)
            refine WL_run rfl (yield_of rfl (congrArg Value.bool hc65874)) rfl (Exec.load_box_agg (ds := [Value.int .i64 (x1.States), Value.int .i64 (x1.Init), v2, v4, v6]) ((hS65828).f1) A26 rfl p65777 rfl ?_)
            refine WL_run rfl (yield_of rfl (congrArg Value.bool hc65874)) rfl (Exec.move (v := Value.int .i64 (most8)) rfl p65776 ?_)
            obtain ⟨y65877, q65876, ht65872⟩ := bind_some ht65872
            refine WL_run rfl (yield_of rfl (congrArg Value.bool hc65874)) rfl (Exec.call rfl rfl Tryd.func18 rfl N18 (args_cons rfl (args_cons rfl args_nil)) ((ref45_Merge_sim q65876 hS65828 (a3.mono (PHeap.le.trans (PHeap.le.trans l65774 l65812) l65827)) (a5.mono (PHeap.le.trans (PHeap.le.trans l65774 l65812) l65827)) (a7.mono (PHeap.le.trans (PHeap.le.trans l65774 l65812) l65827))).mono ?_))
            rintro _ w65878 ⟨v65882, rfl, ⟨s65879, _, l65880, hS65881, rfl⟩⟩
            refine ⟨_, rfl, ?_⟩
            obtain ⟨y65885, q65884, ht65872⟩ := bind_some ht65872
            have hS65886 := (hS65881).f1
            refine WL_run rfl (yield_of rfl (congrArg Value.bool hc65874)) rfl (Exec.call rfl rfl Tryd.func15 rfl N15 (args_cons rfl (args_cons rfl args_nil)) ((base_Ints_o_o_sim q65884 hS65886 ).mono ?_))
            rintro _ w65887 ⟨_, rfl, ⟨s65888, l65889, hS65890, rfl⟩⟩
            refine ⟨_, rfl, ?_⟩
            refine WL_step rfl rfl (Exec.pick_t (v := Value.bool (y65885)) rfl (congrArg Value.bool hc65874) rfl ?_)
            refine WL_step rfl rfl (Exec.assign (v := Value.bool (y65885)) rfl rfl ?_)
            refine WL_nil (at_normal ?_)
            have e65891 := Option.some.inj ht65872
            subst z65871
            have hS65892 := (hS65890).drop
            have hS65893 := (hS65892).drop
            have hS65894 := (hS65893).drop
            exact ⟨s65888, (PHeap.le.trans l65880 l65889), hS65894, rfl⟩
          · replace hc65874 := not_true hc65874
            refine WL_pass rfl (yield_of rfl (congrArg Value.bool hc65874)) rfl rfl ?_
            refine WL_pass rfl (yield_of rfl (congrArg Value.bool hc65874)) rfl rfl ?_
            refine WL_pass rfl (yield_of rfl (congrArg Value.bool hc65874)) rfl rfl ?_
            refine WL_pass rfl (yield_of rfl (congrArg Value.bool hc65874)) rfl rfl ?_
            refine WL_pass rfl (yield_of rfl (congrArg Value.bool hc65874)) rfl rfl ?_
            refine WL_step rfl rfl (Exec.pick_f (v := Value.bool (false)) rfl (congrArg Value.bool hc65874) rfl ?_)
            refine WL_step rfl rfl (Exec.assign (v := Value.bool (false)) rfl rfl ?_)
            refine WL_nil (at_normal ?_)
            have e65895 := Option.some.inj ht65872
            subst z65871
            have hS65896 := (hS65828).drop
            have hS65897 := (hS65896).drop
            exact ⟨s65826, (PHeap.le_refl _), hS65897, rfl⟩
        · intro f65898 w65899 hM65900
          obtain ⟨s65901, l65902, hS65903, p65904⟩ := hM65900
          refine (at_normal ?_)
          refine W_ret ?_
          have e65906 := Option.some.inj hm
          subst r
          refine ⟨_, ret1 rfl, ?_⟩
          exact ⟨s65901, (PHeap.le.trans (PHeap.le.trans (PHeap.le.trans l65774 l65812) l65827) l65902), hS65903, p65904⟩

theorem N3 : (Tryd.f3.name == "runtime.NumGoroutine") = false := by kernel_rfl

theorem law45_ShrinkBisimulates_sim {w0 w : World} {s : PHeap} {H : List Res} {x65907 : System} {v65908 : Value} {v65910 : Value} {v65912 : Value} {r : Bool} (hm : law45_ShrinkBisimulates_p x65907 = some r) (hS : St w0 s (H) w) (a65909 : SliceRep (encInt .i64) s v65908 x65907.Costs) (a65911 : SliceRep encEdge s v65910 x65907.Edges) (a65913 : SliceRep encBool s v65912 x65907.Goals) :
    Calls Tryd.prog 3 #[Value.agg #[Value.int .i64 (x65907.States), Value.int .i64 (x65907.Init), v65908, v65910, v65912]] w fun e w' => ∃ v, e = .returned v ∧ ((fun (y66085 : Bool) => ∃ (s66086 : PHeap) , PHeap.le s s66086 ∧ St w0 s66086 (H) w' ∧ v = Value.bool (y66085)) r) := by
  unfold law45_ShrinkBisimulates_p at hm
  refine calls_of_W Tryd.func3 rfl rfl ?_
  refine W_seq ?_
  refine W_region ?_
  refine WL_step rfl rfl (Exec.box (cs := [Value.int .i64 (x65907.States), Value.int .i64 (x65907.Init), v65908, v65910, v65912]) hS rfl rfl rfl ?_)
  intro b66090 w66091 hS66092
  refine WL_step rfl rfl (Exec.assign (v := Value.bool (false)) rfl rfl ?_)
  refine WL_nil (at_normal ?_)
  refine W_seq ?_
  refine W_seq ?_
  obtain ⟨z66108, ht66109, hm⟩ := bind_some hm
  refine W_mid (M := fun f' w' => (fun (z66108 : Bool) => ∃ (s66110 : PHeap) , PHeap.le s s66110 ∧ St w0 s66110 (Res.box b66090 26 [Value.int .i64 (x65907.States), Value.int .i64 (x65907.Init), v65908, v65910, v65912] :: H) w' ∧ f' 1 = Value.pointer (some ⟨b66090, 0, none⟩) ∧ f' 10 = Value.bool (z66108)) z66108) ?_ ?_
  · refine W_region ?_
    obtain ⟨y66113, q66112, ht66109⟩ := bind_some ht66109
    refine WL_step rfl rfl (Exec.call rfl rfl Tryd.func10 rfl N10 args_nil ((law45_awake_sim q66112 hS66092 ).mono ?_))
    rintro _ w66114 ⟨_, rfl, ⟨s66115, l66116, hS66117, rfl⟩⟩
    refine ⟨_, rfl, ?_⟩
    refine WL_step rfl rfl (Exec.not rfl rfl ?_)
    refine WL_step rfl rfl (Exec.move (v := Value.bool (!y66113)) rfl rfl ?_)
    rcases ite_some ht66109 with ⟨hc66118, ht66109⟩ | ⟨hc66118, ht66109⟩
    · refine WL_pass rfl (yield_of rfl (congrArg Value.bool hc66118)) rfl rfl ?_
      refine WL_pass rfl (yield_of rfl (congrArg Value.bool hc66118)) rfl rfl ?_
      refine WL_step rfl rfl (Exec.pick_t (v := Value.bool (true)) rfl (congrArg Value.bool hc66118) rfl ?_)
      refine WL_nil (at_normal ?_)
      have e66119 := Option.some.inj ht66109
      subst z66108
      exact ⟨s66115, l66116, hS66117, rfl, rfl⟩
    · replace hc66118 := not_true hc66118
      refine WL_run rfl (yield_of rfl (congrArg Value.bool hc66118)) rfl (Exec.load_box_agg (ds := [Value.int .i64 (x65907.States), Value.int .i64 (x65907.Init), v65908, v65910, v65912]) (hS66117) A26 rfl rfl rfl ?_)
      obtain ⟨y66122, q66121, ht66109⟩ := bind_some ht66109
      refine WL_run rfl (yield_of rfl (congrArg Value.bool hc66118)) rfl (Exec.call rfl rfl Tryd.func11 rfl N11 (args_cons rfl args_nil) ((law45_large_sim q66121 hS66117 (a65909.mono l66116) (a65911.mono l66116) (a65913.mono l66116)).mono ?_))
      rintro _ w66123 ⟨_, rfl, ⟨s66124, l66125, hS66126, rfl⟩⟩
      refine ⟨_, rfl, ?_⟩
      refine WL_step rfl rfl (Exec.pick_f (v := Value.bool (y66122)) rfl (congrArg Value.bool hc66118) rfl ?_)
      refine WL_nil (at_normal ?_)
      have e66127 := Option.some.inj ht66109
      subst z66108
      exact ⟨s66124, (PHeap.le.trans l66116 l66125), hS66126, rfl, rfl⟩
  · intro f66128 w66129 hM66130
    obtain ⟨s66131, l66132, hS66133, p66134, p66135⟩ := hM66130
    refine (at_normal ?_)
    rcases ite_some hm with ⟨hc66136, hm⟩ | ⟨hc66136, hm⟩
    · refine W_cond_t p66135 hc66136 ?_
      refine W_seq ?_
      refine W_region ?_
      obtain ⟨y66146, q66145, hm⟩ := bind_some hm
      refine WL_step rfl rfl (Exec.call rfl rfl Tryd.func10 rfl N10 args_nil ((law45_awake_sim q66145 hS66133 ).mono ?_))
      rintro _ w66147 ⟨_, rfl, ⟨s66148, l66149, hS66150, rfl⟩⟩
      refine ⟨_, rfl, ?_⟩
      refine WL_step rfl rfl (Exec.assign (v := Value.bool (y66146)) rfl rfl ?_)
      refine WL_nil (at_normal ?_)
      refine W_ret (at_ret ?_)
      have e66152 := Option.some.inj hm
      subst r
      refine ⟨_, ret1 rfl, ?_⟩
      have hS66153 := (hS66150).drop
      exact ⟨s66148, (PHeap.le.trans l66132 l66149), hS66153, rfl⟩
    · refine W_cond_f p66135 hc66136 ?_
      replace hc66136 := not_true hc66136
      refine W_skip (at_normal ?_)
      refine W_seq ?_
      refine W_region ?_
      refine WL_step rfl rfl (Exec.load_box_agg (ds := [Value.int .i64 (x65907.States), Value.int .i64 (x65907.Init), v65908, v65910, v65912]) (hS66133) A26 rfl p66134 rfl ?_)
      obtain ⟨t66163, q66164, hm⟩ := bind_some hm
      obtain ⟨y66165, y66166⟩ := t66163
      replace hm := un2_eq hm
      refine WL_step rfl rfl (Exec.call rfl rfl Tryd.func12 rfl N12 (args_cons rfl args_nil) ((shrink_Bisimulation_sim q66164 hS66133 (a65909.mono l66132) (a65911.mono l66132) (a65913.mono l66132)).mono ?_))
      rintro _ w66167 ⟨_, rfl, ⟨s66168, v66171, l66169, hS66170, rfl⟩⟩
      refine ⟨_, rfl, ?_⟩
      refine WL_step rfl rfl (Exec.move (v := Value.tuple #[v66171, errV 34 (y66166)]) rfl rfl ?_)
      refine WL_step rfl rfl (Exec.extract (v := v66171) rfl rfl rfl ?_)
      refine WL_step rfl rfl (Exec.extract (v := errV 34 (y66166)) rfl rfl rfl ?_)
      refine WL_step rfl rfl (Exec.assign (v := v66171) rfl rfl ?_)
      refine WL_step rfl rfl (Exec.assign (v := errV 34 (y66166)) rfl rfl ?_)
      refine WL_nil (at_normal ?_)
      refine W_seq ?_
      refine W_seq ?_
      refine W_region ?_
      refine WL_step rfl rfl (Exec.load_box_agg (ds := [Value.int .i64 (x65907.States), Value.int .i64 (x65907.Init), v65908, v65910, v65912]) ((hS66170).f1) A26 rfl p66134 rfl ?_)
      obtain ⟨y66181, q66180, hm⟩ := bind_some hm
      refine WL_step rfl rfl (Exec.call rfl rfl Tryd.func13 rfl N13 (args_cons rfl args_nil) ((ref44_Valid_sim q66180 hS66170 (a65909.mono (PHeap.le.trans l66132 l66169)) (a65911.mono (PHeap.le.trans l66132 l66169)) (a65913.mono (PHeap.le.trans l66132 l66169))).mono ?_))
      rintro _ w66182 ⟨_, rfl, ⟨s66183, l66184, hS66185, rfl⟩⟩
      refine ⟨_, rfl, ?_⟩
      refine WL_step rfl rfl (Exec.not rfl rfl ?_)
      refine WL_nil (at_normal ?_)
      rcases ite_some hm with ⟨hc66186, hm⟩ | ⟨hc66186, hm⟩
      · refine W_cond_t rfl hc66186 ?_
        refine W_seq ?_
        refine W_mid (M := fun f' w' => ∃ (s66192 : PHeap) , PHeap.le s66183 s66192 ∧ St w0 s66192 (H) w' ∧ f' 2 = Value.bool (((decide ((y66165.length : Int) = 0)) && (base_Is_t y66166 2)))) ?_ ?_
        · refine W_region ?_
          refine WL_step rfl rfl (Exec.move (v := v66171) rfl rfl ?_)
          refine WL_step rfl rfl (Exec.len_arr (hS66185) S22 rfl rfl ?_)
          refine WL_step rfl rfl (Exec.eql rfl rfl rfl ?_)
          refine WL_step rfl rfl (Exec.move (v := Value.bool (decide ((y66165.length : Int) = 0))) rfl rfl ?_)
          by_cases hc66193 : (decide ((y66165.length : Int) = 0)) = true
          · refine WL_run rfl (yield_of rfl (congrArg Value.bool hc66193)) rfl (Exec.move (v := errV 34 (y66166)) rfl rfl ?_)
            refine WL_run rfl (yield_of rfl (congrArg Value.bool hc66193)) rfl (Exec.call rfl rfl Tryd.func14 rfl N14 (args_cons rfl (args_cons rfl args_nil)) ((base_Is_sim (base_Is_tot y66166 2) hS66185 ).mono ?_))
            rintro _ w66194 ⟨_, rfl, ⟨s66195, l66196, hS66197, rfl⟩⟩
            refine ⟨_, rfl, ?_⟩
            refine WL_step rfl rfl (Exec.pick_t (v := Value.bool ((base_Is_t y66166 2))) rfl (congrArg Value.bool hc66193) rfl ?_)
            refine WL_step rfl rfl (Exec.assign (v := Value.bool ((base_Is_t y66166 2))) rfl rfl ?_)
            refine WL_nil (at_normal ?_)
            have hS66198 := (hS66197).drop
            have hS66199 := (hS66198).drop
            exact ⟨s66195, l66196, hS66199, (congrArg Value.bool (and_t hc66193)).symm⟩
          · replace hc66193 := not_true hc66193
            refine WL_pass rfl (yield_of rfl (congrArg Value.bool hc66193)) rfl rfl ?_
            refine WL_pass rfl (yield_of rfl (congrArg Value.bool hc66193)) rfl rfl ?_
            refine WL_step rfl rfl (Exec.pick_f (v := Value.bool (false)) rfl (congrArg Value.bool hc66193) rfl ?_)
            refine WL_step rfl rfl (Exec.assign (v := Value.bool (false)) rfl rfl ?_)
            refine WL_nil (at_normal ?_)
            have hS66200 := (hS66185).drop
            have hS66201 := (hS66200).drop
            exact ⟨s66183, (PHeap.le_refl _), hS66201, (congrArg Value.bool (and_f hc66193)).symm⟩
        · intro f66202 w66203 hM66204
          obtain ⟨s66205, l66206, hS66207, p66208⟩ := hM66204
          refine (at_normal ?_)
          refine W_ret (at_ret ?_)
          have e66210 := Option.some.inj hm
          subst r
          refine ⟨_, ret1 rfl, ?_⟩
          exact ⟨s66205, (PHeap.le.trans (PHeap.le.trans (PHeap.le.trans l66132 l66169) l66184) l66206), hS66207, p66208⟩
      · refine W_cond_f rfl hc66186 ?_
        replace hc66186 := not_true hc66186
        refine W_skip (at_normal ?_)
        refine W_seq ?_
        obtain ⟨z66228, ht66229, hm⟩ := bind_some hm
        refine W_mid (M := fun f' w' => (fun (z66228 : Bool) => ∃ (s66230 : PHeap) , PHeap.le s66183 s66230 ∧ St w0 s66230 (H) w' ∧ f' 2 = Value.bool (z66228)) z66228) ?_ ?_
        · refine W_region ?_
          refine WL_step rfl rfl (Exec.move (v := errV 34 (y66166)) rfl rfl ?_)
          refine WL_step rfl rfl (Exec.err_eql_nil (T := 34) Tryd.underlying30 rfl rfl rfl ?_)
          refine WL_step rfl rfl (Exec.move (v := Value.bool (y66166.isNone)) rfl rfl ?_)
          rcases ite_some ht66229 with ⟨hc66231, ht66229⟩ | ⟨hc66231, ht66229⟩
          · refine WL_run rfl (yield_of rfl (congrArg Value.bool hc66231)) rfl (Exec.move (v := v66171) rfl rfl ?_)
            refine WL_run rfl (yield_of rfl (congrArg Value.bool hc66231)) rfl (Exec.load_box_agg (ds := [Value.int .i64 (x65907.States), Value.int .i64 (x65907.Init), v65908, v65910, v65912]) ((hS66185).f1) A26 rfl p66134 rfl ?_)
            obtain ⟨y66234, q66233, ht66229⟩ := bind_some ht66229
            refine WL_run rfl (yield_of rfl (congrArg Value.bool hc66231)) rfl (Exec.call rfl rfl Tryd.func16 rfl N16 (args_cons rfl args_nil) ((ref45_Bisimulation_sim q66233 hS66185 (a65909.mono (PHeap.le.trans (PHeap.le.trans l66132 l66169) l66184)) (a65911.mono (PHeap.le.trans (PHeap.le.trans l66132 l66169) l66184)) (a65913.mono (PHeap.le.trans (PHeap.le.trans l66132 l66169) l66184))).mono ?_))
            rintro _ w66235 ⟨v66239, rfl, ⟨s66236, _, l66237, hS66238, rfl⟩⟩
            refine ⟨_, rfl, ?_⟩
            obtain ⟨y66242, q66241, ht66229⟩ := bind_some ht66229
            have hS66243 := (hS66238).f1
            refine WL_run rfl (yield_of rfl (congrArg Value.bool hc66231)) rfl (Exec.call rfl rfl Tryd.func15 rfl N15 (args_cons rfl (args_cons rfl args_nil)) ((base_Ints_o_o_sim q66241 hS66243 ).mono ?_))
            rintro _ w66244 ⟨_, rfl, ⟨s66245, l66246, hS66247, rfl⟩⟩
            refine ⟨_, rfl, ?_⟩
            refine WL_step rfl rfl (Exec.pick_t (v := Value.bool (y66242)) rfl (congrArg Value.bool hc66231) rfl ?_)
            refine WL_step rfl rfl (Exec.assign (v := Value.bool (y66242)) rfl rfl ?_)
            refine WL_nil (at_normal ?_)
            have e66248 := Option.some.inj ht66229
            subst z66228
            have hS66249 := (hS66247).drop
            have hS66250 := (hS66249).drop
            have hS66251 := (hS66250).drop
            exact ⟨s66245, (PHeap.le.trans l66237 l66246), hS66251, rfl⟩
          · replace hc66231 := not_true hc66231
            refine WL_pass rfl (yield_of rfl (congrArg Value.bool hc66231)) rfl rfl ?_
            refine WL_pass rfl (yield_of rfl (congrArg Value.bool hc66231)) rfl rfl ?_
            refine WL_pass rfl (yield_of rfl (congrArg Value.bool hc66231)) rfl rfl ?_
            refine WL_pass rfl (yield_of rfl (congrArg Value.bool hc66231)) rfl rfl ?_
            refine WL_step rfl rfl (Exec.pick_f (v := Value.bool (false)) rfl (congrArg Value.bool hc66231) rfl ?_)
            refine WL_step rfl rfl (Exec.assign (v := Value.bool (false)) rfl rfl ?_)
            refine WL_nil (at_normal ?_)
            have e66252 := Option.some.inj ht66229
            subst z66228
            have hS66253 := (hS66185).drop
            have hS66254 := (hS66253).drop
            exact ⟨s66183, (PHeap.le_refl _), hS66254, rfl⟩
        · intro f66255 w66256 hM66257
          obtain ⟨s66258, l66259, hS66260, p66261⟩ := hM66257
          refine (at_normal ?_)
          refine W_ret ?_
          have e66263 := Option.some.inj hm
          subst r
          refine ⟨_, ret1 rfl, ?_⟩
          exact ⟨s66258, (PHeap.le.trans (PHeap.le.trans (PHeap.le.trans l66132 l66169) l66184) l66259), hS66260, p66261⟩

end Go.Pw
