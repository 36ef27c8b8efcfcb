/-
  The walks (printed by my generator).
-/
import Derived.Test.YtagooehmocpcjaaDoorMg2
import Derived.Test.YtagooehmocpcjaaDoorMgDl
set_option maxRecDepth 100000
set_option maxHeartbeats 4000000
set_option linter.unusedVariables false
namespace Go.Pw
open Go.Proofs
theorem N17 : (Tryd.f17.name == "runtime.NumGoroutine") = false := by kernel_rfl

theorem shrink_Merge_sim {w0 w : World} {s : PHeap} {H : List Res} {x14351 : System} {most14358 : Int} {v14352 : Value} {v14354 : Value} {v14356 : Value} {r : (List Int) × (Option Int)} (hm : shrink_Merge_p x14351 most14358 = some r) (hS : St w0 s (H) w) (a14353 : SliceRep (encInt .i64) s v14352 x14351.Costs) (a14355 : SliceRep encEdge s v14354 x14351.Edges) (a14357 : SliceRep encBool s v14356 x14351.Goals) :
    Calls Tryd.prog 17 #[Value.agg #[Value.int .i64 (x14351.States), Value.int .i64 (x14351.Init), v14352, v14354, v14356], Value.int .i64 (most14358)] w fun e w' => ∃ v, e = .returned v ∧ ((un2 fun (y19158 : (List Int)) (y19159 : (Option Int)) => ∃ (s19161 : PHeap) (v19160 : Value), PHeap.le s s19161 ∧ St w0 s19161 (Res.arr (encInt .i64) 3 v19160 y19158 :: H) w' ∧ v = Value.tuple #[v19160, errV 34 (y19159)]) r) := by
  unfold shrink_Merge_p at hm
  refine calls_of_W Tryd.func17 rfl rfl ?_
  refine W_seq ?_
  refine W_region ?_
  refine WL_step rfl rfl (Exec.box (cs := [Value.int .i64 (x14351.States), Value.int .i64 (x14351.Init), v14352, v14354, v14356]) hS rfl rfl rfl ?_)
  intro b19165 w19166 hS19167
  refine WL_step rfl rfl (Exec.assign (v := Value.slice none 0 0) rfl rfl ?_)
  refine WL_step rfl rfl (Exec.assign (v := errV 34 (none)) rfl rfl ?_)
  refine WL_nil (at_normal ?_)
  refine W_seq ?_
  refine W_region ?_
  refine WL_step rfl rfl (Exec.load_box_agg (ds := [Value.int .i64 (x14351.States), Value.int .i64 (x14351.Init), v14352, v14354, v14356]) (hS19167) A26 rfl rfl rfl ?_)
  obtain ⟨t19177, q19178, hm⟩ := bind_some hm
  obtain ⟨y19179, y19180⟩ := t19177
  replace hm := un2_eq hm
  refine WL_step rfl rfl (Exec.call rfl rfl Tryd.func12 rfl N12 (args_cons rfl args_nil) ((shrink_Bisimulation_sim q19178 hS19167 a14353 a14355 a14357).mono ?_))
  rintro _ w19181 ⟨_, rfl, ⟨s19182, v19185, l19183, hS19184, rfl⟩⟩
  refine ⟨_, rfl, ?_⟩
  refine WL_step rfl rfl (Exec.move (v := Value.tuple #[v19185, errV 34 (y19180)]) rfl rfl ?_)
  refine WL_step rfl rfl (Exec.extract (v := v19185) rfl rfl rfl ?_)
  refine WL_step rfl rfl (Exec.extract (v := errV 34 (y19180)) rfl rfl rfl ?_)
  refine WL_step rfl rfl (Exec.assign (v := v19185) rfl rfl ?_)
  refine WL_step rfl rfl (Exec.assign (v := errV 34 (y19180)) rfl rfl ?_)
  refine WL_nil (at_normal ?_)
  refine W_seq ?_
  refine W_seq ?_
  refine W_region ?_
  refine WL_step rfl rfl (Exec.move (v := errV 34 (y19180)) rfl rfl ?_)
  refine WL_step rfl rfl (Exec.err_neq_nil (T := 34) Tryd.underlying30 rfl rfl rfl ?_)
  refine WL_nil (at_normal ?_)
  rcases ite_some hm with ⟨hc19186, hm⟩ | ⟨hc19186, hm⟩
  · refine W_cond_t rfl hc19186 ?_
    refine W_seq ?_
    refine W_region ?_
    refine WL_step rfl rfl (Exec.move (v := errV 34 (y19180)) rfl rfl ?_)
    refine WL_step rfl rfl (Exec.assign (v := Value.slice none 0 0) rfl rfl ?_)
    refine WL_step rfl rfl (Exec.assign (v := errV 34 (y19180)) rfl rfl ?_)
    refine WL_nil (at_normal ?_)
    refine W_ret (at_ret ?_)
    have e19188 := Option.some.inj hm
    subst r
    refine ⟨_, ret2 rfl, ?_⟩
    have hS19189 := hS19184.nilArr (encInt .i64) 3
    have hS19190 := ((hS19189).f1).drop
    have hS19191 := ((hS19190).f1).drop
    exact ⟨s19182, (Value.slice none 0 0), l19183, hS19191, (tup2 rfl rfl)⟩
  · refine W_cond_f rfl hc19186 ?_
    replace hc19186 := not_true hc19186
    refine W_skip (at_normal ?_)
    refine W_seq ?_
    refine W_region ?_
    refine WL_step rfl rfl (Exec.move (v := Value.int .i64 (most14358)) rfl rfl ?_)
    refine WL_step rfl rfl (Exec.min2 rfl rfl rfl ?_)
    refine WL_step rfl rfl (Exec.max2 rfl rfl rfl ?_)
    refine WL_step rfl rfl (Exec.assign (v := Value.int .i64 (max 1 (min most14358 4096))) rfl rfl ?_)
    refine WL_nil (at_normal ?_)
    refine W_seq ?_
    refine W_region ?_
    refine WL_step rfl rfl (Exec.move (v := v19185) rfl rfl ?_)
    obtain ⟨y19206, q19205, hm⟩ := bind_some hm
    refine WL_step rfl rfl (Exec.call rfl rfl Tryd.func33 rfl N33 (args_cons rfl args_nil) ((slices_Max___int_int__o_sim q19205 hS19184 ).mono ?_))
    rintro _ w19207 ⟨_, rfl, ⟨s19208, l19209, hS19210, rfl⟩⟩
    refine ⟨_, rfl, ?_⟩
    refine WL_step rfl rfl (Exec.add rfl rfl rfl ?_)
    obtain ⟨l19211, q19212, hm⟩ := bind_some hm
    refine WL_step rfl rfl (Exec.make (E := encBool) hS19210 S24 Z4 rfl rfl rfl rfl q19212 ?_)
    intro v19213 w19214 hS19215
    refine WL_step rfl rfl (Exec.assign (v := v19213) rfl rfl ?_)
    refine WL_nil (at_normal ?_)
    refine W_seq ?_
    refine W_seq ?_
    refine W_region ?_
    refine WL_step rfl rfl (Exec.move (v := v19185) rfl rfl ?_)
    refine WL_step rfl rfl (Exec.len_arr ((hS19215).f1) S22 rfl rfl ?_)
    refine WL_step rfl rfl (Exec.move (v := Value.int .i64 (0)) rfl rfl ?_)
    refine WL_nil (at_normal ?_)
    obtain ⟨l19266, hB19317, hm⟩ := bind_some hm
    refine W_block (W_forS (fun k' s' f' w' => (fun (l19266 : (List Bool)) => ∃ (s19318 : PHeap) , PHeap.le s19208 s19318 ∧ St w0 s19318 (Res.box b19165 26 [Value.int .i64 (x14351.States), Value.int .i64 (x14351.Init), v14352, v14354, v14356] :: Res.arr (encInt .i64) 3 v19185 y19179 :: Res.arr encBool 4 v19213 l19266 :: H) w' ∧ f' 1 = Value.int .i64 (max 1 (min most14358 4096)) ∧ f' 2 = Value.pointer (some ⟨b19165, 0, none⟩) ∧ f' 6 = v19185 ∧ f' 8 = v19213 ∧ f' 30 = v19185 ∧ f' 31 = Value.int .i64 ((y19179.length : Int)) ∧ f' 32 = Value.int .i64 (k' : Int)) s') hB19317 ?_ ?_ ?_)
    · have hS19319 := (hS19215).f1
      have hS19320 := (hS19319).f2
      exact ⟨s19208, (PHeap.le_refl _), hS19320, rfl, rfl, rfl, rfl, rfl, rfl, rfl⟩
    · intro i19216 l19266 s19322 f19323 w19324 hi19325 hI19326 hm19327
      obtain ⟨s19328, l19329, hS19330, p19331, p19332, p19333, p19334, p19335, p19336, x19337⟩ := hI19326
      refine W_seq ?_
      refine W_region ?_
      refine WL_step rfl rfl (Exec.lss rfl x19337 p19336 ?_)
      refine WL_nil (at_normal ?_)
      refine W_seq ?_
      refine W_true (congrArg Value.bool (decide_eq_true (by omega))) ?_
      refine W_skip (at_normal ?_)
      refine W_seq ?_
      refine W_block ?_
      refine W_seq ?_
      refine W_region ?_
      refine WL_step rfl rfl (Exec.move (v := Value.int .i64 ((i19216 : Int))) rfl x19337 ?_)
      obtain ⟨x19345, q19346, hm19327⟩ := bind_some hm19327
      obtain ⟨g19347, c19348, e19349⟩ := ((hS19330).f1).arr_at q19346
      refine WL_step rfl rfl (Exec.index_slice S22 rfl (Eq.trans p19335 e19349) x19337 (idx_some q19346).1 (idx_some q19346).2.1 ?_)
      refine WL_step rfl rfl (Exec.load_arr (F := (encInt .i64)) ((hS19330).f1) e19349 A3 rfl rfl rfl q19346 (Sub.refl _) ?_)
      intro v19350 q19351
      obtain rfl := encInt_val.1 q19351
      refine WL_step rfl rfl (Exec.assign (v := Value.int .i64 ((i19216 : Int))) rfl rfl ?_)
      refine WL_step rfl rfl (Exec.assign (v := Value.int .i64 (x19345)) rfl rfl ?_)
      refine WL_nil (at_normal ?_)
      refine W_region ?_
      refine WL_step rfl rfl (Exec.move (v := v19213) rfl p19334 ?_)
      refine WL_step rfl rfl (Exec.move (v := Value.int .i64 (x19345)) rfl rfl ?_)
      refine WL_step rfl rfl (Exec.field F26_4 rfl p19332 rfl ?_)
      refine WL_step rfl rfl (Exec.load_box (hS19330) A24 rfl rfl rfl ?_)
      refine WL_step rfl rfl (Exec.move (v := Value.int .i64 ((i19216 : Int))) rfl rfl ?_)
      obtain ⟨x19369, q19370, hm19327⟩ := bind_some hm19327
      refine WL_step rfl rfl (Exec.index_rep S24 rfl rfl rfl (a14357.mono (PHeap.le.trans (PHeap.le.trans l19183 l19209) l19329)) q19370 ?_)
      intro b19371 o19372 a19373
      refine WL_step rfl rfl (Exec.load_at (E := encBool) hS19330 A4 rfl rfl rfl a19373 ?_)
      intro v19374 q19375
      obtain rfl := encBool_val.1 q19375
      obtain ⟨x19376, q19377, hm19327⟩ := bind_some hm19327
      obtain ⟨g19378, c19379, e19380⟩ := ((hS19330).f2).arr_at q19377
      refine WL_step rfl rfl (Exec.index_slice S24 rfl e19380 rfl (idx_some q19377).1 (idx_some q19377).2.1 ?_)
      obtain ⟨l19381, q19382, hm19327⟩ := bind_some hm19327
      have hS19383 := (hS19330).f2
      refine WL_step rfl rfl (Exec.store_arr hS19383 e19380 A4 rfl rfl rfl rfl (encBool_val.2 rfl) q19382 ?_)
      intro w19384 hS19385
      refine WL_nil (ib_normal (at_normal ?_))
      refine W_region ?_
      refine WL_step rfl rfl (Exec.add rfl x19337 rfl ?_)
      refine WL_step rfl rfl (Exec.move (v := Value.int .i64 (IntKind.i64.wrap ((i19216 : Int) + 1))) rfl rfl ?_)
      refine WL_nil (at_normal ?_)
      have e19386 := Option.some.inj hm19327
      subst s19322
      have hS19387 := (hS19385).f2
      have hS19388 := (hS19387).f2
      exact ⟨s19328, l19329, hS19388, p19331, p19332, p19333, p19334, p19335, p19336, (Eq.trans rfl (wrap_up hi19325 ((hS19215).f1).arr_le))⟩
    · intro f19389 w19390 hI19391
      obtain ⟨s19392, l19393, hS19394, p19395, p19396, p19397, p19398, p19399, p19400, x19401⟩ := hI19391
      refine W_seq ?_
      refine W_region ?_
      refine WL_step rfl rfl (Exec.lss rfl x19401 p19400 ?_)
      refine WL_nil (at_normal ?_)
      refine W_seq ?_
      refine W_false (congrArg Value.bool (decide_eq_false (by omega))) ?_
      refine W_exit (at_exit (at_exit (ib_here (at_normal ?_))))
      refine W_seq ?_
      obtain ⟨c20807, hB20808, hr20809, hn20810, hb20811⟩ := ctl_some hm
      refine W_mid (M := fun f' w' => ∃ s', (c20807 = .next s' ∨ c20807 = .brk s') ∧ (un2 fun (l20804 : (List Int)) (l20805 : (List Bool)) => ∃ (s20813 : PHeap) (v20806 : Value), PHeap.le s19392 s20813 ∧ St w0 s20813 (Res.arr (encInt .i64) 3 v19185 l20804 :: Res.arr encBool 4 v20806 l20805 :: H) w' ∧ f' 1 = Value.int .i64 (max 1 (min most14358 4096)) ∧ f' 6 = v19185 ∧ f' 8 = v20806) s') ?_ ?_
      · refine W_block (W_while (fun s' f' w' => (un2 fun (l19867 : (List Int)) (l19868 : (List Bool)) => ∃ (s20812 : PHeap) (v19869 : Value), PHeap.le s19392 s20812 ∧ St w0 s20812 (Res.arr (encInt .i64) 3 v19185 l19867 :: Res.arr encBool 4 v19869 l19868 :: H) w' ∧ f' 1 = Value.int .i64 (max 1 (min most14358 4096)) ∧ f' 6 = v19185 ∧ f' 8 = v19869) s') hB20808 ?_ ?_)
        · have hS20814 := (hS19394).drop
          have hS20815 := (hS20814).f1
          have hS20816 := (hS20815).f1
          exact ⟨s19392, v19213, (PHeap.le_refl _), hS20816, p19395, p19397, p19398⟩
        · intro t20824 c20818 f20819 w20820 hI20821 hm20822 hres20823
          obtain ⟨l19867, l19868⟩ := t20824
          replace hm20822 := un2_eq hm20822
          obtain ⟨s20825, v19869, l20826, hS20827, p20828, p20829, p20830⟩ := hI20821
          refine W_seq ?_
          refine W_seq ?_
          refine W_region ?_
          refine WL_step rfl rfl (Exec.move (v := v19869) rfl p20830 ?_)
          refine WL_step rfl rfl (Exec.len_arr ((hS20827).f1) S24 rfl rfl ?_)
          refine WL_step rfl rfl (Exec.move (v := Value.int .i64 (max 1 (min most14358 4096))) rfl p20828 ?_)
          refine WL_step rfl rfl (Exec.gtr rfl rfl rfl ?_)
          refine WL_nil (at_normal ?_)
          rcases ite_some hm20822 with ⟨hc20831, hm20822⟩ | ⟨hc20831, hm20822⟩
          · refine W_cond_t rfl hc20831 ?_
            refine W_skip (at_normal ?_)
            refine W_block ?_
            refine W_seq ?_
            refine W_region ?_
            refine WL_step rfl rfl (Exec.move (v := v19869) rfl p20830 ?_)
            obtain ⟨t20841, q20842, hm20822⟩ := bind_some hm20822
            obtain ⟨y20843, y20844⟩ := t20841
            replace hm20822 := un2_eq hm20822
            have hS20845 := (hS20827).f1
            refine WL_step rfl rfl (Exec.call rfl rfl Tryd.func34 rfl N34 (args_cons rfl args_nil) ((shrink_pair_o_sim q20842 hS20845 ).mono ?_))
            rintro _ w20846 ⟨_, rfl, ⟨s20847, l20848, hS20849, rfl⟩⟩
            refine ⟨_, rfl, ?_⟩
            refine WL_step rfl rfl (Exec.move (v := Value.tuple #[Value.int .i64 (y20843), Value.int .i64 (y20844)]) rfl rfl ?_)
            refine WL_step rfl rfl (Exec.extract (v := Value.int .i64 (y20843)) rfl rfl rfl ?_)
            refine WL_step rfl rfl (Exec.extract (v := Value.int .i64 (y20844)) rfl rfl rfl ?_)
            refine WL_step rfl rfl (Exec.assign (v := Value.int .i64 (y20843)) rfl rfl ?_)
            refine WL_step rfl rfl (Exec.assign (v := Value.int .i64 (y20844)) rfl rfl ?_)
            refine WL_nil (at_normal ?_)
            refine W_seq ?_
            refine W_seq ?_
            refine W_region ?_
            refine WL_step rfl rfl (Exec.move (v := v19185) rfl p20829 ?_)
            refine WL_step rfl rfl (Exec.len_arr ((hS20849).f1) S22 rfl rfl ?_)
            refine WL_step rfl rfl (Exec.move (v := Value.int .i64 (0)) rfl rfl ?_)
            refine WL_nil (at_normal ?_)
            obtain ⟨l20980, hB21111, hm20822⟩ := bind_some hm20822
            refine W_block (W_forS (fun k' s' f' w' => (fun (l20980 : (List Int)) => ∃ (s21112 : PHeap) , PHeap.le s20847 s21112 ∧ St w0 s21112 (Res.arr (encInt .i64) 3 v19185 l20980 :: Res.arr encBool 4 v19869 l19868 :: H) w' ∧ f' 1 = Value.int .i64 (max 1 (min most14358 4096)) ∧ f' 6 = v19185 ∧ f' 8 = v19869 ∧ f' 11 = Value.int .i64 (y20843) ∧ f' 12 = Value.int .i64 (y20844) ∧ f' 55 = v19185 ∧ f' 56 = Value.int .i64 ((l19867.length : Int)) ∧ f' 57 = Value.int .i64 (k' : Int)) s') hB21111 ?_ ?_ ?_)
            · have hS21113 := (hS20849).f1
              exact ⟨s20847, (PHeap.le_refl _), hS21113, p20828, p20829, p20830, rfl, rfl, rfl, rfl, rfl⟩
            · intro i20850 l20980 s21115 f21116 w21117 hi21118 hI21119 hm21120
              obtain ⟨s21121, l21122, hS21123, p21124, p21125, p21126, p21127, p21128, p21129, p21130, x21131⟩ := hI21119
              refine W_seq ?_
              refine W_region ?_
              refine WL_step rfl rfl (Exec.lss rfl x21131 p21130 ?_)
              refine WL_nil (at_normal ?_)
              refine W_seq ?_
              refine W_true (congrArg Value.bool (decide_eq_true (by omega))) ?_
              refine W_skip (at_normal ?_)
              refine W_seq ?_
              refine W_block ?_
              refine W_seq ?_
              refine W_region ?_
              refine WL_step rfl rfl (Exec.move (v := Value.int .i64 ((i20850 : Int))) rfl x21131 ?_)
              obtain ⟨x21139, q21140, hm21120⟩ := bind_some hm21120
              obtain ⟨g21141, c21142, e21143⟩ := (hS21123).arr_at q21140
              refine WL_step rfl rfl (Exec.index_slice S22 rfl (Eq.trans p21129 e21143) x21131 (idx_some q21140).1 (idx_some q21140).2.1 ?_)
              refine WL_step rfl rfl (Exec.load_arr (F := (encInt .i64)) (hS21123) e21143 A3 rfl rfl rfl q21140 (Sub.refl _) ?_)
              intro v21144 q21145
              obtain rfl := encInt_val.1 q21145
              refine WL_step rfl rfl (Exec.assign (v := Value.int .i64 ((i20850 : Int))) rfl rfl ?_)
              refine WL_step rfl rfl (Exec.assign (v := Value.int .i64 (x21139)) rfl rfl ?_)
              refine WL_nil (at_normal ?_)
              refine W_seq ?_
              refine W_seq ?_
              refine W_region ?_
              refine WL_step rfl rfl (Exec.move (v := Value.int .i64 (x21139)) rfl rfl ?_)
              refine WL_step rfl rfl (Exec.move (v := Value.int .i64 (y20844)) rfl p21128 ?_)
              refine WL_step rfl rfl (Exec.eql rfl rfl rfl ?_)
              refine WL_nil (at_normal ?_)
              obtain ⟨l21160, ht21161, hm21120⟩ := bind_some hm21120
              refine W_mid (M := fun f' w' => (fun (l21160 : (List Int)) => ∃ (s21162 : PHeap) , PHeap.le s21121 s21162 ∧ St w0 s21162 (Res.arr (encInt .i64) 3 v19185 l21160 :: Res.arr encBool 4 v19869 l19868 :: H) w' ∧ f' 1 = Value.int .i64 (max 1 (min most14358 4096)) ∧ f' 6 = v19185 ∧ f' 8 = v19869 ∧ f' 11 = Value.int .i64 (y20843) ∧ f' 12 = Value.int .i64 (y20844) ∧ f' 13 = Value.int .i64 ((i20850 : Int)) ∧ f' 14 = Value.int .i64 (x21139) ∧ f' 55 = v19185 ∧ f' 56 = Value.int .i64 ((l19867.length : Int)) ∧ f' 57 = Value.int .i64 ((i20850 : Int))) l21160) ?_ ?_
              · rcases ite_some ht21161 with ⟨hc21163, ht21161⟩ | ⟨hc21163, ht21161⟩
                · refine W_cond_t rfl hc21163 ?_
                  refine W_region ?_
                  refine WL_step rfl rfl (Exec.move (v := v19185) rfl p21125 ?_)
                  refine WL_step rfl rfl (Exec.move (v := Value.int .i64 ((i20850 : Int))) rfl rfl ?_)
                  refine WL_step rfl rfl (Exec.move (v := Value.int .i64 (y20843)) rfl p21127 ?_)
                  obtain ⟨g21171, c21172, e21173⟩ := (hS21123).arr_at q21140
                  refine WL_step rfl rfl (Exec.index_slice S22 rfl e21173 rfl (idx_some q21140).1 (idx_some q21140).2.1 ?_)
                  obtain ⟨l21174, q21175, ht21161⟩ := bind_some ht21161
                  refine WL_step rfl rfl (Exec.store_arr hS21123 e21173 A3 rfl rfl rfl rfl (encInt_val.2 rfl) q21175 ?_)
                  intro w21176 hS21177
                  refine WL_nil (at_normal ?_)
                  have e21178 := Option.some.inj ht21161
                  subst l21160
                  have hS21179 := (hS21177).f1
                  have hS21180 := (hS21179).f1
                  exact ⟨s21121, (PHeap.le_refl _), hS21180, p21124, p21125, p21126, p21127, p21128, rfl, rfl, p21129, p21130, x21131⟩
                · refine W_cond_f rfl hc21163 ?_
                  replace hc21163 := not_true hc21163
                  refine W_skip (at_normal ?_)
                  have e21181 := Option.some.inj ht21161
                  subst l21160
                  have hS21182 := (hS21123).f1
                  have hS21183 := (hS21182).f1
                  exact ⟨s21121, (PHeap.le_refl _), hS21183, p21124, p21125, p21126, p21127, p21128, rfl, rfl, p21129, p21130, x21131⟩
              · intro f21184 w21185 hM21186
                obtain ⟨s21187, l21188, hS21189, p21190, p21191, p21192, p21193, p21194, p21195, p21196, p21197, p21198, p21199⟩ := hM21186
                refine (at_normal ?_)
                refine W_seq ?_
                refine W_region ?_
                refine WL_step rfl rfl (Exec.move (v := Value.int .i64 (x21139)) rfl p21196 ?_)
                refine WL_step rfl rfl (Exec.move (v := Value.int .i64 (y20844)) rfl p21194 ?_)
                refine WL_step rfl rfl (Exec.gtr rfl rfl rfl ?_)
                refine WL_nil (at_normal ?_)
                obtain ⟨l21218, ht21219, hm21120⟩ := bind_some hm21120
                refine W_mid (M := fun f' w' => (fun (l21218 : (List Int)) => ∃ (s21220 : PHeap) , PHeap.le s21187 s21220 ∧ St w0 s21220 (Res.arr (encInt .i64) 3 v19185 l21218 :: Res.arr encBool 4 v19869 l19868 :: H) w' ∧ f' 1 = Value.int .i64 (max 1 (min most14358 4096)) ∧ f' 6 = v19185 ∧ f' 8 = v19869 ∧ f' 11 = Value.int .i64 (y20843) ∧ f' 12 = Value.int .i64 (y20844) ∧ f' 55 = v19185 ∧ f' 56 = Value.int .i64 ((l19867.length : Int)) ∧ f' 57 = Value.int .i64 ((i20850 : Int))) l21218) ?_ ?_
                · rcases ite_some ht21219 with ⟨hc21221, ht21219⟩ | ⟨hc21221, ht21219⟩
                  · refine W_cond_t rfl hc21221 ?_
                    refine W_region ?_
                    refine WL_step rfl rfl (Exec.move (v := v19185) rfl p21191 ?_)
                    refine WL_step rfl rfl (Exec.move (v := Value.int .i64 ((i20850 : Int))) rfl p21195 ?_)
                    refine WL_step rfl rfl (Exec.move (v := Value.int .i64 (x21139)) rfl p21196 ?_)
                    refine WL_step rfl rfl (Exec.sub rfl rfl rfl ?_)
                    obtain ⟨x21231, q21232, ht21219⟩ := bind_some ht21219
                    obtain ⟨g21233, c21234, e21235⟩ := (hS21189).arr_at q21232
                    refine WL_step rfl rfl (Exec.index_slice S22 rfl e21235 rfl (idx_some q21232).1 (idx_some q21232).2.1 ?_)
                    obtain ⟨l21236, q21237, ht21219⟩ := bind_some ht21219
                    refine WL_step rfl rfl (Exec.store_arr hS21189 e21235 A3 rfl rfl rfl rfl (encInt_val.2 rfl) q21237 ?_)
                    intro w21238 hS21239
                    refine WL_nil (at_normal ?_)
                    have e21240 := Option.some.inj ht21219
                    subst l21218
                    have hS21241 := (hS21239).f1
                    have hS21242 := (hS21241).f1
                    exact ⟨s21187, (PHeap.le_refl _), hS21242, p21190, p21191, p21192, p21193, p21194, p21197, p21198, p21199⟩
                  · refine W_cond_f rfl hc21221 ?_
                    replace hc21221 := not_true hc21221
                    refine W_skip (at_normal ?_)
                    have e21243 := Option.some.inj ht21219
                    subst l21218
                    have hS21244 := (hS21189).f1
                    have hS21245 := (hS21244).f1
                    exact ⟨s21187, (PHeap.le_refl _), hS21245, p21190, p21191, p21192, p21193, p21194, p21197, p21198, p21199⟩
                · intro f21246 w21247 hM21248
                  obtain ⟨s21249, l21250, hS21251, p21252, p21253, p21254, p21255, p21256, p21257, p21258, p21259⟩ := hM21248
                  refine (ib_normal (at_normal ?_))
                  refine W_region ?_
                  refine WL_step rfl rfl (Exec.add rfl p21259 rfl ?_)
                  refine WL_step rfl rfl (Exec.move (v := Value.int .i64 (IntKind.i64.wrap ((i20850 : Int) + 1))) rfl rfl ?_)
                  refine WL_nil (at_normal ?_)
                  have e21260 := Option.some.inj hm21120
                  subst s21115
                  have hS21261 := (hS21251).f1
                  have hS21262 := (hS21261).f1
                  exact ⟨s21249, (PHeap.le.trans (PHeap.le.trans l21122 l21188) l21250), hS21262, p21252, p21253, p21254, p21255, p21256, p21257, p21258, (Eq.trans rfl (wrap_up hi21118 ((hS20849).f1).arr_le))⟩
            · intro f21263 w21264 hI21265
              obtain ⟨s21266, l21267, hS21268, p21269, p21270, p21271, p21272, p21273, p21274, p21275, x21276⟩ := hI21265
              refine W_seq ?_
              refine W_region ?_
              refine WL_step rfl rfl (Exec.lss rfl x21276 p21275 ?_)
              refine WL_nil (at_normal ?_)
              refine W_seq ?_
              refine W_false (congrArg Value.bool (decide_eq_false (by omega))) ?_
              refine W_exit (at_exit (at_exit (ib_here (at_normal ?_))))
              refine W_region ?_
              refine WL_step rfl rfl (Exec.move (v := v19869) rfl p21271 ?_)
              refine WL_step rfl rfl (Exec.move (v := Value.int .i64 (y20844)) rfl p21273 ?_)
              refine WL_step rfl rfl (Exec.move (v := Value.int .i64 (y20844)) rfl p21273 ?_)
              refine WL_step rfl rfl (Exec.add rfl rfl rfl ?_)
              obtain ⟨l21288, q21287, hm20822⟩ := bind_some hm20822
              have hS21289 := (hS21268).f1
              refine WL_step rfl rfl (Exec.call rfl rfl Tryd.func35 rfl N35 (args_cons rfl (args_cons rfl (args_cons rfl args_nil))) ((delB_sim q21287 hS21289 ).mono ?_))
              rintro _ w21290 ⟨v21294, rfl, ⟨s21291, _, l21292, hS21293, rfl⟩⟩
              refine ⟨_, rfl, ?_⟩
              refine WL_step rfl rfl (Exec.assign (v := v21294) rfl rfl ?_)
              refine WL_nil (ib_normal (at_normal ?_))
              have e21295 := Option.some.inj hm20822
              subst c20818
              have hS21296 := (hS21293).f1
              refine ⟨_, rfl, ?_⟩; exact ⟨s21291, v21294, (PHeap.le.trans (PHeap.le.trans (PHeap.le.trans l20826 l20848) l21267) l21292), hS21296, p21269, p21270, rfl⟩
          · refine W_cond_f rfl hc20831 ?_
            replace hc20831 := not_true hc20831
            refine W_exit (at_exit (at_exit (ib_here (at_normal ?_))))
            have e21297 := Option.some.inj hm20822
            subst c20818
            have hS21298 := (hS20827).f1
            have hS21299 := (hS21298).f1
            refine ⟨_, .inr (hres20823 (by intro _ h; cases h)), ?_⟩; exact ⟨s20825, v19869, l20826, hS21299, p20828, p20829, p20830⟩
      · rintro f21300 w21301 ⟨t21302, hc21303, hM21304⟩
        have hm := hc21303.elim (hn20810 _) (hb20811 _)
        clear hc21303
        obtain ⟨l20804, l20805⟩ := t21302
        replace hm := un2_eq hm
        obtain ⟨s21305, v20806, l21306, hS21307, p21308, p21309, p21310⟩ := hM21304
        refine (at_normal ?_)
        refine W_seq ?_
        refine W_region ?_
        refine WL_step rfl rfl (Exec.move (v := v19185) rfl p21309 ?_)
        refine WL_step rfl rfl (Exec.assign (v := v19185) rfl rfl ?_)
        refine WL_step rfl rfl (Exec.assign (v := errV 34 (none)) rfl rfl ?_)
        refine WL_nil (at_normal ?_)
        refine W_ret ?_
        have e21312 := Option.some.inj hm
        subst r
        refine ⟨_, ret2 rfl, ?_⟩
        have hS21313 := ((hS21307).f1).drop
        exact ⟨s21305, v19185, (PHeap.le.trans (PHeap.le.trans (PHeap.le.trans l19183 l19209) l19393) l21306), hS21313, (tup2 rfl rfl)⟩

theorem N15 : (Tryd.f15.name == "runtime.NumGoroutine") = false := by kernel_rfl

theorem base_Ints_o_sim {w0 w : World} {s : PHeap} {H : List Res} {a21342 : (List Int)} {b21344 : (List Int)} {v21343 : Value} {v21345 : Value} {r : Bool} (hm : base_Ints_o_p a21342 b21344 = some r) (hS : St w0 s (Res.arr (encInt .i64) 3 v21343 a21342 :: H) w) (a21346 : SliceRep (encInt .i64) s v21345 b21344) :
    Calls Tryd.prog 15 #[v21343, v21345] w fun e w' => ∃ v, e = .returned v ∧ ((fun (y21594 : Bool) => ∃ (s21595 : PHeap) , PHeap.le s s21595 ∧ St w0 s21595 (Res.arr (encInt .i64) 3 v21343 a21342 :: H) w' ∧ v = Value.bool (y21594)) r) := by
  unfold base_Ints_o_p at hm
  refine calls_of_W Tryd.func15 rfl rfl ?_
  refine W_seq ?_
  refine W_region ?_
  refine WL_step rfl rfl (Exec.assign (v := Value.bool (false)) rfl rfl ?_)
  refine WL_nil (at_normal ?_)
  refine W_seq ?_
  refine W_seq ?_
  refine W_region ?_
  refine WL_step rfl rfl (Exec.move (v := v21343) rfl rfl ?_)
  refine WL_step rfl rfl (Exec.len_arr (hS) S22 rfl rfl ?_)
  refine WL_step rfl rfl (Exec.move (v := v21345) rfl rfl ?_)
  refine WL_step rfl rfl (Exec.len_rep S22 rfl rfl a21346 ?_)
  refine WL_step rfl rfl (Exec.neq rfl rfl rfl ?_)
  refine WL_nil (at_normal ?_)
  rcases ite_some hm with ⟨hc21596, hm⟩ | ⟨hc21596, hm⟩
  · refine W_cond_t rfl hc21596 ?_
    refine W_seq ?_
    refine W_region ?_
    refine WL_step rfl rfl (Exec.assign (v := Value.bool (false)) rfl rfl ?_)
    refine WL_nil (at_normal ?_)
    refine W_ret (at_ret ?_)
    have e21598 := Option.some.inj hm
    subst r
    refine ⟨_, ret1 rfl, ?_⟩
    exact ⟨s, (PHeap.le_refl _), hS, rfl⟩
  · refine W_cond_f rfl hc21596 ?_
    replace hc21596 := not_true hc21596
    refine W_skip (at_normal ?_)
    refine W_seq ?_
    refine W_seq ?_
    refine W_region ?_
    refine WL_step rfl rfl (Exec.move (v := v21343) rfl rfl ?_)
    refine WL_step rfl rfl (Exec.len_arr (hS) S22 rfl rfl ?_)
    refine WL_step rfl rfl (Exec.move (v := Value.int .i64 (0)) rfl rfl ?_)
    refine WL_nil (at_normal ?_)
    obtain ⟨c21732, hB21733, hr21734, hn21735, hb21736⟩ := ctl_some hm
    refine W_mid (M := fun f' w' => ∃ s', (c21732 = .next s' ∨ c21732 = .brk s') ∧ (fun (_ : Unit) => ∃ (s21738 : PHeap) , PHeap.le s s21738 ∧ St w0 s21738 (Res.arr (encInt .i64) 3 v21343 a21342 :: H) w' ∧ f' 0 = v21343 ∧ f' 1 = v21345 ∧ f' 12 = Value.int .i64 ((a21342.length : Int))) s') ?_ ?_
    · refine W_block (W_forC (fun k' s' f' w' => (fun (_ : Unit) => ∃ (s21737 : PHeap) , PHeap.le s s21737 ∧ St w0 s21737 (Res.arr (encInt .i64) 3 v21343 a21342 :: H) w' ∧ f' 0 = v21343 ∧ f' 1 = v21345 ∧ f' 12 = Value.int .i64 ((a21342.length : Int)) ∧ f' 13 = Value.int .i64 (k' : Int)) s') hB21733 ?_ ?_ ?_)
      · exact ⟨s, (PHeap.le_refl _), hS, rfl, rfl, rfl, rfl⟩
      · intro i21599 t21746 c21740 f21741 w21742 hi21747 hI21743 hm21744 hres21745
        obtain ⟨s21748, l21749, hS21750, p21751, p21752, p21753, x21754⟩ := hI21743
        refine W_seq ?_
        refine W_region ?_
        refine WL_step rfl rfl (Exec.lss rfl x21754 p21753 ?_)
        refine WL_nil (at_normal ?_)
        refine W_seq ?_
        refine W_true (congrArg Value.bool (decide_eq_true (by omega))) ?_
        refine W_skip (at_normal ?_)
        refine W_seq ?_
        refine W_block ?_
        refine W_seq ?_
        refine W_region ?_
        refine WL_step rfl rfl (Exec.move (v := Value.int .i64 ((i21599 : Int))) rfl x21754 ?_)
        refine WL_step rfl rfl (Exec.assign (v := Value.int .i64 ((i21599 : Int))) rfl rfl ?_)
        refine WL_nil (at_normal ?_)
        refine W_seq ?_
        refine W_dl (n0 := 9) (.q 0 (.q 1 (.q 2 (.q 3 (.q 4 (.q 5 (.q 6 (.q 7 (.q 8 .done))))))))) hmix (by kernel_rfl) (by kernel_rfl) ?_
        have hS21803 := hS21750.drew
        refine DL_q rfl rfl (Exec.move (v := v21343) rfl p21751 ⟨rfl, ?_⟩)
        refine DL_q rfl rfl (Exec.move (v := Value.int .i64 ((i21599 : Int))) rfl rfl ⟨rfl, ?_⟩)
        obtain ⟨x21804, q21805, hm21744⟩ := bind_some hm21744
        obtain ⟨g21806, c21807, e21808⟩ := (hS21803).arr_at q21805
        refine DL_q rfl rfl (Exec.index_slice S22 rfl e21808 rfl (idx_some q21805).1 (idx_some q21805).2.1 ⟨rfl, ?_⟩)
        refine DL_q rfl rfl (Exec.load_arr (F := (encInt .i64)) (hS21803) e21808 A3 rfl rfl rfl q21805 (Sub.refl _) ?_)
        intro v21809 q21810
        obtain rfl := encInt_val.1 q21810
        refine ⟨rfl, ?_⟩
        refine DL_q rfl rfl (Exec.move (v := v21345) rfl p21752 ⟨rfl, ?_⟩)
        refine DL_q rfl rfl (Exec.move (v := Value.int .i64 ((i21599 : Int))) rfl rfl ⟨rfl, ?_⟩)
        obtain ⟨x21811, q21812, hm21744⟩ := bind_some hm21744
        refine DL_q rfl rfl (Exec.index_repE S22 rfl rfl rfl (a21346.mono l21749) q21812 ?_)
        intro b21813 o21814 a21815 e21816
        refine ⟨rfl, ?_⟩
        refine DL_q rfl rfl (Exec.load_at (E := (encInt .i64)) hS21803 A3 rfl rfl rfl a21815 ?_)
        intro v21817 q21818
        obtain rfl := encInt_val.1 q21818
        refine ⟨rfl, ?_⟩
        refine DL_q rfl rfl (Exec.neq rfl rfl rfl ⟨rfl, ?_⟩)
        refine DL_done ?_
        refine WL_nil (at_normal ?_)
        rcases ite_some hm21744 with ⟨hc21819, hm21744⟩ | ⟨hc21819, hm21744⟩
        · refine W_cond_t rfl hc21819 ?_
          refine W_seq ?_
          refine W_region ?_
          refine WL_step rfl rfl (Exec.assign (v := Value.bool (false)) rfl rfl ?_)
          refine WL_nil (at_normal ?_)
          refine W_ret (ib_ret (at_ret (at_ret (ib_ret (at_ret (at_ret ?_))))))
          have e21820 := Option.some.inj hm21744
          subst c21740
          have hq21821 := hr21734 _ (hres21745 (by intro _ h; cases h))
          have e21822 := Option.some.inj hq21821
          subst r
          refine ⟨_, ret1 rfl, ?_⟩
          exact ⟨s21748, l21749, hS21803, rfl⟩
        · refine W_cond_f rfl hc21819 ?_
          replace hc21819 := not_true hc21819
          refine W_skip (ib_normal (at_normal ?_))
          refine W_region ?_
          refine WL_step rfl rfl (Exec.add rfl x21754 rfl ?_)
          refine WL_step rfl rfl (Exec.move (v := Value.int .i64 (IntKind.i64.wrap ((i21599 : Int) + 1))) rfl rfl ?_)
          refine WL_nil (at_normal ?_)
          have e21823 := Option.some.inj hm21744
          subst c21740
          refine ⟨_, rfl, ?_⟩; exact ⟨s21748, l21749, hS21803, p21751, p21752, p21753, (Eq.trans rfl (wrap_up hi21747 (hS).arr_le))⟩
      · intro t21824 f21825 w21826 hI21827 hres21828
        obtain ⟨s21829, l21830, hS21831, p21832, p21833, p21834, x21835⟩ := hI21827
        refine W_seq ?_
        refine W_region ?_
        refine WL_step rfl rfl (Exec.lss rfl x21835 p21834 ?_)
        refine WL_nil (at_normal ?_)
        refine W_seq ?_
        refine W_false (congrArg Value.bool (decide_eq_false (by omega))) ?_
        refine W_exit (at_exit (at_exit (ib_here (at_normal ?_))))
        refine ⟨_, .inl hres21828, ?_⟩; exact ⟨s21829, l21830, hS21831, p21832, p21833, p21834⟩
    · rintro f21836 w21837 ⟨t21838, hc21839, hM21840⟩
      have hm := hc21839.elim (hn21735 _) (hb21736 _)
      clear hc21839
      obtain ⟨s21841, l21842, hS21843, p21844, p21845, p21846⟩ := hM21840
      refine (at_normal ?_)
      refine W_seq ?_
      refine W_region ?_
      refine WL_step rfl rfl (Exec.assign (v := Value.bool (true)) rfl rfl ?_)
      refine WL_nil (at_normal ?_)
      refine W_ret ?_
      have e21848 := Option.some.inj hm
      subst r
      refine ⟨_, ret1 rfl, ?_⟩
      exact ⟨s21841, l21842, hS21843, rfl⟩

theorem N10 : (Tryd.f10.name == "runtime.NumGoroutine") = false := by kernel_rfl

theorem law45_awake_sim {w0 w : World} {s : PHeap} {H : List Res}   {r : Bool} (hm : law45_awake_p  = some r) (hS : St w0 s (H) w)  :
    Calls Tryd.prog 10 #[] w fun e w' => ∃ v, e = .returned v ∧ ((fun (y21936 : Bool) => ∃ (s21937 : PHeap) , PHeap.le s s21937 ∧ St w0 s21937 (H) w' ∧ v = Value.bool (y21936)) r) := by
  unfold law45_awake_p at hm
  refine calls_of_W Tryd.func10 rfl rfl ?_
  refine W_seq ?_
  refine W_region ?_
  refine WL_step rfl rfl (Exec.assign (v := Value.bool (false)) rfl rfl ?_)
  refine WL_nil (at_normal ?_)
  refine W_seq ?_
  refine W_region ?_
  refine WL_step rfl rfl (Exec.buildSlice (Te := 3) (cs := [Value.int .i64 (1), Value.int .i64 (1)]) hS rfl (parts_cons (c := [Value.int .i64 (1)]) (cells_of rfl rfl) (parts_cons (c := [Value.int .i64 (1)]) (cells_of rfl rfl) parts_nil)) (fun _ => by kernel_rfl) ?_)
  intro b21952 w21953 hS21954
  refine WL_step rfl rfl (Exec.buildSlice (Te := 4) (cs := [Value.bool (false), Value.bool (false), Value.bool (false), Value.bool (true)]) hS21954 rfl (parts_cons (c := [Value.bool (false)]) (cells_of rfl rfl) (parts_cons (c := [Value.bool (false)]) (cells_of rfl rfl) (parts_cons (c := [Value.bool (false)]) (cells_of rfl rfl) (parts_cons (c := [Value.bool (true)]) (cells_of rfl rfl) parts_nil)))) (fun _ => by kernel_rfl) ?_)
  intro b21955 w21956 hS21957
  refine WL_step rfl rfl (Exec.build rfl (parts_cons (c := [Value.int .i64 (0)]) (cells_of rfl rfl) (parts_cons (c := [Value.int .i64 (0)]) (cells_of rfl rfl) (parts_cons (c := [Value.int .i64 (1)]) (cells_of rfl rfl) parts_nil))) (v := Value.agg #[Value.int .i64 (0), Value.int .i64 (0), Value.int .i64 (1)]) (fun _ => by kernel_rfl) ?_)
  refine WL_step rfl rfl (Exec.build rfl (parts_cons (c := [Value.int .i64 (0)]) (cells_of rfl rfl) (parts_cons (c := [Value.int .i64 (0)]) (cells_of rfl rfl) (parts_cons (c := [Value.int .i64 (2)]) (cells_of rfl rfl) parts_nil))) (v := Value.agg #[Value.int .i64 (0), Value.int .i64 (0), Value.int .i64 (2)]) (fun _ => by kernel_rfl) ?_)
  refine WL_step rfl rfl (Exec.build rfl (parts_cons (c := [Value.int .i64 (1)]) (cells_of rfl rfl) (parts_cons (c := [Value.int .i64 (1)]) (cells_of rfl rfl) (parts_cons (c := [Value.int .i64 (3)]) (cells_of rfl rfl) parts_nil))) (v := Value.agg #[Value.int .i64 (1), Value.int .i64 (1), Value.int .i64 (3)]) (fun _ => by kernel_rfl) ?_)
  refine WL_step rfl rfl (Exec.build rfl (parts_cons (c := [Value.int .i64 (2)]) (cells_of rfl rfl) (parts_cons (c := [Value.int .i64 (1)]) (cells_of rfl rfl) (parts_cons (c := [Value.int .i64 (3)]) (cells_of rfl rfl) parts_nil))) (v := Value.agg #[Value.int .i64 (2), Value.int .i64 (1), Value.int .i64 (3)]) (fun _ => by kernel_rfl) ?_)
  refine WL_step rfl rfl (Exec.buildSlice (Te := 53) (cs := [Value.int .i64 (0), Value.int .i64 (0), Value.int .i64 (1), Value.int .i64 (0), Value.int .i64 (0), Value.int .i64 (2), Value.int .i64 (1), Value.int .i64 (1), Value.int .i64 (3), Value.int .i64 (2), Value.int .i64 (1), Value.int .i64 (3)]) hS21957 rfl (parts_cons (c := [Value.int .i64 (0), Value.int .i64 (0), Value.int .i64 (1)]) (cells_of rfl rfl) (parts_cons (c := [Value.int .i64 (0), Value.int .i64 (0), Value.int .i64 (2)]) (cells_of rfl rfl) (parts_cons (c := [Value.int .i64 (1), Value.int .i64 (1), Value.int .i64 (3)]) (cells_of rfl rfl) (parts_cons (c := [Value.int .i64 (2), Value.int .i64 (1), Value.int .i64 (3)]) (cells_of rfl rfl) parts_nil)))) (fun _ => by kernel_rfl) ?_)
  intro b21958 w21959 hS21960
  refine WL_step rfl rfl (Exec.build rfl (parts_cons (c := [Value.int .i64 (4)]) (cells_of rfl rfl) (parts_cons (c := [Value.slice (some ⟨b21952, 0, none⟩) 2 2]) (cells_of rfl rfl) (parts_cons (c := [Value.slice (some ⟨b21955, 0, none⟩) 4 4]) (cells_of rfl rfl) (parts_cons (c := [Value.slice (some ⟨b21958, 0, none⟩) 4 4]) (cells_of rfl rfl) parts_nil)))) (v := Value.agg #[Value.int .i64 (4), Value.int .i64 (0), Value.slice (some ⟨b21952, 0, none⟩) 2 2, Value.slice (some ⟨b21958, 0, none⟩) 4 4, Value.slice (some ⟨b21955, 0, none⟩) 4 4]) (fun _ => by kernel_rfl) ?_)
  refine WL_step rfl rfl (Exec.alloc (cs := [Value.int .i64 (0), Value.int .i64 (0), Value.slice none 0 0, Value.slice none 0 0, Value.slice none 0 0]) hS21960 Z26 rfl rfl ?_)
  intro b21961 w21962 hS21963
  refine WL_step rfl rfl (Exec.store_box (ds := [Value.int .i64 (4), Value.int .i64 (0), Value.slice (some ⟨b21952, 0, none⟩) 2 2, Value.slice (some ⟨b21958, 0, none⟩) 4 4, Value.slice (some ⟨b21955, 0, none⟩) 4 4]) (es := [Value.int .i64 (4), Value.int .i64 (0), Value.slice (some ⟨b21952, 0, none⟩) 2 2, Value.slice (some ⟨b21958, 0, none⟩) 4 4, Value.slice (some ⟨b21955, 0, none⟩) 4 4]) hS21963 A26 rfl rfl rfl rfl (one_cons rfl (one_cons rfl (one_cons rfl (one_cons rfl (one_cons rfl one_nil))))) (Nat.le_of_ble_eq_true rfl) rfl ?_)
  intro w21964 hS21965
  refine WL_nil (at_normal ?_)
  refine W_seq ?_
  refine W_region ?_
  refine WL_step rfl rfl (Exec.load_box_agg (ds := [Value.int .i64 (4), Value.int .i64 (0), Value.slice (some ⟨b21952, 0, none⟩) 2 2, Value.slice (some ⟨b21958, 0, none⟩) 4 4, Value.slice (some ⟨b21955, 0, none⟩) 4 4]) (hS21965) A26 rfl rfl rfl ?_)
  have hS21993 := (hS21965).f3
  have hS21994 := St.boxArr (E := (encInt .i64)) (xs := [1, 1]) hS21993 ⟨[Value.int .i64 (1)], [Value.int .i64 (1)], rfl, rfl, ⟨[Value.int .i64 (1)], [], rfl, rfl, rfl⟩⟩ (by simp [maxLen])
  obtain ⟨s21995, l21996, hS21997, r21998⟩ := hS21994.freezeArr
  have hS21999 := (hS21997).f1
  have hS22000 := St.boxArr (E := encEdge) (xs := [(⟨0, 0, 1⟩ : Edge), (⟨0, 0, 2⟩ : Edge), (⟨1, 1, 3⟩ : Edge), (⟨2, 1, 3⟩ : Edge)]) hS21999 ⟨[Value.int .i64 (0), Value.int .i64 (0), Value.int .i64 (1)], [Value.int .i64 (0), Value.int .i64 (0), Value.int .i64 (2), Value.int .i64 (1), Value.int .i64 (1), Value.int .i64 (3), Value.int .i64 (2), Value.int .i64 (1), Value.int .i64 (3)], rfl, ⟨[Value.int .i64 (0)], [Value.int .i64 (0), Value.int .i64 (1)], rfl, rfl, ⟨[Value.int .i64 (0)], [Value.int .i64 (1)], rfl, rfl, rfl⟩⟩, ⟨[Value.int .i64 (0), Value.int .i64 (0), Value.int .i64 (2)], [Value.int .i64 (1), Value.int .i64 (1), Value.int .i64 (3), Value.int .i64 (2), Value.int .i64 (1), Value.int .i64 (3)], rfl, ⟨[Value.int .i64 (0)], [Value.int .i64 (0), Value.int .i64 (2)], rfl, rfl, ⟨[Value.int .i64 (0)], [Value.int .i64 (2)], rfl, rfl, rfl⟩⟩, ⟨[Value.int .i64 (1), Value.int .i64 (1), Value.int .i64 (3)], [Value.int .i64 (2), Value.int .i64 (1), Value.int .i64 (3)], rfl, ⟨[Value.int .i64 (1)], [Value.int .i64 (1), Value.int .i64 (3)], rfl, rfl, ⟨[Value.int .i64 (1)], [Value.int .i64 (3)], rfl, rfl, rfl⟩⟩, ⟨[Value.int .i64 (2), Value.int .i64 (1), Value.int .i64 (3)], [], rfl, ⟨[Value.int .i64 (2)], [Value.int .i64 (1), Value.int .i64 (3)], rfl, rfl, ⟨[Value.int .i64 (1)], [Value.int .i64 (3)], rfl, rfl, rfl⟩⟩, rfl⟩⟩⟩⟩ (by simp [maxLen])
  obtain ⟨s22001, l22002, hS22003, r22004⟩ := hS22000.freezeArr
  have hS22005 := (hS22003).f1
  have hS22006 := St.boxArr (E := encBool) (xs := [false, false, false, true]) hS22005 ⟨[Value.bool (false)], [Value.bool (false), Value.bool (false), Value.bool (true)], rfl, rfl, ⟨[Value.bool (false)], [Value.bool (false), Value.bool (true)], rfl, rfl, ⟨[Value.bool (false)], [Value.bool (true)], rfl, rfl, ⟨[Value.bool (true)], [], rfl, rfl, rfl⟩⟩⟩⟩ (by simp [maxLen])
  obtain ⟨s22007, l22008, hS22009, r22010⟩ := hS22006.freezeArr
  obtain ⟨t22011, q22012, hm⟩ := bind_some hm
  obtain ⟨y22013, y22014⟩ := t22011
  replace hm := un2_eq hm
  refine WL_step rfl rfl (Exec.call rfl rfl Tryd.func12 rfl N12 (args_cons rfl args_nil) ((shrink_Bisimulation_sim q22012 hS22009 (r21998.mono (PHeap.le.trans l22002 l22008)) (r22004.mono l22008) r22010).mono ?_))
  rintro _ w22015 ⟨_, rfl, ⟨s22016, v22019, l22017, hS22018, rfl⟩⟩
  refine ⟨_, rfl, ?_⟩
  refine WL_step rfl rfl (Exec.move (v := Value.tuple #[v22019, errV 34 (y22014)]) rfl rfl ?_)
  refine WL_step rfl rfl (Exec.extract (v := v22019) rfl rfl rfl ?_)
  refine WL_step rfl rfl (Exec.extract (v := errV 34 (y22014)) rfl rfl rfl ?_)
  refine WL_step rfl rfl (Exec.assign (v := v22019) rfl rfl ?_)
  refine WL_step rfl rfl (Exec.assign (v := errV 34 (y22014)) rfl rfl ?_)
  refine WL_nil (at_normal ?_)
  refine W_seq ?_
  refine W_region ?_
  refine WL_step rfl rfl (Exec.load_box_agg (ds := [Value.int .i64 (4), Value.int .i64 (0), Value.slice (some ⟨b21952, 0, none⟩) 2 2, Value.slice (some ⟨b21958, 0, none⟩) 4 4, Value.slice (some ⟨b21955, 0, none⟩) 4 4]) ((hS22018).f1) A26 rfl rfl rfl ?_)
  obtain ⟨t22029, q22030, hm⟩ := bind_some hm
  obtain ⟨y22031, y22032⟩ := t22029
  replace hm := un2_eq hm
  refine WL_step rfl rfl (Exec.call rfl rfl Tryd.func17 rfl N17 (args_cons rfl (args_cons rfl args_nil)) ((shrink_Merge_sim q22030 hS22018 (r21998.mono (PHeap.le.trans (PHeap.le.trans l22002 l22008) l22017)) (r22004.mono (PHeap.le.trans l22008 l22017)) (r22010.mono l22017)).mono ?_))
  rintro _ w22033 ⟨_, rfl, ⟨s22034, v22037, l22035, hS22036, rfl⟩⟩
  refine ⟨_, rfl, ?_⟩
  refine WL_step rfl rfl (Exec.move (v := Value.tuple #[v22037, errV 34 (y22032)]) rfl rfl ?_)
  refine WL_step rfl rfl (Exec.extract (v := v22037) rfl rfl rfl ?_)
  refine WL_step rfl rfl (Exec.extract (v := errV 34 (y22032)) rfl rfl rfl ?_)
  refine WL_step rfl rfl (Exec.assign (v := v22037) rfl rfl ?_)
  refine WL_step rfl rfl (Exec.assign (v := errV 34 (y22032)) rfl rfl ?_)
  refine WL_nil (at_normal ?_)
  refine W_seq ?_
  obtain ⟨z22073, ht22074, hm⟩ := bind_some hm
  refine W_mid (M := fun f' w' => (fun (z22073 : Bool) => ∃ (s22075 : PHeap) , PHeap.le s22034 s22075 ∧ St w0 s22075 (H) w' ∧ f' 0 = Value.bool (z22073)) z22073) ?_ ?_
  · refine W_region ?_
    refine WL_step rfl rfl (Exec.move (v := errV 34 (y22014)) rfl rfl ?_)
    refine WL_step rfl rfl (Exec.err_eql_nil (T := 34) Tryd.underlying30 rfl rfl rfl ?_)
    refine WL_step rfl rfl (Exec.move (v := Value.bool (y22014.isNone)) rfl rfl ?_)
    rcases ite_some ht22074 with ⟨hc22076, ht22074⟩ | ⟨hc22076, ht22074⟩
    · refine WL_run rfl (yield_of rfl (congrArg Value.bool hc22076)) rfl (Exec.move (v := errV 34 (y22032)) rfl rfl ?_)
      refine WL_run rfl (yield_of rfl (congrArg Value.bool hc22076)) rfl (Exec.err_eql_nil (T := 34) Tryd.underlying30 rfl rfl rfl ?_)
      refine WL_step rfl rfl (Exec.pick_t (v := Value.bool (y22032.isNone)) rfl (congrArg Value.bool hc22076) rfl ?_)
      refine WL_step rfl rfl (Exec.move (v := Value.bool (y22032.isNone)) rfl rfl ?_)
      rcases ite_some ht22074 with ⟨hc22077, ht22074⟩ | ⟨hc22077, ht22074⟩
      · refine WL_run rfl (yield_of rfl (congrArg Value.bool hc22077)) rfl (Exec.move (v := v22019) rfl rfl ?_)
        refine WL_run rfl (yield_of rfl (congrArg Value.bool hc22077)) rfl (Exec.buildSlice (Te := 3) (cs := [Value.int .i64 (0), Value.int .i64 (1), Value.int .i64 (1), Value.int .i64 (2)]) hS22036 rfl (parts_cons (c := [Value.int .i64 (0)]) (cells_of rfl rfl) (parts_cons (c := [Value.int .i64 (1)]) (cells_of rfl rfl) (parts_cons (c := [Value.int .i64 (1)]) (cells_of rfl rfl) (parts_cons (c := [Value.int .i64 (2)]) (cells_of rfl rfl) parts_nil)))) (fun _ => by kernel_rfl) ?_)
        intro b22078 w22079 hS22080
        have hS22081 := St.boxArr (E := (encInt .i64)) (xs := [0, 1, 1, 2]) hS22080 ⟨[Value.int .i64 (0)], [Value.int .i64 (1), Value.int .i64 (1), Value.int .i64 (2)], rfl, rfl, ⟨[Value.int .i64 (1)], [Value.int .i64 (1), Value.int .i64 (2)], rfl, rfl, ⟨[Value.int .i64 (1)], [Value.int .i64 (2)], rfl, rfl, ⟨[Value.int .i64 (2)], [], rfl, rfl, rfl⟩⟩⟩⟩ (by simp [maxLen])
        obtain ⟨s22082, l22083, hS22084, r22085⟩ := hS22081.freezeArr
        obtain ⟨y22088, q22087, ht22074⟩ := bind_some ht22074
        have hS22089 := (hS22084).f1
        refine WL_run rfl (yield_of rfl (congrArg Value.bool hc22077)) rfl (Exec.call rfl rfl Tryd.func15 rfl N15 (args_cons rfl (args_cons rfl args_nil)) ((base_Ints_o_sim q22087 hS22089 r22085).mono ?_))
        rintro _ w22090 ⟨_, rfl, ⟨s22091, l22092, hS22093, rfl⟩⟩
        refine ⟨_, rfl, ?_⟩
        refine WL_step rfl rfl (Exec.pick_t (v := Value.bool (y22088)) rfl (congrArg Value.bool hc22077) rfl ?_)
        refine WL_step rfl rfl (Exec.move (v := Value.bool (y22088)) rfl rfl ?_)
        rcases ite_some ht22074 with ⟨hc22094, ht22074⟩ | ⟨hc22094, ht22074⟩
        · refine WL_run rfl (yield_of rfl (congrArg Value.bool hc22094)) rfl (Exec.move (v := v22037) rfl rfl ?_)
          refine WL_run rfl (yield_of rfl (congrArg Value.bool hc22094)) rfl (Exec.buildSlice (Te := 3) (cs := [Value.int .i64 (0), Value.int .i64 (0), Value.int .i64 (0), Value.int .i64 (1)]) hS22093 rfl (parts_cons (c := [Value.int .i64 (0)]) (cells_of rfl rfl) (parts_cons (c := [Value.int .i64 (0)]) (cells_of rfl rfl) (parts_cons (c := [Value.int .i64 (0)]) (cells_of rfl rfl) (parts_cons (c := [Value.int .i64 (1)]) (cells_of rfl rfl) parts_nil)))) (fun _ => by kernel_rfl) ?_)
          intro b22095 w22096 hS22097
          have hS22098 := St.boxArr (E := (encInt .i64)) (xs := [0, 0, 0, 1]) hS22097 ⟨[Value.int .i64 (0)], [Value.int .i64 (0), Value.int .i64 (0), Value.int .i64 (1)], rfl, rfl, ⟨[Value.int .i64 (0)], [Value.int .i64 (0), Value.int .i64 (1)], rfl, rfl, ⟨[Value.int .i64 (0)], [Value.int .i64 (1)], rfl, rfl, ⟨[Value.int .i64 (1)], [], rfl, rfl, rfl⟩⟩⟩⟩ (by simp [maxLen])
          obtain ⟨s22099, l22100, hS22101, r22102⟩ := hS22098.freezeArr
          obtain ⟨y22105, q22104, ht22074⟩ := bind_some ht22074
          have hS22106 := (hS22101).f1
          refine WL_run rfl (yield_of rfl (congrArg Value.bool hc22094)) rfl (Exec.call rfl rfl Tryd.func15 rfl N15 (args_cons rfl (args_cons rfl args_nil)) ((base_Ints_o_sim q22104 hS22106 r22102).mono ?_))
          rintro _ w22107 ⟨_, rfl, ⟨s22108, l22109, hS22110, rfl⟩⟩
          refine ⟨_, rfl, ?_⟩
          refine WL_step rfl rfl (Exec.pick_t (v := Value.bool (y22105)) rfl (congrArg Value.bool hc22094) rfl ?_)
          refine WL_step rfl rfl (Exec.assign (v := Value.bool (y22105)) rfl rfl ?_)
          refine WL_nil (at_normal ?_)
          have e22111 := Option.some.inj ht22074
          subst z22073
          have hS22112 := (hS22110).drop
          have hS22113 := (hS22112).drop
          have hS22114 := (hS22113).drop
          exact ⟨s22108, (PHeap.le.trans (PHeap.le.trans (PHeap.le.trans l22083 l22092) l22100) l22109), hS22114, rfl⟩
        · replace hc22094 := not_true hc22094
          refine WL_pass rfl (yield_of rfl (congrArg Value.bool hc22094)) rfl rfl ?_
          refine WL_pass rfl (yield_of rfl (congrArg Value.bool hc22094)) rfl rfl ?_
          refine WL_pass rfl (yield_of rfl (congrArg Value.bool hc22094)) rfl rfl ?_
          refine WL_step rfl rfl (Exec.pick_f (v := Value.bool (false)) rfl (congrArg Value.bool hc22094) rfl ?_)
          refine WL_step rfl rfl (Exec.assign (v := Value.bool (false)) rfl rfl ?_)
          refine WL_nil (at_normal ?_)
          have e22115 := Option.some.inj ht22074
          subst z22073
          have hS22116 := (hS22093).drop
          have hS22117 := (hS22116).drop
          have hS22118 := (hS22117).drop
          exact ⟨s22091, (PHeap.le.trans l22083 l22092), hS22118, rfl⟩
      · replace hc22077 := not_true hc22077
        refine WL_pass rfl (yield_of rfl (congrArg Value.bool hc22077)) rfl rfl ?_
        refine WL_pass rfl (yield_of rfl (congrArg Value.bool hc22077)) rfl rfl ?_
        refine WL_pass rfl (yield_of rfl (congrArg Value.bool hc22077)) rfl rfl ?_
        refine WL_step rfl rfl (Exec.pick_f (v := Value.bool (false)) rfl (congrArg Value.bool hc22077) rfl ?_)
        refine WL_step rfl rfl (Exec.move (v := Value.bool (false)) rfl rfl ?_)
        refine WL_pass rfl (yield_of rfl rfl) rfl rfl ?_
        refine WL_pass rfl (yield_of rfl rfl) rfl rfl ?_
        refine WL_pass rfl (yield_of rfl rfl) rfl rfl ?_
        refine WL_step rfl rfl (Exec.pick_f (v := Value.bool (false)) rfl rfl rfl ?_)
        refine WL_step rfl rfl (Exec.assign (v := Value.bool (false)) rfl rfl ?_)
        refine WL_nil (at_normal ?_)
        have e22119 := Option.some.inj ht22074
        subst z22073
        have hS22120 := (hS22036).drop
        have hS22121 := (hS22120).drop
        have hS22122 := (hS22121).drop
        exact ⟨s22034, (PHeap.le_refl _), hS22122, rfl⟩
    · replace hc22076 := not_true hc22076
      refine WL_pass rfl (yield_of rfl (congrArg Value.bool hc22076)) rfl rfl ?_
      refine WL_pass rfl (yield_of rfl (congrArg Value.bool hc22076)) rfl rfl ?_
      refine WL_step rfl rfl (Exec.pick_f (v := Value.bool (false)) rfl (congrArg Value.bool hc22076) rfl ?_)
      refine WL_step rfl rfl (Exec.move (v := Value.bool (false)) rfl rfl ?_)
      refine WL_pass rfl (yield_of rfl rfl) rfl rfl ?_
      refine WL_pass rfl (yield_of rfl rfl) rfl rfl ?_
      refine WL_pass rfl (yield_of rfl rfl) rfl rfl ?_
      refine WL_step rfl rfl (Exec.pick_f (v := Value.bool (false)) rfl rfl rfl ?_)
      refine WL_step rfl rfl (Exec.move (v := Value.bool (false)) rfl rfl ?_)
      refine WL_pass rfl (yield_of rfl rfl) rfl rfl ?_
      refine WL_pass rfl (yield_of rfl rfl) rfl rfl ?_
      refine WL_pass rfl (yield_of rfl rfl) rfl rfl ?_
      refine WL_step rfl rfl (Exec.pick_f (v := Value.bool (false)) rfl rfl rfl ?_)
      refine WL_step rfl rfl (Exec.assign (v := Value.bool (false)) rfl rfl ?_)
      refine WL_nil (at_normal ?_)
      have e22123 := Option.some.inj ht22074
      subst z22073
      have hS22124 := (hS22036).drop
      have hS22125 := (hS22124).drop
      have hS22126 := (hS22125).drop
      exact ⟨s22034, (PHeap.le_refl _), hS22126, rfl⟩
  · intro f22127 w22128 hM22129
    obtain ⟨s22130, l22131, hS22132, p22133⟩ := hM22129
    refine (at_normal ?_)
    refine W_ret ?_
    have e22135 := Option.some.inj hm
    subst r
    refine ⟨_, ret1 rfl, ?_⟩
    exact ⟨s22130, (PHeap.le.trans (PHeap.le.trans (PHeap.le.trans (PHeap.le.trans (PHeap.le.trans l21996 l22002) l22008) l22017) l22035) l22131), hS22132, p22133⟩

theorem N32 : (Tryd.f32.name == "runtime.NumGoroutine") = false := by kernel_rfl

theorem ref44_Before_sim {w0 w : World} {s : PHeap} {H : List Res} {a22372 : Edge} {b22373 : Edge}  {r : Bool} (hm : ref44_Before_p a22372 b22373 = some r) (hS : St w0 s (H) w)  :
    Calls Tryd.prog 32 #[Value.agg #[Value.int .i64 (a22372.From), Value.int .i64 (a22372.Label), Value.int .i64 (a22372.To)], Value.agg #[Value.int .i64 (b22373.From), Value.int .i64 (b22373.Label), Value.int .i64 (b22373.To)]] w fun e w' => ∃ v, e = .returned v ∧ ((fun (y22389 : Bool) => ∃ (s22390 : PHeap) , PHeap.le s s22390 ∧ St w0 s22390 (H) w' ∧ v = Value.bool (y22389)) r) := by
  unfold ref44_Before_p at hm
  refine calls_of_W Tryd.func32 rfl rfl ?_
  refine W_seq ?_
  refine W_region ?_
  refine WL_step rfl rfl (Exec.box (cs := [Value.int .i64 (a22372.From), Value.int .i64 (a22372.Label), Value.int .i64 (a22372.To)]) hS rfl rfl rfl ?_)
  intro b22397 w22398 hS22399
  refine WL_step rfl rfl (Exec.box (cs := [Value.int .i64 (b22373.From), Value.int .i64 (b22373.Label), Value.int .i64 (b22373.To)]) hS22399 rfl rfl rfl ?_)
  intro b22400 w22401 hS22402
  refine WL_step rfl rfl (Exec.assign (v := Value.bool (false)) rfl rfl ?_)
  refine WL_nil (at_normal ?_)
  refine W_seq ?_
  refine W_seq ?_
  refine W_region ?_
  refine WL_step rfl rfl (Exec.field F53_0 rfl rfl rfl ?_)
  refine WL_step rfl rfl (Exec.load_box ((hS22402).f1) A3 rfl rfl rfl ?_)
  refine WL_step rfl rfl (Exec.field F53_0 rfl rfl rfl ?_)
  refine WL_step rfl rfl (Exec.load_box (hS22402) A3 rfl rfl rfl ?_)
  refine WL_step rfl rfl (Exec.neq rfl rfl rfl ?_)
  refine WL_nil (at_normal ?_)
  rcases ite_some hm with ⟨hc22403, hm⟩ | ⟨hc22403, hm⟩
  · refine W_cond_t rfl hc22403 ?_
    refine W_seq ?_
    refine W_region ?_
    refine WL_step rfl rfl (Exec.field F53_0 rfl rfl rfl ?_)
    refine WL_step rfl rfl (Exec.load_box ((hS22402).f1) A3 rfl rfl rfl ?_)
    refine WL_step rfl rfl (Exec.field F53_0 rfl rfl rfl ?_)
    refine WL_step rfl rfl (Exec.load_box (hS22402) A3 rfl rfl rfl ?_)
    refine WL_step rfl rfl (Exec.lss rfl rfl rfl ?_)
    refine WL_step rfl rfl (Exec.assign (v := Value.bool (decide (a22372.From < b22373.From))) rfl rfl ?_)
    refine WL_nil (at_normal ?_)
    refine W_ret (at_ret ?_)
    have e22405 := Option.some.inj hm
    subst r
    refine ⟨_, ret1 rfl, ?_⟩
    have hS22406 := (hS22402).drop
    have hS22407 := (hS22406).drop
    exact ⟨s, (PHeap.le_refl _), hS22407, rfl⟩
  · refine W_cond_f rfl hc22403 ?_
    replace hc22403 := not_true hc22403
    refine W_skip (at_normal ?_)
    refine W_seq ?_
    refine W_seq ?_
    refine W_region ?_
    refine WL_step rfl rfl (Exec.field F53_1 rfl rfl rfl ?_)
    refine WL_step rfl rfl (Exec.load_box ((hS22402).f1) A3 rfl rfl rfl ?_)
    refine WL_step rfl rfl (Exec.field F53_1 rfl rfl rfl ?_)
    refine WL_step rfl rfl (Exec.load_box (hS22402) A3 rfl rfl rfl ?_)
    refine WL_step rfl rfl (Exec.neq rfl rfl rfl ?_)
    refine WL_nil (at_normal ?_)
    rcases ite_some hm with ⟨hc22408, hm⟩ | ⟨hc22408, hm⟩
    · refine W_cond_t rfl hc22408 ?_
      refine W_seq ?_
      refine W_region ?_
      refine WL_step rfl rfl (Exec.field F53_1 rfl rfl rfl ?_)
      refine WL_step rfl rfl (Exec.load_box ((hS22402).f1) A3 rfl rfl rfl ?_)
      refine WL_step rfl rfl (Exec.field F53_1 rfl rfl rfl ?_)
      refine WL_step rfl rfl (Exec.load_box (hS22402) A3 rfl rfl rfl ?_)
      refine WL_step rfl rfl (Exec.lss rfl rfl rfl ?_)
      refine WL_step rfl rfl (Exec.assign (v := Value.bool (decide (a22372.Label < b22373.Label))) rfl rfl ?_)
      refine WL_nil (at_normal ?_)
      refine W_ret (at_ret ?_)
      have e22410 := Option.some.inj hm
      subst r
      refine ⟨_, ret1 rfl, ?_⟩
      have hS22411 := (hS22402).drop
      have hS22412 := (hS22411).drop
      exact ⟨s, (PHeap.le_refl _), hS22412, rfl⟩
    · refine W_cond_f rfl hc22408 ?_
      replace hc22408 := not_true hc22408
      refine W_skip (at_normal ?_)
      refine W_seq ?_
      refine W_region ?_
      refine WL_step rfl rfl (Exec.field F53_2 rfl rfl rfl ?_)
      refine WL_step rfl rfl (Exec.load_box ((hS22402).f1) A3 rfl rfl rfl ?_)
      refine WL_step rfl rfl (Exec.field F53_2 rfl rfl rfl ?_)
      refine WL_step rfl rfl (Exec.load_box (hS22402) A3 rfl rfl rfl ?_)
      refine WL_step rfl rfl (Exec.lss rfl rfl rfl ?_)
      refine WL_step rfl rfl (Exec.assign (v := Value.bool (decide (a22372.To < b22373.To))) rfl rfl ?_)
      refine WL_nil (at_normal ?_)
      refine W_ret ?_
      have e22414 := Option.some.inj hm
      subst r
      refine ⟨_, ret1 rfl, ?_⟩
      have hS22415 := (hS22402).drop
      have hS22416 := (hS22415).drop
      exact ⟨s, (PHeap.le_refl _), hS22416, rfl⟩

theorem N13 : (Tryd.f13.name == "runtime.NumGoroutine") = false := by kernel_rfl

theorem ref44_Valid_sim {w0 w : World} {s : PHeap} {H : List Res} {x22158 : System} {v22159 : Value} {v22161 : Value} {v22163 : Value} {r : Bool} (hm : ref44_Valid_p x22158 = some r) (hS : St w0 s (H) w) (a22160 : SliceRep (encInt .i64) s v22159 x22158.Costs) (a22162 : SliceRep encEdge s v22161 x22158.Edges) (a22164 : SliceRep encBool s v22163 x22158.Goals) :
    Calls Tryd.prog 13 #[Value.agg #[Value.int .i64 (x22158.States), Value.int .i64 (x22158.Init), v22159, v22161, v22163]] w fun e w' => ∃ v, e = .returned v ∧ ((fun (y22831 : Bool) => ∃ (s22832 : PHeap) , PHeap.le s s22832 ∧ St w0 s22832 (H) w' ∧ v = Value.bool (y22831)) r) := by
  unfold ref44_Valid_p at hm
  refine calls_of_W Tryd.func13 rfl rfl ?_
  refine W_seq ?_
  refine W_region ?_
  refine WL_step rfl rfl (Exec.box (cs := [Value.int .i64 (x22158.States), Value.int .i64 (x22158.Init), v22159, v22161, v22163]) hS rfl rfl rfl ?_)
  intro b22836 w22837 hS22838
  refine WL_step rfl rfl (Exec.assign (v := Value.bool (false)) rfl rfl ?_)
  refine WL_nil (at_normal ?_)
  refine W_seq ?_
  refine W_seq ?_
  refine W_mid (M := fun f' w' => ∃ (s22845 : PHeap) , PHeap.le s s22845 ∧ St w0 s22845 (Res.box b22836 26 [Value.int .i64 (x22158.States), Value.int .i64 (x22158.Init), v22159, v22161, v22163] :: H) w' ∧ f' 1 = Value.pointer (some ⟨b22836, 0, none⟩) ∧ f' 46 = Value.bool (((decide (x22158.States < 1)) || ((decide (4096 < x22158.States)) || ((decide (x22158.Init < 0)) || ((decide (x22158.States ≤ x22158.Init)) || ((!decide ((x22158.Goals.length : Int) = x22158.States)) || ((decide (4096 < (x22158.Costs.length : Int))) || decide (65536 < (x22158.Edges.length : Int)))))))))) ?_ ?_
  · refine W_region ?_
    refine WL_step rfl rfl (Exec.field F26_0 rfl rfl rfl ?_)
    refine WL_step rfl rfl (Exec.load_box (hS22838) A3 rfl rfl rfl ?_)
    refine WL_step rfl rfl (Exec.lss rfl rfl rfl ?_)
    refine WL_step rfl rfl (Exec.move (v := Value.bool (decide (x22158.States < 1))) rfl rfl ?_)
    by_cases hc22846 : (decide (x22158.States < 1)) = true
    · refine WL_pass rfl (yield_of rfl (congrArg Value.bool hc22846)) rfl rfl ?_
      refine WL_pass rfl (yield_of rfl (congrArg Value.bool hc22846)) rfl rfl ?_
      refine WL_pass rfl (yield_of rfl (congrArg Value.bool hc22846)) rfl rfl ?_
      refine WL_step rfl rfl (Exec.pick_t (v := Value.bool (true)) rfl (congrArg Value.bool hc22846) rfl ?_)
      refine WL_step rfl rfl (Exec.move (v := Value.bool (true)) rfl rfl ?_)
      refine WL_pass rfl (yield_of rfl rfl) rfl rfl ?_
      refine WL_pass rfl (yield_of rfl rfl) rfl rfl ?_
      refine WL_pass rfl (yield_of rfl rfl) rfl rfl ?_
      refine WL_step rfl rfl (Exec.pick_t (v := Value.bool (true)) rfl rfl rfl ?_)
      refine WL_step rfl rfl (Exec.move (v := Value.bool (true)) rfl rfl ?_)
      refine WL_pass rfl (yield_of rfl rfl) rfl rfl ?_
      refine WL_pass rfl (yield_of rfl rfl) rfl rfl ?_
      refine WL_pass rfl (yield_of rfl rfl) rfl rfl ?_
      refine WL_pass rfl (yield_of rfl rfl) rfl rfl ?_
      refine WL_pass rfl (yield_of rfl rfl) rfl rfl ?_
      refine WL_step rfl rfl (Exec.pick_t (v := Value.bool (true)) rfl rfl rfl ?_)
      refine WL_step rfl rfl (Exec.move (v := Value.bool (true)) rfl rfl ?_)
      refine WL_pass rfl (yield_of rfl rfl) rfl rfl ?_
      refine WL_pass rfl (yield_of rfl rfl) rfl rfl ?_
      refine WL_pass rfl (yield_of rfl rfl) rfl rfl ?_
      refine WL_pass rfl (yield_of rfl rfl) rfl rfl ?_
      refine WL_pass rfl (yield_of rfl rfl) rfl rfl ?_
      refine WL_pass rfl (yield_of rfl rfl) rfl rfl ?_
      refine WL_step rfl rfl (Exec.pick_t (v := Value.bool (true)) rfl rfl rfl ?_)
      refine WL_step rfl rfl (Exec.move (v := Value.bool (true)) rfl rfl ?_)
      refine WL_pass rfl (yield_of rfl rfl) rfl rfl ?_
      refine WL_pass rfl (yield_of rfl rfl) rfl rfl ?_
      refine WL_pass rfl (yield_of rfl rfl) rfl rfl ?_
      refine WL_pass rfl (yield_of rfl rfl) rfl rfl ?_
      refine WL_step rfl rfl (Exec.pick_t (v := Value.bool (true)) rfl rfl rfl ?_)
      refine WL_step rfl rfl (Exec.move (v := Value.bool (true)) rfl rfl ?_)
      refine WL_pass rfl (yield_of rfl rfl) rfl rfl ?_
      refine WL_pass rfl (yield_of rfl rfl) rfl rfl ?_
      refine WL_pass rfl (yield_of rfl rfl) rfl rfl ?_
      refine WL_pass rfl (yield_of rfl rfl) rfl rfl ?_
      refine WL_step rfl rfl (Exec.pick_t (v := Value.bool (true)) rfl rfl rfl ?_)
      refine WL_nil (at_normal ?_)
      exact ⟨s, (PHeap.le_refl _), hS22838, rfl, (congrArg Value.bool (or_t hc22846)).symm⟩
    · replace hc22846 := not_true hc22846
      refine WL_run rfl (yield_of rfl (congrArg Value.bool hc22846)) rfl (Exec.field F26_0 rfl rfl rfl ?_)
      refine WL_run rfl (yield_of rfl (congrArg Value.bool hc22846)) rfl (Exec.load_box (hS22838) A3 rfl rfl rfl ?_)
      refine WL_run rfl (yield_of rfl (congrArg Value.bool hc22846)) rfl (Exec.gtr rfl rfl rfl ?_)
      refine WL_step rfl rfl (Exec.pick_f (v := Value.bool (decide (4096 < x22158.States))) rfl (congrArg Value.bool hc22846) rfl ?_)
      refine WL_step rfl rfl (Exec.move (v := Value.bool (decide (4096 < x22158.States))) rfl rfl ?_)
      by_cases hc22847 : (decide (4096 < x22158.States)) = true
      · refine WL_pass rfl (yield_of rfl (congrArg Value.bool hc22847)) rfl rfl ?_
        refine WL_pass rfl (yield_of rfl (congrArg Value.bool hc22847)) rfl rfl ?_
        refine WL_pass rfl (yield_of rfl (congrArg Value.bool hc22847)) rfl rfl ?_
        refine WL_step rfl rfl (Exec.pick_t (v := Value.bool (true)) rfl (congrArg Value.bool hc22847) rfl ?_)
        refine WL_step rfl rfl (Exec.move (v := Value.bool (true)) rfl rfl ?_)
        refine WL_pass rfl (yield_of rfl rfl) rfl rfl ?_
        refine WL_pass rfl (yield_of rfl rfl) rfl rfl ?_
        refine WL_pass rfl (yield_of rfl rfl) rfl rfl ?_
        refine WL_pass rfl (yield_of rfl rfl) rfl rfl ?_
        refine WL_pass rfl (yield_of rfl rfl) rfl rfl ?_
        refine WL_step rfl rfl (Exec.pick_t (v := Value.bool (true)) rfl rfl rfl ?_)
        refine WL_step rfl rfl (Exec.move (v := Value.bool (true)) rfl rfl ?_)
        refine WL_pass rfl (yield_of rfl rfl) rfl rfl ?_
        refine WL_pass rfl (yield_of rfl rfl) rfl rfl ?_
        refine WL_pass rfl (yield_of rfl rfl) rfl rfl ?_
        refine WL_pass rfl (yield_of rfl rfl) rfl rfl ?_
        refine WL_pass rfl (yield_of rfl rfl) rfl rfl ?_
        refine WL_pass rfl (yield_of rfl rfl) rfl rfl ?_
        refine WL_step rfl rfl (Exec.pick_t (v := Value.bool (true)) rfl rfl rfl ?_)
        refine WL_step rfl rfl (Exec.move (v := Value.bool (true)) rfl rfl ?_)
        refine WL_pass rfl (yield_of rfl rfl) rfl rfl ?_
        refine WL_pass rfl (yield_of rfl rfl) rfl rfl ?_
        refine WL_pass rfl (yield_of rfl rfl) rfl rfl ?_
        refine WL_pass rfl (yield_of rfl rfl) rfl rfl ?_
        refine WL_step rfl rfl (Exec.pick_t (v := Value.bool (true)) rfl rfl rfl ?_)
        refine WL_step rfl rfl (Exec.move (v := Value.bool (true)) rfl rfl ?_)
        refine WL_pass rfl (yield_of rfl rfl) rfl rfl ?_
        refine WL_pass rfl (yield_of rfl rfl) rfl rfl ?_
        refine WL_pass rfl (yield_of rfl rfl) rfl rfl ?_
        refine WL_pass rfl (yield_of rfl rfl) rfl rfl ?_
        refine WL_step rfl rfl (Exec.pick_t (v := Value.bool (true)) rfl rfl rfl ?_)
        refine WL_nil (at_normal ?_)
        exact ⟨s, (PHeap.le_refl _), hS22838, rfl, (congrArg Value.bool (Eq.trans (or_f hc22846) (or_t hc22847))).symm⟩
      · replace hc22847 := not_true hc22847
        refine WL_run rfl (yield_of rfl (congrArg Value.bool hc22847)) rfl (Exec.field F26_1 rfl rfl rfl ?_)
        refine WL_run rfl (yield_of rfl (congrArg Value.bool hc22847)) rfl (Exec.load_box (hS22838) A3 rfl rfl rfl ?_)
        refine WL_run rfl (yield_of rfl (congrArg Value.bool hc22847)) rfl (Exec.lss rfl rfl rfl ?_)
        refine WL_step rfl rfl (Exec.pick_f (v := Value.bool (decide (x22158.Init < 0))) rfl (congrArg Value.bool hc22847) rfl ?_)
        refine WL_step rfl rfl (Exec.move (v := Value.bool (decide (x22158.Init < 0))) rfl rfl ?_)
        by_cases hc22848 : (decide (x22158.Init < 0)) = true
        · refine WL_pass rfl (yield_of rfl (congrArg Value.bool hc22848)) rfl rfl ?_
          refine WL_pass rfl (yield_of rfl (congrArg Value.bool hc22848)) rfl rfl ?_
          refine WL_pass rfl (yield_of rfl (congrArg Value.bool hc22848)) rfl rfl ?_
          refine WL_pass rfl (yield_of rfl (congrArg Value.bool hc22848)) rfl rfl ?_
          refine WL_pass rfl (yield_of rfl (congrArg Value.bool hc22848)) rfl rfl ?_
          refine WL_step rfl rfl (Exec.pick_t (v := Value.bool (true)) rfl (congrArg Value.bool hc22848) rfl ?_)
          refine WL_step rfl rfl (Exec.move (v := Value.bool (true)) rfl rfl ?_)
          refine WL_pass rfl (yield_of rfl rfl) rfl rfl ?_
          refine WL_pass rfl (yield_of rfl rfl) rfl rfl ?_
          refine WL_pass rfl (yield_of rfl rfl) rfl rfl ?_
          refine WL_pass rfl (yield_of rfl rfl) rfl rfl ?_
          refine WL_pass rfl (yield_of rfl rfl) rfl rfl ?_
          refine WL_pass rfl (yield_of rfl rfl) rfl rfl ?_
          refine WL_step rfl rfl (Exec.pick_t (v := Value.bool (true)) rfl rfl rfl ?_)
          refine WL_step rfl rfl (Exec.move (v := Value.bool (true)) rfl rfl ?_)
          refine WL_pass rfl (yield_of rfl rfl) rfl rfl ?_
          refine WL_pass rfl (yield_of rfl rfl) rfl rfl ?_
          refine WL_pass rfl (yield_of rfl rfl) rfl rfl ?_
          refine WL_pass rfl (yield_of rfl rfl) rfl rfl ?_
          refine WL_step rfl rfl (Exec.pick_t (v := Value.bool (true)) rfl rfl rfl ?_)
          refine WL_step rfl rfl (Exec.move (v := Value.bool (true)) rfl rfl ?_)
          refine WL_pass rfl (yield_of rfl rfl) rfl rfl ?_
          refine WL_pass rfl (yield_of rfl rfl) rfl rfl ?_
          refine WL_pass rfl (yield_of rfl rfl) rfl rfl ?_
          refine WL_pass rfl (yield_of rfl rfl) rfl rfl ?_
          refine WL_step rfl rfl (Exec.pick_t (v := Value.bool (true)) rfl rfl rfl ?_)
          refine WL_nil (at_normal ?_)
          exact ⟨s, (PHeap.le_refl _), hS22838, rfl, (congrArg Value.bool (Eq.trans (or_f hc22846) (Eq.trans (or_f hc22847) (or_t hc22848)))).symm⟩
        · replace hc22848 := not_true hc22848
          refine WL_run rfl (yield_of rfl (congrArg Value.bool hc22848)) rfl (Exec.field F26_1 rfl rfl rfl ?_)
          refine WL_run rfl (yield_of rfl (congrArg Value.bool hc22848)) rfl (Exec.load_box (hS22838) A3 rfl rfl rfl ?_)
          refine WL_run rfl (yield_of rfl (congrArg Value.bool hc22848)) rfl (Exec.field F26_0 rfl rfl rfl ?_)
          refine WL_run rfl (yield_of rfl (congrArg Value.bool hc22848)) rfl (Exec.load_box (hS22838) A3 rfl rfl rfl ?_)
          refine WL_run rfl (yield_of rfl (congrArg Value.bool hc22848)) rfl (Exec.geq rfl rfl rfl ?_)
          refine WL_step rfl rfl (Exec.pick_f (v := Value.bool (decide (x22158.States ≤ x22158.Init))) rfl (congrArg Value.bool hc22848) rfl ?_)
          refine WL_step rfl rfl (Exec.move (v := Value.bool (decide (x22158.States ≤ x22158.Init))) rfl rfl ?_)
          by_cases hc22849 : (decide (x22158.States ≤ x22158.Init)) = true
          · refine WL_pass rfl (yield_of rfl (congrArg Value.bool hc22849)) rfl rfl ?_
            refine WL_pass rfl (yield_of rfl (congrArg Value.bool hc22849)) rfl rfl ?_
            refine WL_pass rfl (yield_of rfl (congrArg Value.bool hc22849)) rfl rfl ?_
            refine WL_pass rfl (yield_of rfl (congrArg Value.bool hc22849)) rfl rfl ?_
            refine WL_pass rfl (yield_of rfl (congrArg Value.bool hc22849)) rfl rfl ?_
            refine WL_pass rfl (yield_of rfl (congrArg Value.bool hc22849)) rfl rfl ?_
            refine WL_step rfl rfl (Exec.pick_t (v := Value.bool (true)) rfl (congrArg Value.bool hc22849) rfl ?_)
            refine WL_step rfl rfl (Exec.move (v := Value.bool (true)) rfl rfl ?_)
            refine WL_pass rfl (yield_of rfl rfl) rfl rfl ?_
            refine WL_pass rfl (yield_of rfl rfl) rfl rfl ?_
            refine WL_pass rfl (yield_of rfl rfl) rfl rfl ?_
            refine WL_pass rfl (yield_of rfl rfl) rfl rfl ?_
            refine WL_step rfl rfl (Exec.pick_t (v := Value.bool (true)) rfl rfl rfl ?_)
            refine WL_step rfl rfl (Exec.move (v := Value.bool (true)) rfl rfl ?_)
            refine WL_pass rfl (yield_of rfl rfl) rfl rfl ?_
            refine WL_pass rfl (yield_of rfl rfl) rfl rfl ?_
            refine WL_pass rfl (yield_of rfl rfl) rfl rfl ?_
            refine WL_pass rfl (yield_of rfl rfl) rfl rfl ?_
            refine WL_step rfl rfl (Exec.pick_t (v := Value.bool (true)) rfl rfl rfl ?_)
            refine WL_nil (at_normal ?_)
            exact ⟨s, (PHeap.le_refl _), hS22838, rfl, (congrArg Value.bool (Eq.trans (or_f hc22846) (Eq.trans (or_f hc22847) (Eq.trans (or_f hc22848) (or_t hc22849))))).symm⟩
          · replace hc22849 := not_true hc22849
            refine WL_run rfl (yield_of rfl (congrArg Value.bool hc22849)) rfl (Exec.field F26_4 rfl rfl rfl ?_)
            refine WL_run rfl (yield_of rfl (congrArg Value.bool hc22849)) rfl (Exec.load_box (hS22838) A24 rfl rfl rfl ?_)
            refine WL_run rfl (yield_of rfl (congrArg Value.bool hc22849)) rfl (Exec.len_rep S24 rfl rfl a22164 ?_)
            refine WL_run rfl (yield_of rfl (congrArg Value.bool hc22849)) rfl (Exec.field F26_0 rfl rfl rfl ?_)
            refine WL_run rfl (yield_of rfl (congrArg Value.bool hc22849)) rfl (Exec.load_box (hS22838) A3 rfl rfl rfl ?_)
            refine WL_run rfl (yield_of rfl (congrArg Value.bool hc22849)) rfl (Exec.neq rfl rfl rfl ?_)
            refine WL_step rfl rfl (Exec.pick_f (v := Value.bool (!decide ((x22158.Goals.length : Int) = x22158.States))) rfl (congrArg Value.bool hc22849) rfl ?_)
            refine WL_step rfl rfl (Exec.move (v := Value.bool (!decide ((x22158.Goals.length : Int) = x22158.States))) rfl rfl ?_)
            by_cases hc22850 : (!decide ((x22158.Goals.length : Int) = x22158.States)) = true
            · refine WL_pass rfl (yield_of rfl (congrArg Value.bool hc22850)) rfl rfl ?_
              refine WL_pass rfl (yield_of rfl (congrArg Value.bool hc22850)) rfl rfl ?_
              refine WL_pass rfl (yield_of rfl (congrArg Value.bool hc22850)) rfl rfl ?_
              refine WL_pass rfl (yield_of rfl (congrArg Value.bool hc22850)) rfl rfl ?_
              refine WL_step rfl rfl (Exec.pick_t (v := Value.bool (true)) rfl (congrArg Value.bool hc22850) rfl ?_)
              refine WL_step rfl rfl (Exec.move (v := Value.bool (true)) rfl rfl ?_)
              refine WL_pass rfl (yield_of rfl rfl) rfl rfl ?_
              refine WL_pass rfl (yield_of rfl rfl) rfl rfl ?_
              refine WL_pass rfl (yield_of rfl rfl) rfl rfl ?_
              refine WL_pass rfl (yield_of rfl rfl) rfl rfl ?_
              refine WL_step rfl rfl (Exec.pick_t (v := Value.bool (true)) rfl rfl rfl ?_)
              refine WL_nil (at_normal ?_)
              exact ⟨s, (PHeap.le_refl _), hS22838, rfl, (congrArg Value.bool (Eq.trans (or_f hc22846) (Eq.trans (or_f hc22847) (Eq.trans (or_f hc22848) (Eq.trans (or_f hc22849) (or_t hc22850)))))).symm⟩
            · replace hc22850 := not_true hc22850
              refine WL_run rfl (yield_of rfl (congrArg Value.bool hc22850)) rfl (Exec.field F26_2 rfl rfl rfl ?_)
              refine WL_run rfl (yield_of rfl (congrArg Value.bool hc22850)) rfl (Exec.load_box (hS22838) A22 rfl rfl rfl ?_)
              refine WL_run rfl (yield_of rfl (congrArg Value.bool hc22850)) rfl (Exec.len_rep S22 rfl rfl a22160 ?_)
              refine WL_run rfl (yield_of rfl (congrArg Value.bool hc22850)) rfl (Exec.gtr rfl rfl rfl ?_)
              refine WL_step rfl rfl (Exec.pick_f (v := Value.bool (decide (4096 < (x22158.Costs.length : Int)))) rfl (congrArg Value.bool hc22850) rfl ?_)
              refine WL_step rfl rfl (Exec.move (v := Value.bool (decide (4096 < (x22158.Costs.length : Int)))) rfl rfl ?_)
              by_cases hc22851 : (decide (4096 < (x22158.Costs.length : Int))) = true
              · refine WL_pass rfl (yield_of rfl (congrArg Value.bool hc22851)) rfl rfl ?_
                refine WL_pass rfl (yield_of rfl (congrArg Value.bool hc22851)) rfl rfl ?_
                refine WL_pass rfl (yield_of rfl (congrArg Value.bool hc22851)) rfl rfl ?_
                refine WL_pass rfl (yield_of rfl (congrArg Value.bool hc22851)) rfl rfl ?_
                refine WL_step rfl rfl (Exec.pick_t (v := Value.bool (true)) rfl (congrArg Value.bool hc22851) rfl ?_)
                refine WL_nil (at_normal ?_)
                exact ⟨s, (PHeap.le_refl _), hS22838, rfl, (congrArg Value.bool (Eq.trans (or_f hc22846) (Eq.trans (or_f hc22847) (Eq.trans (or_f hc22848) (Eq.trans (or_f hc22849) (Eq.trans (or_f hc22850) (or_t hc22851))))))).symm⟩
              · replace hc22851 := not_true hc22851
                refine WL_run rfl (yield_of rfl (congrArg Value.bool hc22851)) rfl (Exec.field F26_3 rfl rfl rfl ?_)
                refine WL_run rfl (yield_of rfl (congrArg Value.bool hc22851)) rfl (Exec.load_box (hS22838) A23 rfl rfl rfl ?_)
                refine WL_run rfl (yield_of rfl (congrArg Value.bool hc22851)) rfl (Exec.len_rep S23 rfl rfl a22162 ?_)
                refine WL_run rfl (yield_of rfl (congrArg Value.bool hc22851)) rfl (Exec.gtr rfl rfl rfl ?_)
                refine WL_step rfl rfl (Exec.pick_f (v := Value.bool (decide (65536 < (x22158.Edges.length : Int)))) rfl (congrArg Value.bool hc22851) rfl ?_)
                refine WL_nil (at_normal ?_)
                exact ⟨s, (PHeap.le_refl _), hS22838, rfl, (congrArg Value.bool (Eq.trans (or_f hc22846) (Eq.trans (or_f hc22847) (Eq.trans (or_f hc22848) (Eq.trans (or_f hc22849) (Eq.trans (or_f hc22850) (or_f hc22851))))))).symm⟩
  · intro f22852 w22853 hM22854
    obtain ⟨s22855, l22856, hS22857, p22858, p22859⟩ := hM22854
    refine (at_normal ?_)
    rcases ite_some hm with ⟨hc22860, hm⟩ | ⟨hc22860, hm⟩
    · refine W_cond_t p22859 hc22860 ?_
      refine W_seq ?_
      refine W_region ?_
      refine WL_step rfl rfl (Exec.assign (v := Value.bool (false)) rfl rfl ?_)
      refine WL_nil (at_normal ?_)
      refine W_ret (at_ret ?_)
      have e22862 := Option.some.inj hm
      subst r
      refine ⟨_, ret1 rfl, ?_⟩
      have hS22863 := (hS22857).drop
      exact ⟨s22855, l22856, hS22863, rfl⟩
    · refine W_cond_f p22859 hc22860 ?_
      replace hc22860 := not_true hc22860
      refine W_skip (at_normal ?_)
      refine W_seq ?_
      refine W_seq ?_
      refine W_region ?_
      refine WL_step rfl rfl (Exec.field F26_2 rfl p22858 rfl ?_)
      refine WL_step rfl rfl (Exec.load_box (hS22857) A22 rfl rfl rfl ?_)
      refine WL_step rfl rfl (Exec.len_rep S22 rfl rfl (a22160.mono l22856) ?_)
      refine WL_step rfl rfl (Exec.move (v := Value.int .i64 (0)) rfl rfl ?_)
      refine WL_nil (at_normal ?_)
      obtain ⟨c22925, hB22926, hr22927, hn22928, hb22929⟩ := ctl_some hm
      refine W_mid (M := fun f' w' => ∃ s', (c22925 = .next s' ∨ c22925 = .brk s') ∧ (fun (_ : Unit) => ∃ (s22931 : PHeap) , PHeap.le s22855 s22931 ∧ St w0 s22931 (Res.box b22836 26 [Value.int .i64 (x22158.States), Value.int .i64 (x22158.Init), v22159, v22161, v22163] :: H) w' ∧ f' 1 = Value.pointer (some ⟨b22836, 0, none⟩) ∧ f' 48 = v22159 ∧ f' 49 = Value.int .i64 ((x22158.Costs.length : Int))) s') ?_ ?_
      · refine W_block (W_forC (fun k' s' f' w' => (fun (_ : Unit) => ∃ (s22930 : PHeap) , PHeap.le s22855 s22930 ∧ St w0 s22930 (Res.box b22836 26 [Value.int .i64 (x22158.States), Value.int .i64 (x22158.Init), v22159, v22161, v22163] :: H) w' ∧ f' 1 = Value.pointer (some ⟨b22836, 0, none⟩) ∧ f' 48 = v22159 ∧ f' 49 = Value.int .i64 ((x22158.Costs.length : Int)) ∧ f' 50 = Value.int .i64 (k' : Int)) s') hB22926 ?_ ?_ ?_)
        · exact ⟨s22855, (PHeap.le_refl _), hS22857, p22858, rfl, rfl, rfl⟩
        · intro i22864 t22939 c22933 f22934 w22935 hi22940 hI22936 hm22937 hres22938
          obtain ⟨s22941, l22942, hS22943, p22944, p22945, p22946, x22947⟩ := hI22936
          refine W_seq ?_
          refine W_region ?_
          refine WL_step rfl rfl (Exec.lss rfl x22947 p22946 ?_)
          refine WL_nil (at_normal ?_)
          refine W_seq ?_
          refine W_true (congrArg Value.bool (decide_eq_true (by omega))) ?_
          refine W_skip (at_normal ?_)
          refine W_seq ?_
          refine W_block ?_
          refine W_seq ?_
          refine W_region ?_
          obtain ⟨x22955, q22956, hm22937⟩ := bind_some hm22937
          refine WL_step rfl rfl (Exec.index_rep S22 rfl p22945 x22947 (a22160.mono (PHeap.le.trans l22856 l22942)) q22956 ?_)
          intro b22957 o22958 a22959
          refine WL_step rfl rfl (Exec.load_at (E := (encInt .i64)) hS22943 A3 rfl rfl rfl a22959 ?_)
          intro v22960 q22961
          obtain rfl := encInt_val.1 q22961
          refine WL_step rfl rfl (Exec.assign (v := Value.int .i64 (x22955)) rfl rfl ?_)
          refine WL_nil (at_normal ?_)
          refine W_seq ?_
          refine W_mid (M := fun f' w' => ∃ (s22963 : PHeap) , PHeap.le s22941 s22963 ∧ St w0 s22963 (Res.box b22836 26 [Value.int .i64 (x22158.States), Value.int .i64 (x22158.Init), v22159, v22161, v22163] :: H) w' ∧ f' 1 = Value.pointer (some ⟨b22836, 0, none⟩) ∧ f' 48 = v22159 ∧ f' 49 = Value.int .i64 ((x22158.Costs.length : Int)) ∧ f' 50 = Value.int .i64 ((i22864 : Int)) ∧ f' 59 = Value.bool (((decide (x22955 < 0)) || decide (1048576 < x22955)))) ?_ ?_
          · refine W_region ?_
            refine WL_step rfl rfl (Exec.move (v := Value.int .i64 (x22955)) rfl rfl ?_)
            refine WL_step rfl rfl (Exec.lss rfl rfl rfl ?_)
            refine WL_step rfl rfl (Exec.move (v := Value.bool (decide (x22955 < 0))) rfl rfl ?_)
            by_cases hc22964 : (decide (x22955 < 0)) = true
            · refine WL_pass rfl (yield_of rfl (congrArg Value.bool hc22964)) rfl rfl ?_
              refine WL_pass rfl (yield_of rfl (congrArg Value.bool hc22964)) rfl rfl ?_
              refine WL_step rfl rfl (Exec.pick_t (v := Value.bool (true)) rfl (congrArg Value.bool hc22964) rfl ?_)
              refine WL_nil (at_normal ?_)
              exact ⟨s22941, (PHeap.le_refl _), hS22943, p22944, p22945, p22946, x22947, (congrArg Value.bool (or_t hc22964)).symm⟩
            · replace hc22964 := not_true hc22964
              refine WL_run rfl (yield_of rfl (congrArg Value.bool hc22964)) rfl (Exec.move (v := Value.int .i64 (x22955)) rfl rfl ?_)
              refine WL_run rfl (yield_of rfl (congrArg Value.bool hc22964)) rfl (Exec.gtr rfl rfl rfl ?_)
              refine WL_step rfl rfl (Exec.pick_f (v := Value.bool (decide (1048576 < x22955))) rfl (congrArg Value.bool hc22964) rfl ?_)
              refine WL_nil (at_normal ?_)
              exact ⟨s22941, (PHeap.le_refl _), hS22943, p22944, p22945, p22946, x22947, (congrArg Value.bool (or_f hc22964)).symm⟩
          · intro f22965 w22966 hM22967
            obtain ⟨s22968, l22969, hS22970, p22971, p22972, p22973, p22974, p22975⟩ := hM22967
            refine (at_normal ?_)
            rcases ite_some hm22937 with ⟨hc22976, hm22937⟩ | ⟨hc22976, hm22937⟩
            · refine W_cond_t p22975 hc22976 ?_
              refine W_seq ?_
              refine W_region ?_
              refine WL_step rfl rfl (Exec.assign (v := Value.bool (false)) rfl rfl ?_)
              refine WL_nil (at_normal ?_)
              refine W_ret (ib_ret (at_ret (at_ret (ib_ret (at_ret (at_ret ?_))))))
              have e22977 := Option.some.inj hm22937
              subst c22933
              have hq22978 := hr22927 _ (hres22938 (by intro _ h; cases h))
              have e22979 := Option.some.inj hq22978
              subst r
              refine ⟨_, ret1 rfl, ?_⟩
              have hS22980 := (hS22970).drop
              exact ⟨s22968, (PHeap.le.trans (PHeap.le.trans l22856 l22942) l22969), hS22980, rfl⟩
            · refine W_cond_f p22975 hc22976 ?_
              replace hc22976 := not_true hc22976
              refine W_skip (ib_normal (at_normal ?_))
              refine W_region ?_
              refine WL_step rfl rfl (Exec.add rfl p22974 rfl ?_)
              refine WL_step rfl rfl (Exec.move (v := Value.int .i64 (IntKind.i64.wrap ((i22864 : Int) + 1))) rfl rfl ?_)
              refine WL_nil (at_normal ?_)
              have e22981 := Option.some.inj hm22937
              subst c22933
              refine ⟨_, rfl, ?_⟩; exact ⟨s22968, (PHeap.le.trans l22942 l22969), hS22970, p22971, p22972, p22973, (Eq.trans rfl (wrap_up hi22940 (SliceRep.le (a22160.mono l22856))))⟩
        · intro t22982 f22983 w22984 hI22985 hres22986
          obtain ⟨s22987, l22988, hS22989, p22990, p22991, p22992, x22993⟩ := hI22985
          refine W_seq ?_
          refine W_region ?_
          refine WL_step rfl rfl (Exec.lss rfl x22993 p22992 ?_)
          refine WL_nil (at_normal ?_)
          refine W_seq ?_
          refine W_false (congrArg Value.bool (decide_eq_false (by omega))) ?_
          refine W_exit (at_exit (at_exit (ib_here (at_normal ?_))))
          refine ⟨_, .inl hres22986, ?_⟩; exact ⟨s22987, l22988, hS22989, p22990, p22991, p22992⟩
      · rintro f22994 w22995 ⟨t22996, hc22997, hM22998⟩
        have hm := hc22997.elim (hn22928 _) (hb22929 _)
        clear hc22997
        obtain ⟨s22999, l23000, hS23001, p23002, p23003, p23004⟩ := hM22998
        refine (at_normal ?_)
        refine W_seq ?_
        refine W_seq ?_
        refine W_region ?_
        refine WL_step rfl rfl (Exec.field F26_3 rfl p23002 rfl ?_)
        refine WL_step rfl rfl (Exec.load_box (hS23001) A23 rfl rfl rfl ?_)
        refine WL_step rfl rfl (Exec.len_rep S23 rfl rfl (a22162.mono (PHeap.le.trans l22856 l23000)) ?_)
        refine WL_step rfl rfl (Exec.move (v := Value.int .i64 (0)) rfl rfl ?_)
        refine WL_nil (at_normal ?_)
        obtain ⟨c23278, hB23279, hr23280, hn23281, hb23282⟩ := ctl_some hm
        refine W_mid (M := fun f' w' => ∃ s', (c23278 = .next s' ∨ c23278 = .brk s') ∧ (fun (_ : Unit) => ∃ (s23284 : PHeap) , PHeap.le s22999 s23284 ∧ St w0 s23284 (Res.box b22836 26 [Value.int .i64 (x22158.States), Value.int .i64 (x22158.Init), v22159, v22161, v22163] :: H) w' ∧ f' 1 = Value.pointer (some ⟨b22836, 0, none⟩) ∧ f' 62 = v22161 ∧ f' 63 = Value.int .i64 ((x22158.Edges.length : Int))) s') ?_ ?_
        · refine W_block (W_forC (fun k' s' f' w' => (fun (_ : Unit) => ∃ (s23283 : PHeap) , PHeap.le s22999 s23283 ∧ St w0 s23283 (Res.box b22836 26 [Value.int .i64 (x22158.States), Value.int .i64 (x22158.Init), v22159, v22161, v22163] :: H) w' ∧ f' 1 = Value.pointer (some ⟨b22836, 0, none⟩) ∧ f' 62 = v22161 ∧ f' 63 = Value.int .i64 ((x22158.Edges.length : Int)) ∧ f' 64 = Value.int .i64 (k' : Int)) s') hB23279 ?_ ?_ ?_)
          · exact ⟨s22999, (PHeap.le_refl _), hS23001, p23002, rfl, rfl, rfl⟩
          · intro i23005 t23292 c23286 f23287 w23288 hi23293 hI23289 hm23290 hres23291
            obtain ⟨s23294, l23295, hS23296, p23297, p23298, p23299, x23300⟩ := hI23289
            refine W_seq ?_
            refine W_region ?_
            refine WL_step rfl rfl (Exec.lss rfl x23300 p23299 ?_)
            refine WL_nil (at_normal ?_)
            refine W_seq ?_
            refine W_true (congrArg Value.bool (decide_eq_true (by omega))) ?_
            refine W_skip (at_normal ?_)
            refine W_seq ?_
            refine W_block ?_
            refine W_seq ?_
            refine W_region ?_
            refine WL_step rfl rfl (Exec.move (v := Value.int .i64 ((i23005 : Int))) rfl x23300 ?_)
            obtain ⟨x23313, q23314, hm23290⟩ := bind_some hm23290
            refine WL_step rfl rfl (Exec.index_rep S23 rfl p23298 x23300 (a22162.mono (PHeap.le.trans (PHeap.le.trans l22856 l23000) l23295)) q23314 ?_)
            intro b23315 o23316 a23317
            refine WL_step rfl rfl (Exec.load_at (E := encEdge) hS23296 A53 rfl rfl rfl a23317 ?_)
            intro v23318 q23319
            obtain rfl := encEdge_val.1 q23319
            refine WL_step rfl rfl (Exec.alloc (cs := [Value.int .i64 (0), Value.int .i64 (0), Value.int .i64 (0)]) hS23296 Z53 rfl rfl ?_)
            intro b23320 w23321 hS23322
            refine WL_step rfl rfl (Exec.assign (v := Value.int .i64 ((i23005 : Int))) rfl rfl ?_)
            refine WL_step rfl rfl (Exec.store_box (ds := [Value.int .i64 (x23313.From), Value.int .i64 (x23313.Label), Value.int .i64 (x23313.To)]) (es := [Value.int .i64 (x23313.From), Value.int .i64 (x23313.Label), Value.int .i64 (x23313.To)]) hS23322 A53 rfl rfl rfl rfl (one_cons rfl (one_cons rfl (one_cons rfl one_nil))) (Nat.le_of_ble_eq_true rfl) rfl ?_)
            intro w23323 hS23324
            refine WL_nil (at_normal ?_)
            refine W_seq ?_
            obtain ⟨z23365, ht23366, hm23290⟩ := bind_some hm23290
            refine W_mid (M := fun f' w' => (fun (z23365 : Bool) => ∃ (s23367 : PHeap) , PHeap.le s23294 s23367 ∧ St w0 s23367 (Res.box b22836 26 [Value.int .i64 (x22158.States), Value.int .i64 (x22158.Init), v22159, v22161, v22163] :: H) w' ∧ f' 1 = Value.pointer (some ⟨b22836, 0, none⟩) ∧ f' 62 = v22161 ∧ f' 63 = Value.int .i64 ((x22158.Edges.length : Int)) ∧ f' 64 = Value.int .i64 ((i23005 : Int)) ∧ f' 118 = Value.bool (z23365)) z23365) ?_ ?_
            · refine W_dl (n0 := 50) (.q 0 (.q 1 (.q 2 (.q 3 (.q 4 (.q 5 (.q 6 (.q 7 (.q 8 (.q 9 (.q 10 (.q 11 (.q 12 (.q 13 (.q 14 (.q 15 (.q 16 (.q 17 (.q 18 (.q 19 (.q 20 (.q 21 (.q 22 (.q 23 (.q 24 (.q 25 (.q 26 (.q 27 (.q 28 (.q 29 (.q 30 (.q 31 (.q 32 (.q 33 (.q 34 (.q 35 (.q 36 (.q 37 (.q 38 (.q 39 (.q 40 (.q 41 (.q 42 (.q 43 (.q 44 (.q 45 (.e 46 [] (.q 47 (.q 48 (.q 49 .done)))))))))))))))))))))))))))))))))))))))))))))))))) hmix (by kernel_rfl) (by kernel_rfl) ?_
              have hS23388 := hS23324.drew
              refine DL_q rfl rfl (Exec.field F53_0 rfl rfl rfl ⟨rfl, ?_⟩)
              refine DL_q rfl rfl (Exec.load_box (hS23388) A3 rfl rfl rfl ⟨rfl, ?_⟩)
              refine DL_q rfl rfl (Exec.lss rfl rfl rfl ⟨rfl, ?_⟩)
              refine DL_q rfl rfl (Exec.move (v := Value.bool (decide (x23313.From < 0))) rfl rfl ⟨rfl, ?_⟩)
              rcases ite_some ht23366 with ⟨hc23389, ht23366⟩ | ⟨hc23389, ht23366⟩
              · refine DL_qp rfl rfl (yield_of rfl (congrArg Value.bool hc23389)) rfl ?_
                refine DL_qp rfl rfl (yield_of rfl (congrArg Value.bool hc23389)) rfl ?_
                refine DL_qp rfl rfl (yield_of rfl (congrArg Value.bool hc23389)) rfl ?_
                refine DL_qp rfl rfl (yield_of rfl (congrArg Value.bool hc23389)) rfl ?_
                refine DL_qp rfl rfl (yield_of rfl (congrArg Value.bool hc23389)) rfl ?_
                refine DL_q rfl rfl (Exec.pick_t (v := Value.bool (true)) rfl (congrArg Value.bool hc23389) rfl ⟨rfl, ?_⟩)
                refine DL_q rfl rfl (Exec.move (v := Value.bool (true)) rfl rfl ⟨rfl, ?_⟩)
                refine DL_qp rfl rfl (yield_of rfl rfl) rfl ?_
                refine DL_qp rfl rfl (yield_of rfl rfl) rfl ?_
                refine DL_qp rfl rfl (yield_of rfl rfl) rfl ?_
                refine DL_q rfl rfl (Exec.pick_t (v := Value.bool (true)) rfl rfl rfl ⟨rfl, ?_⟩)
                refine DL_q rfl rfl (Exec.move (v := Value.bool (true)) rfl rfl ⟨rfl, ?_⟩)
                refine DL_qp rfl rfl (yield_of rfl rfl) rfl ?_
                refine DL_qp rfl rfl (yield_of rfl rfl) rfl ?_
                refine DL_qp rfl rfl (yield_of rfl rfl) rfl ?_
                refine DL_qp rfl rfl (yield_of rfl rfl) rfl ?_
                refine DL_qp rfl rfl (yield_of rfl rfl) rfl ?_
                refine DL_q rfl rfl (Exec.pick_t (v := Value.bool (true)) rfl rfl rfl ⟨rfl, ?_⟩)
                refine DL_q rfl rfl (Exec.move (v := Value.bool (true)) rfl rfl ⟨rfl, ?_⟩)
                refine DL_qp rfl rfl (yield_of rfl rfl) rfl ?_
                refine DL_qp rfl rfl (yield_of rfl rfl) rfl ?_
                refine DL_qp rfl rfl (yield_of rfl rfl) rfl ?_
                refine DL_q rfl rfl (Exec.pick_t (v := Value.bool (true)) rfl rfl rfl ⟨rfl, ?_⟩)
                refine DL_q rfl rfl (Exec.move (v := Value.bool (true)) rfl rfl ⟨rfl, ?_⟩)
                refine DL_qp rfl rfl (yield_of rfl rfl) rfl ?_
                refine DL_qp rfl rfl (yield_of rfl rfl) rfl ?_
                refine DL_qp rfl rfl (yield_of rfl rfl) rfl ?_
                refine DL_qp rfl rfl (yield_of rfl rfl) rfl ?_
                refine DL_qp rfl rfl (yield_of rfl rfl) rfl ?_
                refine DL_qp rfl rfl (yield_of rfl rfl) rfl ?_
                refine DL_q rfl rfl (Exec.pick_t (v := Value.bool (true)) rfl rfl rfl ⟨rfl, ?_⟩)
                refine DL_q rfl rfl (Exec.move (v := Value.bool (true)) rfl rfl ⟨rfl, ?_⟩)
                refine DL_qp rfl rfl (yield_of rfl rfl) rfl ?_
                refine DL_qp rfl rfl (yield_of rfl rfl) rfl ?_
                refine DL_qp rfl rfl (yield_of rfl rfl) rfl ?_
                refine DL_qn rfl rfl (yield_undef rfl rfl) ?_
                refine DL_qn rfl rfl (yield_undef rfl rfl) ?_
                refine DL_qn rfl rfl (yield_undef rfl rfl) ?_
                refine DL_qn rfl rfl (yield_undef rfl rfl) ?_
                refine DL_qn rfl rfl (yield_undef rfl rfl) ?_
                refine DL_qn rfl rfl (yield_undef rfl rfl) ?_
                refine DL_qn rfl rfl (yield_undef rfl rfl) ?_
                refine DL_en rfl rfl (yield_undef rfl rfl) ?_
                refine DL_qn rfl rfl (yield_undef rfl rfl) ?_
                refine DL_qp rfl rfl (yield_of rfl rfl) rfl ?_
                refine DL_q rfl rfl (Exec.pick_t (v := Value.bool (true)) rfl rfl rfl ⟨rfl, ?_⟩)
                refine DL_done ?_
                refine WL_nil (at_normal ?_)
                have e23390 := Option.some.inj ht23366
                subst z23365
                have hS23391 := (hS23388).drop
                exact ⟨s23294, (PHeap.le_refl _), hS23391, p23297, p23298, p23299, x23300, rfl⟩
              · replace hc23389 := not_true hc23389
                refine DL_qg rfl rfl (yield_of rfl (congrArg Value.bool hc23389)) (Exec.field F53_0 rfl rfl rfl ⟨rfl, ?_⟩)
                refine DL_qg rfl rfl (yield_of rfl (congrArg Value.bool hc23389)) (Exec.load_box (hS23388) A3 rfl rfl rfl ⟨rfl, ?_⟩)
                refine DL_qg rfl rfl (yield_of rfl (congrArg Value.bool hc23389)) (Exec.field F26_0 rfl p23297 rfl ⟨rfl, ?_⟩)
                refine DL_qg rfl rfl (yield_of rfl (congrArg Value.bool hc23389)) (Exec.load_box ((hS23388).f1) A3 rfl rfl rfl ⟨rfl, ?_⟩)
                refine DL_qg rfl rfl (yield_of rfl (congrArg Value.bool hc23389)) (Exec.geq rfl rfl rfl ⟨rfl, ?_⟩)
                refine DL_q rfl rfl (Exec.pick_f (v := Value.bool (decide (x22158.States ≤ x23313.From))) rfl (congrArg Value.bool hc23389) rfl ⟨rfl, ?_⟩)
                refine DL_q rfl rfl (Exec.move (v := Value.bool (decide (x22158.States ≤ x23313.From))) rfl rfl ⟨rfl, ?_⟩)
                rcases ite_some ht23366 with ⟨hc23392, ht23366⟩ | ⟨hc23392, ht23366⟩
                · refine DL_qp rfl rfl (yield_of rfl (congrArg Value.bool hc23392)) rfl ?_
                  refine DL_qp rfl rfl (yield_of rfl (congrArg Value.bool hc23392)) rfl ?_
                  refine DL_qp rfl rfl (yield_of rfl (congrArg Value.bool hc23392)) rfl ?_
                  refine DL_q rfl rfl (Exec.pick_t (v := Value.bool (true)) rfl (congrArg Value.bool hc23392) rfl ⟨rfl, ?_⟩)
                  refine DL_q rfl rfl (Exec.move (v := Value.bool (true)) rfl rfl ⟨rfl, ?_⟩)
                  refine DL_qp rfl rfl (yield_of rfl rfl) rfl ?_
                  refine DL_qp rfl rfl (yield_of rfl rfl) rfl ?_
                  refine DL_qp rfl rfl (yield_of rfl rfl) rfl ?_
                  refine DL_qp rfl rfl (yield_of rfl rfl) rfl ?_
                  refine DL_qp rfl rfl (yield_of rfl rfl) rfl ?_
                  refine DL_q rfl rfl (Exec.pick_t (v := Value.bool (true)) rfl rfl rfl ⟨rfl, ?_⟩)
                  refine DL_q rfl rfl (Exec.move (v := Value.bool (true)) rfl rfl ⟨rfl, ?_⟩)
                  refine DL_qp rfl rfl (yield_of rfl rfl) rfl ?_
                  refine DL_qp rfl rfl (yield_of rfl rfl) rfl ?_
                  refine DL_qp rfl rfl (yield_of rfl rfl) rfl ?_
                  refine DL_q rfl rfl (Exec.pick_t (v := Value.bool (true)) rfl rfl rfl ⟨rfl, ?_⟩)
                  refine DL_q rfl rfl (Exec.move (v := Value.bool (true)) rfl rfl ⟨rfl, ?_⟩)
                  refine DL_qp rfl rfl (yield_of rfl rfl) rfl ?_
                  refine DL_qp rfl rfl (yield_of rfl rfl) rfl ?_
                  refine DL_qp rfl rfl (yield_of rfl rfl) rfl ?_
                  refine DL_qp rfl rfl (yield_of rfl rfl) rfl ?_
                  refine DL_qp rfl rfl (yield_of rfl rfl) rfl ?_
                  refine DL_qp rfl rfl (yield_of rfl rfl) rfl ?_
                  refine DL_q rfl rfl (Exec.pick_t (v := Value.bool (true)) rfl rfl rfl ⟨rfl, ?_⟩)
                  refine DL_q rfl rfl (Exec.move (v := Value.bool (true)) rfl rfl ⟨rfl, ?_⟩)
                  refine DL_qp rfl rfl (yield_of rfl rfl) rfl ?_
                  refine DL_qp rfl rfl (yield_of rfl rfl) rfl ?_
                  refine DL_qp rfl rfl (yield_of rfl rfl) rfl ?_
                  refine DL_qn rfl rfl (yield_undef rfl rfl) ?_
                  refine DL_qn rfl rfl (yield_undef rfl rfl) ?_
                  refine DL_qn rfl rfl (yield_undef rfl rfl) ?_
                  refine DL_qn rfl rfl (yield_undef rfl rfl) ?_
                  refine DL_qn rfl rfl (yield_undef rfl rfl) ?_
                  refine DL_qn rfl rfl (yield_undef rfl rfl) ?_
                  refine DL_qn rfl rfl (yield_undef rfl rfl) ?_
                  refine DL_en rfl rfl (yield_undef rfl rfl) ?_
                  refine DL_qn rfl rfl (yield_undef rfl rfl) ?_
                  refine DL_qp rfl rfl (yield_of rfl rfl) rfl ?_
                  refine DL_q rfl rfl (Exec.pick_t (v := Value.bool (true)) rfl rfl rfl ⟨rfl, ?_⟩)
                  refine DL_done ?_
                  refine WL_nil (at_normal ?_)
                  have e23393 := Option.some.inj ht23366
                  subst z23365
                  have hS23394 := (hS23388).drop
                  exact ⟨s23294, (PHeap.le_refl _), hS23394, p23297, p23298, p23299, x23300, rfl⟩
                · replace hc23392 := not_true hc23392
                  refine DL_qg rfl rfl (yield_of rfl (congrArg Value.bool hc23392)) (Exec.field F53_2 rfl rfl rfl ⟨rfl, ?_⟩)
                  refine DL_qg rfl rfl (yield_of rfl (congrArg Value.bool hc23392)) (Exec.load_box (hS23388) A3 rfl rfl rfl ⟨rfl, ?_⟩)
                  refine DL_qg rfl rfl (yield_of rfl (congrArg Value.bool hc23392)) (Exec.lss rfl rfl rfl ⟨rfl, ?_⟩)
                  refine DL_q rfl rfl (Exec.pick_f (v := Value.bool (decide (x23313.To < 0))) rfl (congrArg Value.bool hc23392) rfl ⟨rfl, ?_⟩)
                  refine DL_q rfl rfl (Exec.move (v := Value.bool (decide (x23313.To < 0))) rfl rfl ⟨rfl, ?_⟩)
                  rcases ite_some ht23366 with ⟨hc23395, ht23366⟩ | ⟨hc23395, ht23366⟩
                  · refine DL_qp rfl rfl (yield_of rfl (congrArg Value.bool hc23395)) rfl ?_
                    refine DL_qp rfl rfl (yield_of rfl (congrArg Value.bool hc23395)) rfl ?_
                    refine DL_qp rfl rfl (yield_of rfl (congrArg Value.bool hc23395)) rfl ?_
                    refine DL_qp rfl rfl (yield_of rfl (congrArg Value.bool hc23395)) rfl ?_
                    refine DL_qp rfl rfl (yield_of rfl (congrArg Value.bool hc23395)) rfl ?_
                    refine DL_q rfl rfl (Exec.pick_t (v := Value.bool (true)) rfl (congrArg Value.bool hc23395) rfl ⟨rfl, ?_⟩)
                    refine DL_q rfl rfl (Exec.move (v := Value.bool (true)) rfl rfl ⟨rfl, ?_⟩)
                    refine DL_qp rfl rfl (yield_of rfl rfl) rfl ?_
                    refine DL_qp rfl rfl (yield_of rfl rfl) rfl ?_
                    refine DL_qp rfl rfl (yield_of rfl rfl) rfl ?_
                    refine DL_q rfl rfl (Exec.pick_t (v := Value.bool (true)) rfl rfl rfl ⟨rfl, ?_⟩)
                    refine DL_q rfl rfl (Exec.move (v := Value.bool (true)) rfl rfl ⟨rfl, ?_⟩)
                    refine DL_qp rfl rfl (yield_of rfl rfl) rfl ?_
                    refine DL_qp rfl rfl (yield_of rfl rfl) rfl ?_
                    refine DL_qp rfl rfl (yield_of rfl rfl) rfl ?_
                    refine DL_qp rfl rfl (yield_of rfl rfl) rfl ?_
                    refine DL_qp rfl rfl (yield_of rfl rfl) rfl ?_
                    refine DL_qp rfl rfl (yield_of rfl rfl) rfl ?_
                    refine DL_q rfl rfl (Exec.pick_t (v := Value.bool (true)) rfl rfl rfl ⟨rfl, ?_⟩)
                    refine DL_q rfl rfl (Exec.move (v := Value.bool (true)) rfl rfl ⟨rfl, ?_⟩)
                    refine DL_qp rfl rfl (yield_of rfl rfl) rfl ?_
                    refine DL_qp rfl rfl (yield_of rfl rfl) rfl ?_
                    refine DL_qp rfl rfl (yield_of rfl rfl) rfl ?_
                    refine DL_qn rfl rfl (yield_undef rfl rfl) ?_
                    refine DL_qn rfl rfl (yield_undef rfl rfl) ?_
                    refine DL_qn rfl rfl (yield_undef rfl rfl) ?_
                    refine DL_qn rfl rfl (yield_undef rfl rfl) ?_
                    refine DL_qn rfl rfl (yield_undef rfl rfl) ?_
                    refine DL_qn rfl rfl (yield_undef rfl rfl) ?_
                    refine DL_qn rfl rfl (yield_undef rfl rfl) ?_
                    refine DL_en rfl rfl (yield_undef rfl rfl) ?_
                    refine DL_qn rfl rfl (yield_undef rfl rfl) ?_
                    refine DL_qp rfl rfl (yield_of rfl rfl) rfl ?_
                    refine DL_q rfl rfl (Exec.pick_t (v := Value.bool (true)) rfl rfl rfl ⟨rfl, ?_⟩)
                    refine DL_done ?_
                    refine WL_nil (at_normal ?_)
                    have e23396 := Option.some.inj ht23366
                    subst z23365
                    have hS23397 := (hS23388).drop
                    exact ⟨s23294, (PHeap.le_refl _), hS23397, p23297, p23298, p23299, x23300, rfl⟩
                  · replace hc23395 := not_true hc23395
                    refine DL_qg rfl rfl (yield_of rfl (congrArg Value.bool hc23395)) (Exec.field F53_2 rfl rfl rfl ⟨rfl, ?_⟩)
                    refine DL_qg rfl rfl (yield_of rfl (congrArg Value.bool hc23395)) (Exec.load_box (hS23388) A3 rfl rfl rfl ⟨rfl, ?_⟩)
                    refine DL_qg rfl rfl (yield_of rfl (congrArg Value.bool hc23395)) (Exec.field F26_0 rfl p23297 rfl ⟨rfl, ?_⟩)
                    refine DL_qg rfl rfl (yield_of rfl (congrArg Value.bool hc23395)) (Exec.load_box ((hS23388).f1) A3 rfl rfl rfl ⟨rfl, ?_⟩)
                    refine DL_qg rfl rfl (yield_of rfl (congrArg Value.bool hc23395)) (Exec.geq rfl rfl rfl ⟨rfl, ?_⟩)
                    refine DL_q rfl rfl (Exec.pick_f (v := Value.bool (decide (x22158.States ≤ x23313.To))) rfl (congrArg Value.bool hc23395) rfl ⟨rfl, ?_⟩)
                    refine DL_q rfl rfl (Exec.move (v := Value.bool (decide (x22158.States ≤ x23313.To))) rfl rfl ⟨rfl, ?_⟩)
                    rcases ite_some ht23366 with ⟨hc23398, ht23366⟩ | ⟨hc23398, ht23366⟩
                    · refine DL_qp rfl rfl (yield_of rfl (congrArg Value.bool hc23398)) rfl ?_
                      refine DL_qp rfl rfl (yield_of rfl (congrArg Value.bool hc23398)) rfl ?_
                      refine DL_qp rfl rfl (yield_of rfl (congrArg Value.bool hc23398)) rfl ?_
                      refine DL_q rfl rfl (Exec.pick_t (v := Value.bool (true)) rfl (congrArg Value.bool hc23398) rfl ⟨rfl, ?_⟩)
                      refine DL_q rfl rfl (Exec.move (v := Value.bool (true)) rfl rfl ⟨rfl, ?_⟩)
                      refine DL_qp rfl rfl (yield_of rfl rfl) rfl ?_
                      refine DL_qp rfl rfl (yield_of rfl rfl) rfl ?_
                      refine DL_qp rfl rfl (yield_of rfl rfl) rfl ?_
                      refine DL_qp rfl rfl (yield_of rfl rfl) rfl ?_
                      refine DL_qp rfl rfl (yield_of rfl rfl) rfl ?_
                      refine DL_qp rfl rfl (yield_of rfl rfl) rfl ?_
                      refine DL_q rfl rfl (Exec.pick_t (v := Value.bool (true)) rfl rfl rfl ⟨rfl, ?_⟩)
                      refine DL_q rfl rfl (Exec.move (v := Value.bool (true)) rfl rfl ⟨rfl, ?_⟩)
                      refine DL_qp rfl rfl (yield_of rfl rfl) rfl ?_
                      refine DL_qp rfl rfl (yield_of rfl rfl) rfl ?_
                      refine DL_qp rfl rfl (yield_of rfl rfl) rfl ?_
                      refine DL_qn rfl rfl (yield_undef rfl rfl) ?_
                      refine DL_qn rfl rfl (yield_undef rfl rfl) ?_
                      refine DL_qn rfl rfl (yield_undef rfl rfl) ?_
                      refine DL_qn rfl rfl (yield_undef rfl rfl) ?_
                      refine DL_qn rfl rfl (yield_undef rfl rfl) ?_
                      refine DL_qn rfl rfl (yield_undef rfl rfl) ?_
                      refine DL_qn rfl rfl (yield_undef rfl rfl) ?_
                      refine DL_en rfl rfl (yield_undef rfl rfl) ?_
                      refine DL_qn rfl rfl (yield_undef rfl rfl) ?_
                      refine DL_qp rfl rfl (yield_of rfl rfl) rfl ?_
                      refine DL_q rfl rfl (Exec.pick_t (v := Value.bool (true)) rfl rfl rfl ⟨rfl, ?_⟩)
                      refine DL_done ?_
                      refine WL_nil (at_normal ?_)
                      have e23399 := Option.some.inj ht23366
                      subst z23365
                      have hS23400 := (hS23388).drop
                      exact ⟨s23294, (PHeap.le_refl _), hS23400, p23297, p23298, p23299, x23300, rfl⟩
                    · replace hc23398 := not_true hc23398
                      refine DL_qg rfl rfl (yield_of rfl (congrArg Value.bool hc23398)) (Exec.field F53_1 rfl rfl rfl ⟨rfl, ?_⟩)
                      refine DL_qg rfl rfl (yield_of rfl (congrArg Value.bool hc23398)) (Exec.load_box (hS23388) A3 rfl rfl rfl ⟨rfl, ?_⟩)
                      refine DL_qg rfl rfl (yield_of rfl (congrArg Value.bool hc23398)) (Exec.lss rfl rfl rfl ⟨rfl, ?_⟩)
                      refine DL_q rfl rfl (Exec.pick_f (v := Value.bool (decide (x23313.Label < 0))) rfl (congrArg Value.bool hc23398) rfl ⟨rfl, ?_⟩)
                      refine DL_q rfl rfl (Exec.move (v := Value.bool (decide (x23313.Label < 0))) rfl rfl ⟨rfl, ?_⟩)
                      rcases ite_some ht23366 with ⟨hc23401, ht23366⟩ | ⟨hc23401, ht23366⟩
                      · refine DL_qp rfl rfl (yield_of rfl (congrArg Value.bool hc23401)) rfl ?_
                        refine DL_qp rfl rfl (yield_of rfl (congrArg Value.bool hc23401)) rfl ?_
                        refine DL_qp rfl rfl (yield_of rfl (congrArg Value.bool hc23401)) rfl ?_
                        refine DL_qp rfl rfl (yield_of rfl (congrArg Value.bool hc23401)) rfl ?_
                        refine DL_qp rfl rfl (yield_of rfl (congrArg Value.bool hc23401)) rfl ?_
                        refine DL_qp rfl rfl (yield_of rfl (congrArg Value.bool hc23401)) rfl ?_
                        refine DL_q rfl rfl (Exec.pick_t (v := Value.bool (true)) rfl (congrArg Value.bool hc23401) rfl ⟨rfl, ?_⟩)
                        refine DL_q rfl rfl (Exec.move (v := Value.bool (true)) rfl rfl ⟨rfl, ?_⟩)
                        refine DL_qp rfl rfl (yield_of rfl rfl) rfl ?_
                        refine DL_qp rfl rfl (yield_of rfl rfl) rfl ?_
                        refine DL_qp rfl rfl (yield_of rfl rfl) rfl ?_
                        refine DL_qn rfl rfl (yield_undef rfl rfl) ?_
                        refine DL_qn rfl rfl (yield_undef rfl rfl) ?_
                        refine DL_qn rfl rfl (yield_undef rfl rfl) ?_
                        refine DL_qn rfl rfl (yield_undef rfl rfl) ?_
                        refine DL_qn rfl rfl (yield_undef rfl rfl) ?_
                        refine DL_qn rfl rfl (yield_undef rfl rfl) ?_
                        refine DL_qn rfl rfl (yield_undef rfl rfl) ?_
                        refine DL_en rfl rfl (yield_undef rfl rfl) ?_
                        refine DL_qn rfl rfl (yield_undef rfl rfl) ?_
                        refine DL_qp rfl rfl (yield_of rfl rfl) rfl ?_
                        refine DL_q rfl rfl (Exec.pick_t (v := Value.bool (true)) rfl rfl rfl ⟨rfl, ?_⟩)
                        refine DL_done ?_
                        refine WL_nil (at_normal ?_)
                        have e23402 := Option.some.inj ht23366
                        subst z23365
                        have hS23403 := (hS23388).drop
                        exact ⟨s23294, (PHeap.le_refl _), hS23403, p23297, p23298, p23299, x23300, rfl⟩
                      · replace hc23401 := not_true hc23401
                        refine DL_qg rfl rfl (yield_of rfl (congrArg Value.bool hc23401)) (Exec.field F53_1 rfl rfl rfl ⟨rfl, ?_⟩)
                        refine DL_qg rfl rfl (yield_of rfl (congrArg Value.bool hc23401)) (Exec.load_box (hS23388) A3 rfl rfl rfl ⟨rfl, ?_⟩)
                        refine DL_qg rfl rfl (yield_of rfl (congrArg Value.bool hc23401)) (Exec.field F26_2 rfl p23297 rfl ⟨rfl, ?_⟩)
                        refine DL_qg rfl rfl (yield_of rfl (congrArg Value.bool hc23401)) (Exec.load_box ((hS23388).f1) A22 rfl rfl rfl ⟨rfl, ?_⟩)
                        refine DL_qg rfl rfl (yield_of rfl (congrArg Value.bool hc23401)) (Exec.len_rep S22 rfl rfl (a22160.mono (PHeap.le.trans (PHeap.le.trans l22856 l23000) l23295)) ⟨rfl, ?_⟩)
                        refine DL_qg rfl rfl (yield_of rfl (congrArg Value.bool hc23401)) (Exec.geq rfl rfl rfl ⟨rfl, ?_⟩)
                        refine DL_q rfl rfl (Exec.pick_f (v := Value.bool (decide ((x22158.Costs.length : Int) ≤ x23313.Label))) rfl (congrArg Value.bool hc23401) rfl ⟨rfl, ?_⟩)
                        refine DL_q rfl rfl (Exec.move (v := Value.bool (decide ((x22158.Costs.length : Int) ≤ x23313.Label))) rfl rfl ⟨rfl, ?_⟩)
                        rcases ite_some ht23366 with ⟨hc23404, ht23366⟩ | ⟨hc23404, ht23366⟩
                        · refine DL_qp rfl rfl (yield_of rfl (congrArg Value.bool hc23404)) rfl ?_
                          refine DL_qp rfl rfl (yield_of rfl (congrArg Value.bool hc23404)) rfl ?_
                          refine DL_qp rfl rfl (yield_of rfl (congrArg Value.bool hc23404)) rfl ?_
                          refine DL_qn rfl rfl (yield_undef rfl rfl) ?_
                          refine DL_qn rfl rfl (yield_undef rfl rfl) ?_
                          refine DL_qn rfl rfl (yield_undef rfl rfl) ?_
                          refine DL_qn rfl rfl (yield_undef rfl rfl) ?_
                          refine DL_qn rfl rfl (yield_undef rfl rfl) ?_
                          refine DL_qn rfl rfl (yield_undef rfl rfl) ?_
                          refine DL_qn rfl rfl (yield_undef rfl rfl) ?_
                          refine DL_en rfl rfl (yield_undef rfl rfl) ?_
                          refine DL_qn rfl rfl (yield_undef rfl rfl) ?_
                          refine DL_qp rfl rfl (yield_of rfl (congrArg Value.bool hc23404)) rfl ?_
                          refine DL_q rfl rfl (Exec.pick_t (v := Value.bool (true)) rfl (congrArg Value.bool hc23404) rfl ⟨rfl, ?_⟩)
                          refine DL_done ?_
                          refine WL_nil (at_normal ?_)
                          have e23405 := Option.some.inj ht23366
                          subst z23365
                          have hS23406 := (hS23388).drop
                          exact ⟨s23294, (PHeap.le_refl _), hS23406, p23297, p23298, p23299, x23300, rfl⟩
                        · replace hc23404 := not_true hc23404
                          refine DL_qg rfl rfl (yield_of rfl (congrArg Value.bool hc23404)) (Exec.move (v := Value.int .i64 ((i23005 : Int))) rfl rfl ⟨rfl, ?_⟩)
                          refine DL_qg rfl rfl (yield_of rfl (congrArg Value.bool hc23404)) (Exec.gtr rfl rfl rfl ⟨rfl, ?_⟩)
                          refine DL_qg rfl rfl (yield_of rfl (congrArg Value.bool hc23404)) (Exec.move (v := Value.bool (decide (0 < (i23005 : Int)))) rfl rfl ⟨rfl, ?_⟩)
                          rcases ite_some ht23366 with ⟨hc23407, ht23366⟩ | ⟨hc23407, ht23366⟩
                          · refine DL_qg rfl rfl (yield_of rfl (congrArg Value.bool hc23407)) (Exec.field F26_3 rfl p23297 rfl ⟨rfl, ?_⟩)
                            refine DL_qg rfl rfl (yield_of rfl (congrArg Value.bool hc23407)) (Exec.load_box ((hS23388).f1) A23 rfl rfl rfl ⟨rfl, ?_⟩)
                            refine DL_qg rfl rfl (yield_of rfl (congrArg Value.bool hc23407)) (Exec.move (v := Value.int .i64 ((i23005 : Int))) rfl rfl ⟨rfl, ?_⟩)
                            refine DL_qg rfl rfl (yield_of rfl (congrArg Value.bool hc23407)) (Exec.sub rfl rfl rfl ⟨rfl, ?_⟩)
                            obtain ⟨x23408, q23409, ht23366⟩ := bind_some ht23366
                            refine DL_qg rfl rfl (yield_of rfl (congrArg Value.bool hc23407)) (Exec.index_repE S23 rfl rfl rfl (a22162.mono (PHeap.le.trans (PHeap.le.trans l22856 l23000) l23295)) q23409 ?_)
                            intro b23410 o23411 a23412 e23413
                            refine ⟨rfl, ?_⟩
                            refine DL_qg rfl rfl (yield_of rfl (congrArg Value.bool hc23407)) (Exec.load_at (E := encEdge) hS23388 A53 rfl rfl rfl a23412 ?_)
                            intro v23414 q23415
                            obtain rfl := encEdge_val.1 q23415
                            refine ⟨rfl, ?_⟩
                            refine DL_qg rfl rfl (yield_of rfl (congrArg Value.bool hc23407)) (Exec.load_box_agg (ds := [Value.int .i64 (x23313.From), Value.int .i64 (x23313.Label), Value.int .i64 (x23313.To)]) (hS23388) A53 rfl rfl rfl ⟨rfl, ?_⟩)
                            refine DL_eg rfl rfl (yield_of rfl (congrArg Value.bool hc23407)) (Exec.call rfl rfl Tryd.func32 rfl N32 (args_cons rfl (args_cons rfl args_nil)) ((ref44_Before_sim (ref44_Before_tot x23408 x23313) hS23388 ).mono ?_))
                            rintro _ w23416 ⟨_, rfl, ⟨s23417, l23418, hS23419, rfl⟩⟩
                            refine ⟨_, rfl, ?_⟩
                            refine ⟨ag_nil, ?_⟩
                            refine DL_qg rfl rfl (yield_of rfl (congrArg Value.bool hc23407)) (Exec.not rfl rfl ⟨rfl, ?_⟩)
                            refine DL_qg rfl rfl (yield_of rfl (congrArg Value.bool hc23404)) (Exec.pick_t (v := Value.bool (!(ref44_Before_t x23408 x23313))) rfl (congrArg Value.bool hc23407) rfl ⟨rfl, ?_⟩)
                            refine DL_q rfl rfl (Exec.pick_f (v := Value.bool (!(ref44_Before_t x23408 x23313))) rfl (congrArg Value.bool hc23404) rfl ⟨rfl, ?_⟩)
                            refine DL_done ?_
                            refine WL_nil (at_normal ?_)
                            have e23420 := Option.some.inj ht23366
                            subst z23365
                            have hS23421 := (hS23419).drop
                            exact ⟨s23417, l23418, hS23421, p23297, p23298, p23299, x23300, rfl⟩
                          · replace hc23407 := not_true hc23407
                            refine DL_qp rfl rfl (yield_of rfl (congrArg Value.bool hc23407)) rfl ?_
                            refine DL_qp rfl rfl (yield_of rfl (congrArg Value.bool hc23407)) rfl ?_
                            refine DL_qp rfl rfl (yield_of rfl (congrArg Value.bool hc23407)) rfl ?_
                            refine DL_qp rfl rfl (yield_of rfl (congrArg Value.bool hc23407)) rfl ?_
                            refine DL_qp rfl rfl (yield_of rfl (congrArg Value.bool hc23407)) rfl ?_
                            refine DL_qp rfl rfl (yield_of rfl (congrArg Value.bool hc23407)) rfl ?_
                            refine DL_qp rfl rfl (yield_of rfl (congrArg Value.bool hc23407)) rfl ?_
                            refine DL_ep rfl rfl (yield_of rfl (congrArg Value.bool hc23407)) rfl ?_
                            refine DL_qp rfl rfl (yield_of rfl (congrArg Value.bool hc23407)) rfl ?_
                            refine DL_qg rfl rfl (yield_of rfl (congrArg Value.bool hc23404)) (Exec.pick_f (v := Value.bool (false)) rfl (congrArg Value.bool hc23407) rfl ⟨rfl, ?_⟩)
                            refine DL_q rfl rfl (Exec.pick_f (v := Value.bool (false)) rfl (congrArg Value.bool hc23404) rfl ⟨rfl, ?_⟩)
                            refine DL_done ?_
                            refine WL_nil (at_normal ?_)
                            have e23422 := Option.some.inj ht23366
                            subst z23365
                            have hS23423 := (hS23388).drop
                            exact ⟨s23294, (PHeap.le_refl _), hS23423, p23297, p23298, p23299, x23300, rfl⟩
            · intro f23424 w23425 hM23426
              obtain ⟨s23427, l23428, hS23429, p23430, p23431, p23432, p23433, p23434⟩ := hM23426
              refine (at_normal ?_)
              rcases ite_some hm23290 with ⟨hc23435, hm23290⟩ | ⟨hc23435, hm23290⟩
              · refine W_cond_t p23434 hc23435 ?_
                refine W_seq ?_
                refine W_region ?_
                refine WL_step rfl rfl (Exec.assign (v := Value.bool (false)) rfl rfl ?_)
                refine WL_nil (at_normal ?_)
                refine W_ret (ib_ret (at_ret (at_ret (ib_ret (at_ret (at_ret ?_))))))
                have e23436 := Option.some.inj hm23290
                subst c23286
                have hq23437 := hr23280 _ (hres23291 (by intro _ h; cases h))
                have e23438 := Option.some.inj hq23437
                subst r
                refine ⟨_, ret1 rfl, ?_⟩
                have hS23439 := (hS23429).drop
                exact ⟨s23427, (PHeap.le.trans (PHeap.le.trans (PHeap.le.trans l22856 l23000) l23295) l23428), hS23439, rfl⟩
              · refine W_cond_f p23434 hc23435 ?_
                replace hc23435 := not_true hc23435
                refine W_skip (ib_normal (at_normal ?_))
                refine W_region ?_
                refine WL_step rfl rfl (Exec.add rfl p23433 rfl ?_)
                refine WL_step rfl rfl (Exec.move (v := Value.int .i64 (IntKind.i64.wrap ((i23005 : Int) + 1))) rfl rfl ?_)
                refine WL_nil (at_normal ?_)
                have e23440 := Option.some.inj hm23290
                subst c23286
                refine ⟨_, rfl, ?_⟩; exact ⟨s23427, (PHeap.le.trans l23295 l23428), hS23429, p23430, p23431, p23432, (Eq.trans rfl (wrap_up hi23293 (SliceRep.le (a22162.mono (PHeap.le.trans l22856 l23000)))))⟩
          · intro t23441 f23442 w23443 hI23444 hres23445
            obtain ⟨s23446, l23447, hS23448, p23449, p23450, p23451, x23452⟩ := hI23444
            refine W_seq ?_
            refine W_region ?_
            refine WL_step rfl rfl (Exec.lss rfl x23452 p23451 ?_)
            refine WL_nil (at_normal ?_)
            refine W_seq ?_
            refine W_false (congrArg Value.bool (decide_eq_false (by omega))) ?_
            refine W_exit (at_exit (at_exit (ib_here (at_normal ?_))))
            refine ⟨_, .inl hres23445, ?_⟩; exact ⟨s23446, l23447, hS23448, p23449, p23450, p23451⟩
        · rintro f23453 w23454 ⟨t23455, hc23456, hM23457⟩
          have hm := hc23456.elim (hn23281 _) (hb23282 _)
          clear hc23456
          obtain ⟨s23458, l23459, hS23460, p23461, p23462, p23463⟩ := hM23457
          refine (at_normal ?_)
          refine W_seq ?_
          refine W_region ?_
          refine WL_step rfl rfl (Exec.assign (v := Value.bool (true)) rfl rfl ?_)
          refine WL_nil (at_normal ?_)
          refine W_ret ?_
          have e23465 := Option.some.inj hm
          subst r
          refine ⟨_, ret1 rfl, ?_⟩
          have hS23466 := (hS23460).drop
          exact ⟨s23458, (PHeap.le.trans (PHeap.le.trans l22856 l23000) l23459), hS23466, rfl⟩

theorem N11 : (Tryd.f11.name == "runtime.NumGoroutine") = false := by kernel_rfl

theorem law45_large_sim {w0 w : World} {s : PHeap} {H : List Res} {x22144 : System} {v22145 : Value} {v22147 : Value} {v22149 : Value} {r : Bool} (hm : law45_large_p x22144 = some r) (hS : St w0 s (H) w) (a22146 : SliceRep (encInt .i64) s v22145 x22144.Costs) (a22148 : SliceRep encEdge s v22147 x22144.Edges) (a22150 : SliceRep encBool s v22149 x22144.Goals) :
    Calls Tryd.prog 11 #[Value.agg #[Value.int .i64 (x22144.States), Value.int .i64 (x22144.Init), v22145, v22147, v22149]] w fun e w' => ∃ v, e = .returned v ∧ ((fun (y23517 : Bool) => ∃ (s23518 : PHeap) , PHeap.le s s23518 ∧ St w0 s23518 (H) w' ∧ v = Value.bool (y23517)) r) := by
  unfold law45_large_p at hm
  refine calls_of_W Tryd.func11 rfl rfl ?_
  refine W_seq ?_
  refine W_region ?_
  refine WL_step rfl rfl (Exec.box (cs := [Value.int .i64 (x22144.States), Value.int .i64 (x22144.Init), v22145, v22147, v22149]) hS rfl rfl rfl ?_)
  intro b23522 w23523 hS23524
  refine WL_step rfl rfl (Exec.assign (v := Value.bool (false)) rfl rfl ?_)
  refine WL_nil (at_normal ?_)
  refine W_seq ?_
  obtain ⟨z23538, ht23539, hm⟩ := bind_some hm
  refine W_mid (M := fun f' w' => (fun (z23538 : Bool) => ∃ (s23540 : PHeap) , PHeap.le s s23540 ∧ St w0 s23540 (H) w' ∧ f' 2 = Value.bool (z23538)) z23538) ?_ ?_
  · refine W_region ?_
    refine WL_step rfl rfl (Exec.field F26_0 rfl rfl rfl ?_)
    refine WL_step rfl rfl (Exec.load_box (hS23524) A3 rfl rfl rfl ?_)
    refine WL_step rfl rfl (Exec.gtr rfl rfl rfl ?_)
    refine WL_step rfl rfl (Exec.move (v := Value.bool (decide (20 < x22144.States))) rfl rfl ?_)
    rcases ite_some ht23539 with ⟨hc23541, ht23539⟩ | ⟨hc23541, ht23539⟩
    · refine WL_run rfl (yield_of rfl (congrArg Value.bool hc23541)) rfl (Exec.load_box_agg (ds := [Value.int .i64 (x22144.States), Value.int .i64 (x22144.Init), v22145, v22147, v22149]) (hS23524) A26 rfl rfl rfl ?_)
      obtain ⟨y23544, q23543, ht23539⟩ := bind_some ht23539
      refine WL_run rfl (yield_of rfl (congrArg Value.bool hc23541)) rfl (Exec.call rfl rfl Tryd.func13 rfl N13 (args_cons rfl args_nil) ((ref44_Valid_sim q23543 hS23524 a22146 a22148 a22150).mono ?_))
      rintro _ w23545 ⟨_, rfl, ⟨s23546, l23547, hS23548, rfl⟩⟩
      refine ⟨_, rfl, ?_⟩
      refine WL_step rfl rfl (Exec.pick_t (v := Value.bool (y23544)) rfl (congrArg Value.bool hc23541) rfl ?_)
      refine WL_step rfl rfl (Exec.move (v := Value.bool (y23544)) rfl rfl ?_)
      rcases ite_some ht23539 with ⟨hc23549, ht23539⟩ | ⟨hc23549, ht23539⟩
      · refine WL_pass rfl (yield_of rfl (congrArg Value.bool hc23549)) rfl rfl ?_
        refine WL_pass rfl (yield_of rfl (congrArg Value.bool hc23549)) rfl rfl ?_
        refine WL_pass rfl (yield_of rfl (congrArg Value.bool hc23549)) rfl rfl ?_
        refine WL_pass rfl (yield_of rfl (congrArg Value.bool hc23549)) rfl rfl ?_
        refine WL_step rfl rfl (Exec.pick_t (v := Value.bool (true)) rfl (congrArg Value.bool hc23549) rfl ?_)
        refine WL_step rfl rfl (Exec.move (v := Value.bool (true)) rfl rfl ?_)
        refine WL_pass rfl (yield_of rfl rfl) rfl rfl ?_
        refine WL_pass rfl (yield_of rfl rfl) rfl rfl ?_
        refine WL_pass rfl (yield_of rfl rfl) rfl rfl ?_
        refine WL_pass rfl (yield_of rfl rfl) rfl rfl ?_
        refine WL_step rfl rfl (Exec.pick_t (v := Value.bool (true)) rfl rfl rfl ?_)
        refine WL_step rfl rfl (Exec.move (v := Value.bool (true)) rfl rfl ?_)
        refine WL_pass rfl (yield_of rfl rfl) rfl rfl ?_
        refine WL_pass rfl (yield_of rfl rfl) rfl rfl ?_
        refine WL_pass rfl (yield_of rfl rfl) rfl rfl ?_
        refine WL_pass rfl (yield_of rfl rfl) rfl rfl ?_
        refine WL_step rfl rfl (Exec.pick_t (v := Value.bool (true)) rfl rfl rfl ?_)
        refine WL_step rfl rfl (Exec.assign (v := Value.bool (true)) rfl rfl ?_)
        refine WL_nil (at_normal ?_)
        have e23550 := Option.some.inj ht23539
        subst z23538
        have hS23551 := (hS23548).drop
        exact ⟨s23546, l23547, hS23551, rfl⟩
      · replace hc23549 := not_true hc23549
        refine WL_run rfl (yield_of rfl (congrArg Value.bool hc23549)) rfl (Exec.field F26_4 rfl rfl rfl ?_)
        refine WL_run rfl (yield_of rfl (congrArg Value.bool hc23549)) rfl (Exec.load_box (hS23548) A24 rfl rfl rfl ?_)
        refine WL_run rfl (yield_of rfl (congrArg Value.bool hc23549)) rfl (Exec.len_rep S24 rfl rfl (a22150.mono l23547) ?_)
        refine WL_run rfl (yield_of rfl (congrArg Value.bool hc23549)) rfl (Exec.gtr rfl rfl rfl ?_)
        refine WL_step rfl rfl (Exec.pick_f (v := Value.bool (decide (5000 < (x22144.Goals.length : Int)))) rfl (congrArg Value.bool hc23549) rfl ?_)
        refine WL_step rfl rfl (Exec.move (v := Value.bool (decide (5000 < (x22144.Goals.length : Int)))) rfl rfl ?_)
        rcases ite_some ht23539 with ⟨hc23552, ht23539⟩ | ⟨hc23552, ht23539⟩
        · refine WL_pass rfl (yield_of rfl (congrArg Value.bool hc23552)) rfl rfl ?_
          refine WL_pass rfl (yield_of rfl (congrArg Value.bool hc23552)) rfl rfl ?_
          refine WL_pass rfl (yield_of rfl (congrArg Value.bool hc23552)) rfl rfl ?_
          refine WL_pass rfl (yield_of rfl (congrArg Value.bool hc23552)) rfl rfl ?_
          refine WL_step rfl rfl (Exec.pick_t (v := Value.bool (true)) rfl (congrArg Value.bool hc23552) rfl ?_)
          refine WL_step rfl rfl (Exec.move (v := Value.bool (true)) rfl rfl ?_)
          refine WL_pass rfl (yield_of rfl rfl) rfl rfl ?_
          refine WL_pass rfl (yield_of rfl rfl) rfl rfl ?_
          refine WL_pass rfl (yield_of rfl rfl) rfl rfl ?_
          refine WL_pass rfl (yield_of rfl rfl) rfl rfl ?_
          refine WL_step rfl rfl (Exec.pick_t (v := Value.bool (true)) rfl rfl rfl ?_)
          refine WL_step rfl rfl (Exec.assign (v := Value.bool (true)) rfl rfl ?_)
          refine WL_nil (at_normal ?_)
          have e23553 := Option.some.inj ht23539
          subst z23538
          have hS23554 := (hS23548).drop
          exact ⟨s23546, l23547, hS23554, rfl⟩
        · replace hc23552 := not_true hc23552
          refine WL_run rfl (yield_of rfl (congrArg Value.bool hc23552)) rfl (Exec.field F26_3 rfl rfl rfl ?_)
          refine WL_run rfl (yield_of rfl (congrArg Value.bool hc23552)) rfl (Exec.load_box (hS23548) A23 rfl rfl rfl ?_)
          refine WL_run rfl (yield_of rfl (congrArg Value.bool hc23552)) rfl (Exec.len_rep S23 rfl rfl (a22148.mono l23547) ?_)
          refine WL_run rfl (yield_of rfl (congrArg Value.bool hc23552)) rfl (Exec.gtr rfl rfl rfl ?_)
          refine WL_step rfl rfl (Exec.pick_f (v := Value.bool (decide (80 < (x22144.Edges.length : Int)))) rfl (congrArg Value.bool hc23552) rfl ?_)
          refine WL_step rfl rfl (Exec.move (v := Value.bool (decide (80 < (x22144.Edges.length : Int)))) rfl rfl ?_)
          rcases ite_some ht23539 with ⟨hc23555, ht23539⟩ | ⟨hc23555, ht23539⟩
          · refine WL_pass rfl (yield_of rfl (congrArg Value.bool hc23555)) rfl rfl ?_
            refine WL_pass rfl (yield_of rfl (congrArg Value.bool hc23555)) rfl rfl ?_
            refine WL_pass rfl (yield_of rfl (congrArg Value.bool hc23555)) rfl rfl ?_
            refine WL_pass rfl (yield_of rfl (congrArg Value.bool hc23555)) rfl rfl ?_
            refine WL_step rfl rfl (Exec.pick_t (v := Value.bool (true)) rfl (congrArg Value.bool hc23555) rfl ?_)
            refine WL_step rfl rfl (Exec.assign (v := Value.bool (true)) rfl rfl ?_)
            refine WL_nil (at_normal ?_)
            have e23556 := Option.some.inj ht23539
            subst z23538
            have hS23557 := (hS23548).drop
            exact ⟨s23546, l23547, hS23557, rfl⟩
          · replace hc23555 := not_true hc23555
            refine WL_run rfl (yield_of rfl (congrArg Value.bool hc23555)) rfl (Exec.field F26_2 rfl rfl rfl ?_)
            refine WL_run rfl (yield_of rfl (congrArg Value.bool hc23555)) rfl (Exec.load_box (hS23548) A22 rfl rfl rfl ?_)
            refine WL_run rfl (yield_of rfl (congrArg Value.bool hc23555)) rfl (Exec.len_rep S22 rfl rfl (a22146.mono l23547) ?_)
            refine WL_run rfl (yield_of rfl (congrArg Value.bool hc23555)) rfl (Exec.gtr rfl rfl rfl ?_)
            refine WL_step rfl rfl (Exec.pick_f (v := Value.bool (decide (20 < (x22144.Costs.length : Int)))) rfl (congrArg Value.bool hc23555) rfl ?_)
            refine WL_step rfl rfl (Exec.assign (v := Value.bool (decide (20 < (x22144.Costs.length : Int)))) rfl rfl ?_)
            refine WL_nil (at_normal ?_)
            have e23558 := Option.some.inj ht23539
            subst z23538
            have hS23559 := (hS23548).drop
            exact ⟨s23546, l23547, hS23559, rfl⟩
    · replace hc23541 := not_true hc23541
      refine WL_pass rfl (yield_of rfl (congrArg Value.bool hc23541)) rfl rfl ?_
      refine WL_pass rfl (yield_of rfl (congrArg Value.bool hc23541)) rfl rfl ?_
      refine WL_step rfl rfl (Exec.pick_f (v := Value.bool (false)) rfl (congrArg Value.bool hc23541) rfl ?_)
      refine WL_step rfl rfl (Exec.move (v := Value.bool (false)) rfl rfl ?_)
      refine WL_run rfl (yield_of rfl rfl) rfl (Exec.field F26_4 rfl rfl rfl ?_)
      refine WL_run rfl (yield_of rfl rfl) rfl (Exec.load_box (hS23524) A24 rfl rfl rfl ?_)
      refine WL_run rfl (yield_of rfl rfl) rfl (Exec.len_rep S24 rfl rfl a22150 ?_)
      refine WL_run rfl (yield_of rfl rfl) rfl (Exec.gtr rfl rfl rfl ?_)
      refine WL_step rfl rfl (Exec.pick_f (v := Value.bool (decide (5000 < (x22144.Goals.length : Int)))) rfl rfl rfl ?_)
      refine WL_step rfl rfl (Exec.move (v := Value.bool (decide (5000 < (x22144.Goals.length : Int)))) rfl rfl ?_)
      rcases ite_some ht23539 with ⟨hc23560, ht23539⟩ | ⟨hc23560, ht23539⟩
      · refine WL_pass rfl (yield_of rfl (congrArg Value.bool hc23560)) rfl rfl ?_
        refine WL_pass rfl (yield_of rfl (congrArg Value.bool hc23560)) rfl rfl ?_
        refine WL_pass rfl (yield_of rfl (congrArg Value.bool hc23560)) rfl rfl ?_
        refine WL_pass rfl (yield_of rfl (congrArg Value.bool hc23560)) rfl rfl ?_
        refine WL_step rfl rfl (Exec.pick_t (v := Value.bool (true)) rfl (congrArg Value.bool hc23560) rfl ?_)
        refine WL_step rfl rfl (Exec.move (v := Value.bool (true)) rfl rfl ?_)
        refine WL_pass rfl (yield_of rfl rfl) rfl rfl ?_
        refine WL_pass rfl (yield_of rfl rfl) rfl rfl ?_
        refine WL_pass rfl (yield_of rfl rfl) rfl rfl ?_
        refine WL_pass rfl (yield_of rfl rfl) rfl rfl ?_
        refine WL_step rfl rfl (Exec.pick_t (v := Value.bool (true)) rfl rfl rfl ?_)
        refine WL_step rfl rfl (Exec.assign (v := Value.bool (true)) rfl rfl ?_)
        refine WL_nil (at_normal ?_)
        have e23561 := Option.some.inj ht23539
        subst z23538
        have hS23562 := (hS23524).drop
        exact ⟨s, (PHeap.le_refl _), hS23562, rfl⟩
      · replace hc23560 := not_true hc23560
        refine WL_run rfl (yield_of rfl (congrArg Value.bool hc23560)) rfl (Exec.field F26_3 rfl rfl rfl ?_)
        refine WL_run rfl (yield_of rfl (congrArg Value.bool hc23560)) rfl (Exec.load_box (hS23524) A23 rfl rfl rfl ?_)
        refine WL_run rfl (yield_of rfl (congrArg Value.bool hc23560)) rfl (Exec.len_rep S23 rfl rfl a22148 ?_)
        refine WL_run rfl (yield_of rfl (congrArg Value.bool hc23560)) rfl (Exec.gtr rfl rfl rfl ?_)
        refine WL_step rfl rfl (Exec.pick_f (v := Value.bool (decide (80 < (x22144.Edges.length : Int)))) rfl (congrArg Value.bool hc23560) rfl ?_)
        refine WL_step rfl rfl (Exec.move (v := Value.bool (decide (80 < (x22144.Edges.length : Int)))) rfl rfl ?_)
        rcases ite_some ht23539 with ⟨hc23563, ht23539⟩ | ⟨hc23563, ht23539⟩
        · refine WL_pass rfl (yield_of rfl (congrArg Value.bool hc23563)) rfl rfl ?_
          refine WL_pass rfl (yield_of rfl (congrArg Value.bool hc23563)) rfl rfl ?_
          refine WL_pass rfl (yield_of rfl (congrArg Value.bool hc23563)) rfl rfl ?_
          refine WL_pass rfl (yield_of rfl (congrArg Value.bool hc23563)) rfl rfl ?_
          refine WL_step rfl rfl (Exec.pick_t (v := Value.bool (true)) rfl (congrArg Value.bool hc23563) rfl ?_)
          refine WL_step rfl rfl (Exec.assign (v := Value.bool (true)) rfl rfl ?_)
          refine WL_nil (at_normal ?_)
          have e23564 := Option.some.inj ht23539
          subst z23538
          have hS23565 := (hS23524).drop
          exact ⟨s, (PHeap.le_refl _), hS23565, rfl⟩
        · replace hc23563 := not_true hc23563
          refine WL_run rfl (yield_of rfl (congrArg Value.bool hc23563)) rfl (Exec.field F26_2 rfl rfl rfl ?_)
          refine WL_run rfl (yield_of rfl (congrArg Value.bool hc23563)) rfl (Exec.load_box (hS23524) A22 rfl rfl rfl ?_)
          refine WL_run rfl (yield_of rfl (congrArg Value.bool hc23563)) rfl (Exec.len_rep S22 rfl rfl a22146 ?_)
          refine WL_run rfl (yield_of rfl (congrArg Value.bool hc23563)) rfl (Exec.gtr rfl rfl rfl ?_)
          refine WL_step rfl rfl (Exec.pick_f (v := Value.bool (decide (20 < (x22144.Costs.length : Int)))) rfl (congrArg Value.bool hc23563) rfl ?_)
          refine WL_step rfl rfl (Exec.assign (v := Value.bool (decide (20 < (x22144.Costs.length : Int)))) rfl rfl ?_)
          refine WL_nil (at_normal ?_)
          have e23566 := Option.some.inj ht23539
          subst z23538
          have hS23567 := (hS23524).drop
          exact ⟨s, (PHeap.le_refl _), hS23567, rfl⟩
  · intro f23568 w23569 hM23570
    obtain ⟨s23571, l23572, hS23573, p23574⟩ := hM23570
    refine (at_normal ?_)
    refine W_ret ?_
    have e23576 := Option.some.inj hm
    subst r
    refine ⟨_, ret1 rfl, ?_⟩
    exact ⟨s23571, l23572, hS23573, p23574⟩

theorem ZZ34 : (Tryd.prog.info? 34).map (·.zero) = some (some (.int .i64 0)) := by kernel_rfl

theorem N21 : (Tryd.f21.name == "runtime.NumGoroutine") = false := by kernel_rfl

theorem base_Num_sim {w0 w : World} {s : PHeap} {H : List Res} {e23665 : (Option Int)}  {r : Int} (hm : base_Num_p e23665 = some r) (hS : St w0 s (H) w)  :
    Calls Tryd.prog 21 #[errV 34 (e23665)] w fun e w' => ∃ v, e = .returned v ∧ ((fun (y23669 : Int) => ∃ (s23670 : PHeap) , PHeap.le s s23670 ∧ St w0 s23670 (H) w' ∧ v = Value.int .i64 (y23669)) r) := by
  unfold base_Num_p at hm
  refine calls_of_W Tryd.func21 rfl rfl ?_
  refine W_seq ?_
  refine W_region ?_
  refine WL_step rfl rfl (Exec.assign (v := Value.int .i64 (0)) rfl rfl ?_)
  refine WL_nil (at_normal ?_)
  refine W_seq ?_
  refine W_seq ?_
  refine W_region ?_
  refine WL_step rfl rfl (Exec.move (v := errV 34 (e23665)) rfl rfl ?_)
  refine WL_step rfl rfl (Exec.err_eql_nil (T := 34) Tryd.underlying30 rfl rfl rfl ?_)
  refine WL_nil (at_normal ?_)
  rcases ite_some hm with ⟨hc23671, hm⟩ | ⟨hc23671, hm⟩
  · refine W_cond_t rfl hc23671 ?_
    refine W_seq ?_
    refine W_region ?_
    refine WL_step rfl rfl (Exec.assign (v := Value.int .i64 (0)) rfl rfl ?_)
    refine WL_nil (at_normal ?_)
    refine W_ret (at_ret ?_)
    have e23673 := Option.some.inj hm
    subst r
    refine ⟨_, ret1 rfl, ?_⟩
    exact ⟨s, (PHeap.le_refl _), hS, rfl⟩
  · refine W_cond_f rfl hc23671 ?_
    replace hc23671 := not_true hc23671
    refine W_skip (at_normal ?_)
    refine W_seq ?_
    refine W_seq ?_
    refine W_region ?_
    refine WL_step rfl rfl (Exec.move (v := errV 34 (e23665)) rfl rfl ?_)
    refine WL_step rfl rfl (Exec.err_assert Tryd.underlying34 ZZ34 rfl rfl ?_)
    refine WL_step rfl rfl (Exec.move (v := Value.tuple #[Value.int .i64 (e23665.getD 0), Value.bool (e23665.isSome)]) rfl rfl ?_)
    refine WL_step rfl rfl (Exec.extract (v := Value.int .i64 (e23665.getD 0)) rfl rfl rfl ?_)
    refine WL_step rfl rfl (Exec.extract (v := Value.bool (e23665.isSome)) rfl rfl rfl ?_)
    refine WL_step rfl rfl (Exec.assign (v := Value.int .i64 (e23665.getD 0)) rfl rfl ?_)
    refine WL_step rfl rfl (Exec.assign (v := Value.bool (e23665.isSome)) rfl rfl ?_)
    refine WL_nil (at_normal ?_)
    refine W_seq ?_
    refine W_region ?_
    refine WL_step rfl rfl (Exec.move (v := Value.bool (e23665.isSome)) rfl rfl ?_)
    refine WL_nil (at_normal ?_)
    rcases ite_some hm with ⟨hc23674, hm⟩ | ⟨hc23674, hm⟩
    · refine W_cond_t rfl hc23674 ?_
      refine W_seq ?_
      refine W_region ?_
      refine WL_step rfl rfl (Exec.move (v := Value.int .i64 (e23665.getD 0)) rfl rfl ?_)
      refine WL_step rfl rfl (Exec.assign (v := Value.int .i64 (e23665.getD 0)) rfl rfl ?_)
      refine WL_nil (at_normal ?_)
      refine W_ret (at_ret ?_)
      have e23676 := Option.some.inj hm
      subst r
      refine ⟨_, ret1 rfl, ?_⟩
      exact ⟨s, (PHeap.le_refl _), hS, rfl⟩
    · refine W_cond_f rfl hc23674 ?_
      replace hc23674 := not_true hc23674
      refine W_skip (at_normal ?_)
      refine W_seq ?_
      refine W_region ?_
      refine WL_step rfl rfl (Exec.assign (v := Value.int .i64 ((-1))) rfl rfl ?_)
      refine WL_nil (at_normal ?_)
      refine W_ret ?_
      have e23678 := Option.some.inj hm
      subst r
      refine ⟨_, ret1 rfl, ?_⟩
      exact ⟨s, (PHeap.le_refl _), hS, rfl⟩

theorem N14 : (Tryd.f14.name == "runtime.NumGoroutine") = false := by kernel_rfl

theorem base_Is_sim {w0 w : World} {s : PHeap} {H : List Res} {e23662 : (Option Int)} {code23663 : Int}  {r : Bool} (hm : base_Is_p e23662 code23663 = some r) (hS : St w0 s (H) w)  :
    Calls Tryd.prog 14 #[errV 34 (e23662), Value.int .i64 (code23663)] w fun e w' => ∃ v, e = .returned v ∧ ((fun (y23697 : Bool) => ∃ (s23698 : PHeap) , PHeap.le s s23698 ∧ St w0 s23698 (H) w' ∧ v = Value.bool (y23697)) r) := by
  unfold base_Is_p at hm
  refine calls_of_W Tryd.func14 rfl rfl ?_
  refine W_seq ?_
  refine W_region ?_
  refine WL_step rfl rfl (Exec.assign (v := Value.bool (false)) rfl rfl ?_)
  refine WL_nil (at_normal ?_)
  refine W_seq ?_
  refine W_mid (M := fun f' w' => ∃ (s23704 : PHeap) , PHeap.le s s23704 ∧ St w0 s23704 (H) w' ∧ f' 4 = Value.bool ((e23662.isSome && decide ((base_Num_t e23662) = code23663)))) ?_ ?_
  · refine W_region ?_
    refine WL_step rfl rfl (Exec.move (v := errV 34 (e23662)) rfl rfl ?_)
    refine WL_step rfl rfl (Exec.err_neq_nil (T := 34) Tryd.underlying30 rfl rfl rfl ?_)
    refine WL_step rfl rfl (Exec.move (v := Value.bool (e23662.isSome)) rfl rfl ?_)
    by_cases hc23705 : e23662.isSome = true
    · refine WL_run rfl (yield_of rfl (congrArg Value.bool hc23705)) rfl (Exec.move (v := errV 34 (e23662)) rfl rfl ?_)
      refine WL_run rfl (yield_of rfl (congrArg Value.bool hc23705)) rfl (Exec.call rfl rfl Tryd.func21 rfl N21 (args_cons rfl args_nil) ((base_Num_sim (base_Num_tot e23662) hS ).mono ?_))
      rintro _ w23706 ⟨_, rfl, ⟨s23707, l23708, hS23709, rfl⟩⟩
      refine ⟨_, rfl, ?_⟩
      refine WL_run rfl (yield_of rfl (congrArg Value.bool hc23705)) rfl (Exec.move (v := Value.int .i64 (code23663)) rfl rfl ?_)
      refine WL_run rfl (yield_of rfl (congrArg Value.bool hc23705)) rfl (Exec.eql rfl rfl rfl ?_)
      refine WL_step rfl rfl (Exec.pick_t (v := Value.bool (decide ((base_Num_t e23662) = code23663))) rfl (congrArg Value.bool hc23705) rfl ?_)
      refine WL_step rfl rfl (Exec.assign (v := Value.bool (decide ((base_Num_t e23662) = code23663))) rfl rfl ?_)
      refine WL_nil (at_normal ?_)
      exact ⟨s23707, l23708, hS23709, (congrArg Value.bool (and_t hc23705)).symm⟩
    · replace hc23705 := not_true hc23705
      refine WL_pass rfl (yield_of rfl (congrArg Value.bool hc23705)) rfl rfl ?_
      refine WL_pass rfl (yield_of rfl (congrArg Value.bool hc23705)) rfl rfl ?_
      refine WL_pass rfl (yield_of rfl (congrArg Value.bool hc23705)) rfl rfl ?_
      refine WL_pass rfl (yield_of rfl (congrArg Value.bool hc23705)) rfl rfl ?_
      refine WL_step rfl rfl (Exec.pick_f (v := Value.bool (false)) rfl (congrArg Value.bool hc23705) rfl ?_)
      refine WL_step rfl rfl (Exec.assign (v := Value.bool (false)) rfl rfl ?_)
      refine WL_nil (at_normal ?_)
      exact ⟨s, (PHeap.le_refl _), hS, (congrArg Value.bool (and_f hc23705)).symm⟩
  · intro f23710 w23711 hM23712
    obtain ⟨s23713, l23714, hS23715, p23716⟩ := hM23712
    refine (at_normal ?_)
    refine W_ret ?_
    have e23718 := Option.some.inj hm
    subst r
    refine ⟨_, ret1 rfl, ?_⟩
    exact ⟨s23713, l23714, hS23715, p23716⟩

theorem N45 : (Tryd.f45.name == "runtime.NumGoroutine") = false := by kernel_rfl

theorem ref45_leads_o_sim {w0 w : World} {s : PHeap} {H : List Res} {x23965 : System} {class23972 : (List Int)} {state23974 : Int} {label23975 : Int} {to23976 : Int} {v23966 : Value} {v23968 : Value} {v23970 : Value} {v23973 : Value} {r : Bool} (hm : ref45_leads_o_p x23965 class23972 state23974 label23975 to23976 = some r) (hS : St w0 s (Res.arr (encInt .i64) 3 v23973 class23972 :: H) w) (a23967 : SliceRep (encInt .i64) s v23966 x23965.Costs) (a23969 : SliceRep encEdge s v23968 x23965.Edges) (a23971 : SliceRep encBool s v23970 x23965.Goals) :
    Calls Tryd.prog 45 #[Value.agg #[Value.int .i64 (x23965.States), Value.int .i64 (x23965.Init), v23966, v23968, v23970], v23973, Value.int .i64 (state23974), Value.int .i64 (label23975), Value.int .i64 (to23976)] w fun e w' => ∃ v, e = .returned v ∧ ((fun (y24242 : Bool) => ∃ (s24243 : PHeap) , PHeap.le s s24243 ∧ St w0 s24243 (Res.arr (encInt .i64) 3 v23973 class23972 :: H) w' ∧ v = Value.bool (y24242)) r) := by
  unfold ref45_leads_o_p at hm
  refine calls_of_W Tryd.func45 rfl rfl ?_
  refine W_seq ?_
  refine W_region ?_
  refine WL_step rfl rfl (Exec.box (cs := [Value.int .i64 (x23965.States), Value.int .i64 (x23965.Init), v23966, v23968, v23970]) hS rfl rfl rfl ?_)
  intro b24247 w24248 hS24249
  refine WL_step rfl rfl (Exec.assign (v := Value.bool (false)) rfl rfl ?_)
  refine WL_nil (at_normal ?_)
  refine W_seq ?_
  refine W_seq ?_
  refine W_region ?_
  refine WL_step rfl rfl (Exec.field F26_3 rfl rfl rfl ?_)
  refine WL_step rfl rfl (Exec.load_box (hS24249) A23 rfl rfl rfl ?_)
  refine WL_step rfl rfl (Exec.len_rep S23 rfl rfl a23969 ?_)
  refine WL_step rfl rfl (Exec.move (v := Value.int .i64 (0)) rfl rfl ?_)
  refine WL_nil (at_normal ?_)
  obtain ⟨c24385, hB24386, hr24387, hn24388, hb24389⟩ := ctl_some hm
  refine W_mid (M := fun f' w' => ∃ s', (c24385 = .next s' ∨ c24385 = .brk s') ∧ (fun (_ : Unit) => ∃ (s24391 : PHeap) , PHeap.le s s24391 ∧ St w0 s24391 (Res.arr (encInt .i64) 3 v23973 class23972 :: H) w' ∧ f' 1 = v23973 ∧ f' 2 = Value.int .i64 (state23974) ∧ f' 3 = Value.int .i64 (label23975) ∧ f' 4 = Value.int .i64 (to23976) ∧ f' 14 = v23968 ∧ f' 15 = Value.int .i64 ((x23965.Edges.length : Int))) s') ?_ ?_
  · refine W_block (W_forC (fun k' s' f' w' => (fun (_ : Unit) => ∃ (s24390 : PHeap) , PHeap.le s s24390 ∧ St w0 s24390 (Res.arr (encInt .i64) 3 v23973 class23972 :: H) w' ∧ f' 1 = v23973 ∧ f' 2 = Value.int .i64 (state23974) ∧ f' 3 = Value.int .i64 (label23975) ∧ f' 4 = Value.int .i64 (to23976) ∧ f' 14 = v23968 ∧ f' 15 = Value.int .i64 ((x23965.Edges.length : Int)) ∧ f' 16 = Value.int .i64 (k' : Int)) s') hB24386 ?_ ?_ ?_)
    · have hS24392 := (hS24249).drop
      exact ⟨s, (PHeap.le_refl _), hS24392, rfl, rfl, rfl, rfl, rfl, rfl, rfl⟩
    · intro i24250 t24400 c24394 f24395 w24396 hi24401 hI24397 hm24398 hres24399
      obtain ⟨s24402, l24403, hS24404, p24405, p24406, p24407, p24408, p24409, p24410, x24411⟩ := hI24397
      refine W_seq ?_
      refine W_region ?_
      refine WL_step rfl rfl (Exec.lss rfl x24411 p24410 ?_)
      refine WL_nil (at_normal ?_)
      refine W_seq ?_
      refine W_true (congrArg Value.bool (decide_eq_true (by omega))) ?_
      refine W_skip (at_normal ?_)
      refine W_seq ?_
      refine W_block ?_
      refine W_seq ?_
      refine W_region ?_
      obtain ⟨x24424, q24425, hm24398⟩ := bind_some hm24398
      refine WL_step rfl rfl (Exec.index_rep S23 rfl p24409 x24411 (a23969.mono l24403) q24425 ?_)
      intro b24426 o24427 a24428
      refine WL_step rfl rfl (Exec.load_at (E := encEdge) hS24404 A53 rfl rfl rfl a24428 ?_)
      intro v24429 q24430
      obtain rfl := encEdge_val.1 q24430
      refine WL_step rfl rfl (Exec.alloc (cs := [Value.int .i64 (0), Value.int .i64 (0), Value.int .i64 (0)]) hS24404 Z53 rfl rfl ?_)
      intro b24431 w24432 hS24433
      refine WL_step rfl rfl (Exec.store_box (ds := [Value.int .i64 (x24424.From), Value.int .i64 (x24424.Label), Value.int .i64 (x24424.To)]) (es := [Value.int .i64 (x24424.From), Value.int .i64 (x24424.Label), Value.int .i64 (x24424.To)]) hS24433 A53 rfl rfl rfl rfl (one_cons rfl (one_cons rfl (one_cons rfl one_nil))) (Nat.le_of_ble_eq_true rfl) rfl ?_)
      intro w24434 hS24435
      refine WL_nil (at_normal ?_)
      refine W_seq ?_
      obtain ⟨z24445, ht24446, hm24398⟩ := bind_some hm24398
      refine W_mid (M := fun f' w' => (fun (z24445 : Bool) => ∃ (s24447 : PHeap) , PHeap.le s24402 s24447 ∧ St w0 s24447 (Res.arr (encInt .i64) 3 v23973 class23972 :: H) w' ∧ f' 1 = v23973 ∧ f' 2 = Value.int .i64 (state23974) ∧ f' 3 = Value.int .i64 (label23975) ∧ f' 4 = Value.int .i64 (to23976) ∧ f' 14 = v23968 ∧ f' 15 = Value.int .i64 ((x23965.Edges.length : Int)) ∧ f' 16 = Value.int .i64 ((i24250 : Int)) ∧ f' 38 = Value.bool (z24445)) z24445) ?_ ?_
      · refine W_region ?_
        refine WL_step rfl rfl (Exec.field F53_0 rfl rfl rfl ?_)
        refine WL_step rfl rfl (Exec.load_box (hS24435) A3 rfl rfl rfl ?_)
        refine WL_step rfl rfl (Exec.move (v := Value.int .i64 (state23974)) rfl p24406 ?_)
        refine WL_step rfl rfl (Exec.eql rfl rfl rfl ?_)
        refine WL_step rfl rfl (Exec.move (v := Value.bool (decide (x24424.From = state23974))) rfl rfl ?_)
        rcases ite_some ht24446 with ⟨hc24448, ht24446⟩ | ⟨hc24448, ht24446⟩
        · refine WL_run rfl (yield_of rfl (congrArg Value.bool hc24448)) rfl (Exec.field F53_1 rfl rfl rfl ?_)
          refine WL_run rfl (yield_of rfl (congrArg Value.bool hc24448)) rfl (Exec.load_box (hS24435) A3 rfl rfl rfl ?_)
          refine WL_run rfl (yield_of rfl (congrArg Value.bool hc24448)) rfl (Exec.move (v := Value.int .i64 (label23975)) rfl p24407 ?_)
          refine WL_run rfl (yield_of rfl (congrArg Value.bool hc24448)) rfl (Exec.eql rfl rfl rfl ?_)
          refine WL_step rfl rfl (Exec.pick_t (v := Value.bool (decide (x24424.Label = label23975))) rfl (congrArg Value.bool hc24448) rfl ?_)
          refine WL_step rfl rfl (Exec.move (v := Value.bool (decide (x24424.Label = label23975))) rfl rfl ?_)
          rcases ite_some ht24446 with ⟨hc24449, ht24446⟩ | ⟨hc24449, ht24446⟩
          · refine WL_run rfl (yield_of rfl (congrArg Value.bool hc24449)) rfl (Exec.move (v := v23973) rfl p24405 ?_)
            refine WL_run rfl (yield_of rfl (congrArg Value.bool hc24449)) rfl (Exec.field F53_2 rfl rfl rfl ?_)
            refine WL_run rfl (yield_of rfl (congrArg Value.bool hc24449)) rfl (Exec.load_box (hS24435) A3 rfl rfl rfl ?_)
            obtain ⟨x24450, q24451, ht24446⟩ := bind_some ht24446
            obtain ⟨g24452, c24453, e24454⟩ := ((hS24435).f1).arr_at q24451
            refine WL_run rfl (yield_of rfl (congrArg Value.bool hc24449)) rfl (Exec.index_slice S22 rfl e24454 rfl (idx_some q24451).1 (idx_some q24451).2.1 ?_)
            refine WL_run rfl (yield_of rfl (congrArg Value.bool hc24449)) rfl (Exec.load_arr (F := (encInt .i64)) ((hS24435).f1) e24454 A3 rfl rfl rfl q24451 (Sub.refl _) ?_)
            intro v24455 q24456
            obtain rfl := encInt_val.1 q24456
            refine WL_run rfl (yield_of rfl (congrArg Value.bool hc24449)) rfl (Exec.move (v := Value.int .i64 (to23976)) rfl p24408 ?_)
            refine WL_run rfl (yield_of rfl (congrArg Value.bool hc24449)) rfl (Exec.eql rfl rfl rfl ?_)
            refine WL_step rfl rfl (Exec.pick_t (v := Value.bool (decide (x24450 = to23976))) rfl (congrArg Value.bool hc24449) rfl ?_)
            refine WL_nil (at_normal ?_)
            have e24457 := Option.some.inj ht24446
            subst z24445
            have hS24458 := (hS24435).drop
            exact ⟨s24402, (PHeap.le_refl _), hS24458, p24405, p24406, p24407, p24408, p24409, p24410, x24411, rfl⟩
          · replace hc24449 := not_true hc24449
            refine WL_pass rfl (yield_of rfl (congrArg Value.bool hc24449)) rfl rfl ?_
            refine WL_pass rfl (yield_of rfl (congrArg Value.bool hc24449)) rfl rfl ?_
            refine WL_pass rfl (yield_of rfl (congrArg Value.bool hc24449)) rfl rfl ?_
            refine WL_pass rfl (yield_of rfl (congrArg Value.bool hc24449)) rfl rfl ?_
            refine WL_pass rfl (yield_of rfl (congrArg Value.bool hc24449)) rfl rfl ?_
            refine WL_pass rfl (yield_of rfl (congrArg Value.bool hc24449)) rfl rfl ?_
            refine WL_pass rfl (yield_of rfl (congrArg Value.bool hc24449)) rfl rfl ?_
            refine WL_step rfl rfl (Exec.pick_f (v := Value.bool (false)) rfl (congrArg Value.bool hc24449) rfl ?_)
            refine WL_nil (at_normal ?_)
            have e24459 := Option.some.inj ht24446
            subst z24445
            have hS24460 := (hS24435).drop
            exact ⟨s24402, (PHeap.le_refl _), hS24460, p24405, p24406, p24407, p24408, p24409, p24410, x24411, rfl⟩
        · replace hc24448 := not_true hc24448
          refine WL_pass rfl (yield_of rfl (congrArg Value.bool hc24448)) rfl rfl ?_
          refine WL_pass rfl (yield_of rfl (congrArg Value.bool hc24448)) rfl rfl ?_
          refine WL_pass rfl (yield_of rfl (congrArg Value.bool hc24448)) rfl rfl ?_
          refine WL_pass rfl (yield_of rfl (congrArg Value.bool hc24448)) rfl rfl ?_
          refine WL_step rfl rfl (Exec.pick_f (v := Value.bool (false)) rfl (congrArg Value.bool hc24448) rfl ?_)
          refine WL_step rfl rfl (Exec.move (v := Value.bool (false)) rfl rfl ?_)
          refine WL_pass rfl (yield_of rfl rfl) rfl rfl ?_
          refine WL_pass rfl (yield_of rfl rfl) rfl rfl ?_
          refine WL_pass rfl (yield_of rfl rfl) rfl rfl ?_
          refine WL_pass rfl (yield_of rfl rfl) rfl rfl ?_
          refine WL_pass rfl (yield_of rfl rfl) rfl rfl ?_
          refine WL_pass rfl (yield_of rfl rfl) rfl rfl ?_
          refine WL_pass rfl (yield_of rfl rfl) rfl rfl ?_
          refine WL_step rfl rfl (Exec.pick_f (v := Value.bool (false)) rfl rfl rfl ?_)
          refine WL_nil (at_normal ?_)
          have e24461 := Option.some.inj ht24446
          subst z24445
          have hS24462 := (hS24435).drop
          exact ⟨s24402, (PHeap.le_refl _), hS24462, p24405, p24406, p24407, p24408, p24409, p24410, x24411, rfl⟩
      · intro f24463 w24464 hM24465
        obtain ⟨s24466, l24467, hS24468, p24469, p24470, p24471, p24472, p24473, p24474, p24475, p24476⟩ := hM24465
        refine (at_normal ?_)
        rcases ite_some hm24398 with ⟨hc24477, hm24398⟩ | ⟨hc24477, hm24398⟩
        · refine W_cond_t p24476 hc24477 ?_
          refine W_seq ?_
          refine W_region ?_
          refine WL_step rfl rfl (Exec.assign (v := Value.bool (true)) rfl rfl ?_)
          refine WL_nil (at_normal ?_)
          refine W_ret (ib_ret (at_ret (at_ret (ib_ret (at_ret (at_ret ?_))))))
          have e24478 := Option.some.inj hm24398
          subst c24394
          have hq24479 := hr24387 _ (hres24399 (by intro _ h; cases h))
          have e24480 := Option.some.inj hq24479
          subst r
          refine ⟨_, ret1 rfl, ?_⟩
          exact ⟨s24466, (PHeap.le.trans l24403 l24467), hS24468, rfl⟩
        · refine W_cond_f p24476 hc24477 ?_
          replace hc24477 := not_true hc24477
          refine W_skip (ib_normal (at_normal ?_))
          refine W_region ?_
          refine WL_step rfl rfl (Exec.add rfl p24475 rfl ?_)
          refine WL_step rfl rfl (Exec.move (v := Value.int .i64 (IntKind.i64.wrap ((i24250 : Int) + 1))) rfl rfl ?_)
          refine WL_nil (at_normal ?_)
          have e24481 := Option.some.inj hm24398
          subst c24394
          refine ⟨_, rfl, ?_⟩; exact ⟨s24466, (PHeap.le.trans l24403 l24467), hS24468, p24469, p24470, p24471, p24472, p24473, p24474, (Eq.trans rfl (wrap_up hi24401 (SliceRep.le a23969)))⟩
    · intro t24482 f24483 w24484 hI24485 hres24486
      obtain ⟨s24487, l24488, hS24489, p24490, p24491, p24492, p24493, p24494, p24495, x24496⟩ := hI24485
      refine W_seq ?_
      refine W_region ?_
      refine WL_step rfl rfl (Exec.lss rfl x24496 p24495 ?_)
      refine WL_nil (at_normal ?_)
      refine W_seq ?_
      refine W_false (congrArg Value.bool (decide_eq_false (by omega))) ?_
      refine W_exit (at_exit (at_exit (ib_here (at_normal ?_))))
      refine ⟨_, .inl hres24486, ?_⟩; exact ⟨s24487, l24488, hS24489, p24490, p24491, p24492, p24493, p24494, p24495⟩
  · rintro f24497 w24498 ⟨t24499, hc24500, hM24501⟩
    have hm := hc24500.elim (hn24388 _) (hb24389 _)
    clear hc24500
    obtain ⟨s24502, l24503, hS24504, p24505, p24506, p24507, p24508, p24509, p24510⟩ := hM24501
    refine (at_normal ?_)
    refine W_seq ?_
    refine W_region ?_
    refine WL_step rfl rfl (Exec.assign (v := Value.bool (false)) rfl rfl ?_)
    refine WL_nil (at_normal ?_)
    refine W_ret ?_
    have e24512 := Option.some.inj hm
    subst r
    refine ⟨_, ret1 rfl, ?_⟩
    exact ⟨s24502, l24503, hS24504, rfl⟩

theorem N23 : (Tryd.f23.name == "runtime.NumGoroutine") = false := by kernel_rfl

theorem ref45_Agree_o_sim {w0 w : World} {s : PHeap} {H : List Res} {x23839 : System} {class23846 : (List Int)} {i23848 : Int} {k23849 : Int} {v23840 : Value} {v23842 : Value} {v23844 : Value} {v23847 : Value} {r : Bool} (hm : ref45_Agree_o_p x23839 class23846 i23848 k23849 = some r) (hS : St w0 s (Res.arr (encInt .i64) 3 v23847 class23846 :: H) w) (a23841 : SliceRep (encInt .i64) s v23840 x23839.Costs) (a23843 : SliceRep encEdge s v23842 x23839.Edges) (a23845 : SliceRep encBool s v23844 x23839.Goals) :
    Calls Tryd.prog 23 #[Value.agg #[Value.int .i64 (x23839.States), Value.int .i64 (x23839.Init), v23840, v23842, v23844], v23847, Value.int .i64 (i23848), Value.int .i64 (k23849)] w fun e w' => ∃ v, e = .returned v ∧ ((fun (y25384 : Bool) => ∃ (s25385 : PHeap) , PHeap.le s s25385 ∧ St w0 s25385 (Res.arr (encInt .i64) 3 v23847 class23846 :: H) w' ∧ v = Value.bool (y25384)) r) := by
  unfold ref45_Agree_o_p at hm
  refine calls_of_W Tryd.func23 rfl rfl ?_
  refine W_seq ?_
  refine W_region ?_
  refine WL_step rfl rfl (Exec.box (cs := [Value.int .i64 (x23839.States), Value.int .i64 (x23839.Init), v23840, v23842, v23844]) hS rfl rfl rfl ?_)
  intro b25389 w25390 hS25391
  refine WL_step rfl rfl (Exec.assign (v := Value.bool (false)) rfl rfl ?_)
  refine WL_nil (at_normal ?_)
  refine W_seq ?_
  refine W_seq ?_
  refine W_dl (n0 := 11) (.q 0 (.q 1 (.q 2 (.q 3 (.q 4 (.q 5 (.q 6 (.q 7 (.q 8 (.q 9 (.q 10 .done))))))))))) hmix (by kernel_rfl) (by kernel_rfl) ?_
  have hS25443 := hS25391.drew
  refine DL_q rfl rfl (Exec.field F26_4 rfl rfl rfl ⟨rfl, ?_⟩)
  refine DL_q rfl rfl (Exec.load_box (hS25443) A24 rfl rfl rfl ⟨rfl, ?_⟩)
  refine DL_q rfl rfl (Exec.move (v := Value.int .i64 (i23848)) rfl rfl ⟨rfl, ?_⟩)
  obtain ⟨x25444, q25445, hm⟩ := bind_some hm
  refine DL_q rfl rfl (Exec.index_repE S24 rfl rfl rfl a23845 q25445 ?_)
  intro b25446 o25447 a25448 e25449
  refine ⟨rfl, ?_⟩
  refine DL_q rfl rfl (Exec.load_at (E := encBool) hS25443 A4 rfl rfl rfl a25448 ?_)
  intro v25450 q25451
  obtain rfl := encBool_val.1 q25451
  refine ⟨rfl, ?_⟩
  refine DL_q rfl rfl (Exec.field F26_4 rfl rfl rfl ⟨rfl, ?_⟩)
  refine DL_q rfl rfl (Exec.load_box (hS25443) A24 rfl rfl rfl ⟨rfl, ?_⟩)
  refine DL_q rfl rfl (Exec.move (v := Value.int .i64 (k23849)) rfl rfl ⟨rfl, ?_⟩)
  obtain ⟨x25452, q25453, hm⟩ := bind_some hm
  refine DL_q rfl rfl (Exec.index_repE S24 rfl rfl rfl a23845 q25453 ?_)
  intro b25454 o25455 a25456 e25457
  refine ⟨rfl, ?_⟩
  refine DL_q rfl rfl (Exec.load_at (E := encBool) hS25443 A4 rfl rfl rfl a25456 ?_)
  intro v25458 q25459
  obtain rfl := encBool_val.1 q25459
  refine ⟨rfl, ?_⟩
  refine DL_q rfl rfl (Exec.bool_neq Tryd.underlying4 rfl rfl rfl ⟨rfl, ?_⟩)
  refine DL_done ?_
  refine WL_nil (at_normal ?_)
  rcases ite_some hm with ⟨hc25460, hm⟩ | ⟨hc25460, hm⟩
  · refine W_cond_t rfl hc25460 ?_
    refine W_seq ?_
    refine W_region ?_
    refine WL_step rfl rfl (Exec.assign (v := Value.bool (false)) rfl rfl ?_)
    refine WL_nil (at_normal ?_)
    refine W_ret (at_ret ?_)
    have e25462 := Option.some.inj hm
    subst r
    refine ⟨_, ret1 rfl, ?_⟩
    have hS25463 := (hS25443).drop
    exact ⟨s, (PHeap.le_refl _), hS25463, rfl⟩
  · refine W_cond_f rfl hc25460 ?_
    replace hc25460 := not_true hc25460
    refine W_skip (at_normal ?_)
    refine W_seq ?_
    refine W_seq ?_
    refine W_region ?_
    refine WL_step rfl rfl (Exec.field F26_3 rfl rfl rfl ?_)
    refine WL_step rfl rfl (Exec.load_box (hS25443) A23 rfl rfl rfl ?_)
    refine WL_step rfl rfl (Exec.len_rep S23 rfl rfl a23843 ?_)
    refine WL_step rfl rfl (Exec.move (v := Value.int .i64 (0)) rfl rfl ?_)
    refine WL_nil (at_normal ?_)
    obtain ⟨c26031, hB26032, hr26033, hn26034, hb26035⟩ := ctl_some hm
    refine W_mid (M := fun f' w' => ∃ s', (c26031 = .next s' ∨ c26031 = .brk s') ∧ (fun (_ : Unit) => ∃ (s26037 : PHeap) , PHeap.le s s26037 ∧ St w0 s26037 (Res.arr (encInt .i64) 3 v23847 class23846 :: Res.box b25389 26 [Value.int .i64 (x23839.States), Value.int .i64 (x23839.Init), v23840, v23842, v23844] :: H) w' ∧ f' 1 = v23847 ∧ f' 2 = Value.int .i64 (i23848) ∧ f' 3 = Value.int .i64 (k23849) ∧ f' 4 = Value.pointer (some ⟨b25389, 0, none⟩) ∧ f' 23 = v23842 ∧ f' 24 = Value.int .i64 ((x23839.Edges.length : Int))) s') ?_ ?_
    · refine W_block (W_forC (fun k' s' f' w' => (fun (_ : Unit) => ∃ (s26036 : PHeap) , PHeap.le s s26036 ∧ St w0 s26036 (Res.arr (encInt .i64) 3 v23847 class23846 :: Res.box b25389 26 [Value.int .i64 (x23839.States), Value.int .i64 (x23839.Init), v23840, v23842, v23844] :: H) w' ∧ f' 1 = v23847 ∧ f' 2 = Value.int .i64 (i23848) ∧ f' 3 = Value.int .i64 (k23849) ∧ f' 4 = Value.pointer (some ⟨b25389, 0, none⟩) ∧ f' 23 = v23842 ∧ f' 24 = Value.int .i64 ((x23839.Edges.length : Int)) ∧ f' 25 = Value.int .i64 (k' : Int)) s') hB26032 ?_ ?_ ?_)
      · have hS26038 := (hS25443).f1
        exact ⟨s, (PHeap.le_refl _), hS26038, rfl, rfl, rfl, rfl, rfl, rfl, rfl⟩
      · intro i25464 t26046 c26040 f26041 w26042 hi26047 hI26043 hm26044 hres26045
        obtain ⟨s26048, l26049, hS26050, p26051, p26052, p26053, p26054, p26055, p26056, x26057⟩ := hI26043
        refine W_seq ?_
        refine W_region ?_
        refine WL_step rfl rfl (Exec.lss rfl x26057 p26056 ?_)
        refine WL_nil (at_normal ?_)
        refine W_seq ?_
        refine W_true (congrArg Value.bool (decide_eq_true (by omega))) ?_
        refine W_skip (at_normal ?_)
        refine W_seq ?_
        refine W_block ?_
        refine W_seq ?_
        refine W_region ?_
        obtain ⟨x26070, q26071, hm26044⟩ := bind_some hm26044
        refine WL_step rfl rfl (Exec.index_rep S23 rfl p26055 x26057 (a23843.mono l26049) q26071 ?_)
        intro b26072 o26073 a26074
        refine WL_step rfl rfl (Exec.load_at (E := encEdge) hS26050 A53 rfl rfl rfl a26074 ?_)
        intro v26075 q26076
        obtain rfl := encEdge_val.1 q26076
        refine WL_step rfl rfl (Exec.alloc (cs := [Value.int .i64 (0), Value.int .i64 (0), Value.int .i64 (0)]) hS26050 Z53 rfl rfl ?_)
        intro b26077 w26078 hS26079
        refine WL_step rfl rfl (Exec.store_box (ds := [Value.int .i64 (x26070.From), Value.int .i64 (x26070.Label), Value.int .i64 (x26070.To)]) (es := [Value.int .i64 (x26070.From), Value.int .i64 (x26070.Label), Value.int .i64 (x26070.To)]) hS26079 A53 rfl rfl rfl rfl (one_cons rfl (one_cons rfl (one_cons rfl one_nil))) (Nat.le_of_ble_eq_true rfl) rfl ?_)
        intro w26080 hS26081
        refine WL_nil (at_normal ?_)
        refine W_seq ?_
        obtain ⟨z26196, ht26197, hm26044⟩ := bind_some hm26044
        refine W_mid (M := fun f' w' => (fun (z26196 : Bool) => ∃ (s26198 : PHeap) , PHeap.le s26048 s26198 ∧ St w0 s26198 (Res.arr (encInt .i64) 3 v23847 class23846 :: Res.box b25389 26 [Value.int .i64 (x23839.States), Value.int .i64 (x23839.Init), v23840, v23842, v23844] :: H) w' ∧ f' 1 = v23847 ∧ f' 2 = Value.int .i64 (i23848) ∧ f' 3 = Value.int .i64 (k23849) ∧ f' 4 = Value.pointer (some ⟨b25389, 0, none⟩) ∧ f' 23 = v23842 ∧ f' 24 = Value.int .i64 ((x23839.Edges.length : Int)) ∧ f' 25 = Value.int .i64 ((i25464 : Int)) ∧ f' 63 = Value.bool (z26196)) z26196) ?_ ?_
        · refine W_dl (n0 := 35) (.q 0 (.q 1 (.q 2 (.q 3 (.q 4 (.q 5 (.q 6 (.q 7 (.q 8 (.q 9 (.q 10 (.q 11 (.q 12 (.q 13 (.q 14 (.q 15 (.q 16 (.q 17 (.q 18 (.q 19 (.q 20 (.q 22 (.q 23 (.q 24 (.q 25 (.q 26 (.q 27 (.q 28 (.q 29 (.q 30 (.q 31 (.e 21 [22, 23, 24, 25, 26, 27, 28, 29, 30, 31] (.e 32 [] (.q 33 (.q 34 .done))))))))))))))))))))))))))))))))))) hmix (by kernel_rfl) (by kernel_rfl) ?_
          have hS26256 := hS26081.drew
          refine DL_q rfl rfl (Exec.field F53_0 rfl rfl rfl ⟨rfl, ?_⟩)
          refine DL_q rfl rfl (Exec.load_box (hS26256) A3 rfl rfl rfl ⟨rfl, ?_⟩)
          refine DL_q rfl rfl (Exec.move (v := Value.int .i64 (i23848)) rfl p26052 ⟨rfl, ?_⟩)
          refine DL_q rfl rfl (Exec.eql rfl rfl rfl ⟨rfl, ?_⟩)
          refine DL_q rfl rfl (Exec.move (v := Value.bool (decide (x26070.From = i23848))) rfl rfl ⟨rfl, ?_⟩)
          rcases ite_some ht26197 with ⟨hc26257, ht26197⟩ | ⟨hc26257, ht26197⟩
          · refine DL_qp rfl rfl (yield_of rfl (congrArg Value.bool hc26257)) rfl ?_
            refine DL_qp rfl rfl (yield_of rfl (congrArg Value.bool hc26257)) rfl ?_
            refine DL_qp rfl rfl (yield_of rfl (congrArg Value.bool hc26257)) rfl ?_
            refine DL_qp rfl rfl (yield_of rfl (congrArg Value.bool hc26257)) rfl ?_
            refine DL_q rfl rfl (Exec.pick_t (v := Value.bool (true)) rfl (congrArg Value.bool hc26257) rfl ⟨rfl, ?_⟩)
            refine DL_q rfl rfl (Exec.move (v := Value.bool (true)) rfl rfl ⟨rfl, ?_⟩)
            refine DL_qg rfl rfl (yield_of rfl rfl) (Exec.load_box_agg (ds := [Value.int .i64 (x23839.States), Value.int .i64 (x23839.Init), v23840, v23842, v23844]) ((hS26256).f2) A26 rfl p26054 rfl ⟨rfl, ?_⟩)
            refine DL_qg rfl rfl (yield_of rfl rfl) (Exec.move (v := v23847) rfl p26051 ⟨rfl, ?_⟩)
            refine DL_qg rfl rfl (yield_of rfl rfl) (Exec.move (v := Value.int .i64 (i23848)) rfl p26052 ⟨rfl, ?_⟩)
            refine DL_qg rfl rfl (yield_of rfl rfl) (Exec.field F53_1 rfl rfl rfl ⟨rfl, ?_⟩)
            refine DL_qg rfl rfl (yield_of rfl rfl) (Exec.load_box (hS26256) A3 rfl rfl rfl ⟨rfl, ?_⟩)
            refine DL_qg rfl rfl (yield_of rfl rfl) (Exec.move (v := v23847) rfl p26051 ⟨rfl, ?_⟩)
            refine DL_qg rfl rfl (yield_of rfl rfl) (Exec.field F53_2 rfl rfl rfl ⟨rfl, ?_⟩)
            refine DL_qg rfl rfl (yield_of rfl rfl) (Exec.load_box (hS26256) A3 rfl rfl rfl ⟨rfl, ?_⟩)
            obtain ⟨x26258, q26259, ht26197⟩ := bind_some ht26197
            obtain ⟨g26260, c26261, e26262⟩ := ((hS26256).f1).arr_at q26259
            refine DL_qg rfl rfl (yield_of rfl rfl) (Exec.index_slice S22 rfl e26262 rfl (idx_some q26259).1 (idx_some q26259).2.1 ⟨rfl, ?_⟩)
            refine DL_qg rfl rfl (yield_of rfl rfl) (Exec.load_arr (F := (encInt .i64)) ((hS26256).f1) e26262 A3 rfl rfl rfl q26259 (Sub.refl _) ?_)
            intro v26263 q26264
            obtain rfl := encInt_val.1 q26264
            refine ⟨rfl, ?_⟩
            refine DL_qg rfl rfl (yield_of rfl rfl) (Exec.load_box_agg (ds := [Value.int .i64 (x23839.States), Value.int .i64 (x23839.Init), v23840, v23842, v23844]) ((hS26256).f2) A26 rfl p26054 rfl ⟨rfl, ?_⟩)
            refine DL_qg rfl rfl (yield_of rfl rfl) (Exec.move (v := v23847) rfl p26051 ⟨rfl, ?_⟩)
            refine DL_qg rfl rfl (yield_of rfl rfl) (Exec.move (v := Value.int .i64 (k23849)) rfl p26053 ⟨rfl, ?_⟩)
            refine DL_qg rfl rfl (yield_of rfl rfl) (Exec.field F53_1 rfl rfl rfl ⟨rfl, ?_⟩)
            refine DL_qg rfl rfl (yield_of rfl rfl) (Exec.load_box (hS26256) A3 rfl rfl rfl ⟨rfl, ?_⟩)
            refine DL_qg rfl rfl (yield_of rfl rfl) (Exec.move (v := v23847) rfl p26051 ⟨rfl, ?_⟩)
            refine DL_qg rfl rfl (yield_of rfl rfl) (Exec.field F53_2 rfl rfl rfl ⟨rfl, ?_⟩)
            refine DL_qg rfl rfl (yield_of rfl rfl) (Exec.load_box (hS26256) A3 rfl rfl rfl ⟨rfl, ?_⟩)
            obtain ⟨g26265, c26266, e26267⟩ := ((hS26256).f1).arr_at q26259
            refine DL_qg rfl rfl (yield_of rfl rfl) (Exec.index_slice S22 rfl e26267 rfl (idx_some q26259).1 (idx_some q26259).2.1 ⟨rfl, ?_⟩)
            refine DL_qg rfl rfl (yield_of rfl rfl) (Exec.load_arr (F := (encInt .i64)) ((hS26256).f1) e26267 A3 rfl rfl rfl q26259 (Sub.refl _) ?_)
            intro v26268 q26269
            obtain rfl := encInt_val.1 q26269
            refine ⟨rfl, ?_⟩
            obtain ⟨y26272, q26271, ht26197⟩ := bind_some ht26197
            have hS26273 := (hS26256).f1
            refine DL_eg rfl rfl (yield_of rfl rfl) (Exec.call rfl rfl Tryd.func45 rfl N45 (args_cons rfl (args_cons rfl (args_cons rfl (args_cons rfl (args_cons rfl args_nil))))) ((ref45_leads_o_sim q26271 hS26273 (a23841.mono l26049) (a23843.mono l26049) (a23845.mono l26049)).mono ?_))
            rintro _ w26274 ⟨_, rfl, ⟨s26275, l26276, hS26277, rfl⟩⟩
            refine ⟨_, rfl, ?_⟩
            refine ⟨(ag_cons (ag_g rfl rfl (yield_of rfl rfl) (Exec.load_box_agg (ds := [Value.int .i64 (x23839.States), Value.int .i64 (x23839.Init), v23840, v23842, v23844]) ((hS26277).f2) A26 rfl p26054 rfl ⟨rfl, rfl⟩)) (ag_cons (ag_g rfl rfl (yield_of rfl rfl) (Exec.move (v := v23847) rfl p26051 ⟨rfl, rfl⟩)) (ag_cons (ag_g rfl rfl (yield_of rfl rfl) (Exec.move (v := Value.int .i64 (k23849)) rfl p26053 ⟨rfl, rfl⟩)) (ag_cons (ag_g rfl rfl (yield_of rfl rfl) (Exec.field F53_1 rfl rfl rfl ⟨rfl, rfl⟩)) (ag_cons (ag_g rfl rfl (yield_of rfl rfl) (Exec.load_box ((hS26277).f1) A3 rfl rfl rfl ⟨rfl, rfl⟩)) (ag_cons (ag_g rfl rfl (yield_of rfl rfl) (Exec.move (v := v23847) rfl p26051 ⟨rfl, rfl⟩)) (ag_cons (ag_g rfl rfl (yield_of rfl rfl) (Exec.field F53_2 rfl rfl rfl ⟨rfl, rfl⟩)) (ag_cons (ag_g rfl rfl (yield_of rfl rfl) (Exec.load_box ((hS26277).f1) A3 rfl rfl rfl ⟨rfl, rfl⟩)) (ag_cons (ag_g rfl rfl (yield_of rfl rfl) (Exec.index_slice S22 rfl e26267 rfl (idx_some q26259).1 (idx_some q26259).2.1 ⟨rfl, rfl⟩)) (ag_cons (ag_g rfl rfl (yield_of rfl rfl) (Exec.load_arr (F := (encInt .i64)) (hS26277) e26267 A3 rfl rfl rfl q26259 (Sub.refl _) (fun _ q => ⟨rfl, encInt_val.1 q⟩))) ag_nil)))))))))), ?_⟩
            obtain ⟨y26280, q26279, ht26197⟩ := bind_some ht26197
            refine DL_eg rfl rfl (yield_of rfl rfl) (Exec.call rfl rfl Tryd.func45 rfl N45 (args_cons rfl (args_cons rfl (args_cons rfl (args_cons rfl (args_cons rfl args_nil))))) ((ref45_leads_o_sim q26279 hS26277 (a23841.mono (PHeap.le.trans l26049 l26276)) (a23843.mono (PHeap.le.trans l26049 l26276)) (a23845.mono (PHeap.le.trans l26049 l26276))).mono ?_))
            rintro _ w26281 ⟨_, rfl, ⟨s26282, l26283, hS26284, rfl⟩⟩
            refine ⟨_, rfl, ?_⟩
            refine ⟨ag_nil, ?_⟩
            refine DL_qg rfl rfl (yield_of rfl rfl) (Exec.bool_neq Tryd.underlying4 rfl rfl rfl ⟨rfl, ?_⟩)
            refine DL_q rfl rfl (Exec.pick_t (v := Value.bool (!(y26272 == y26280))) rfl rfl rfl ⟨rfl, ?_⟩)
            refine DL_done ?_
            refine WL_nil (at_normal ?_)
            have e26285 := Option.some.inj ht26197
            subst z26196
            have hS26286 := ((hS26284).f1).drop
            have hS26287 := (hS26286).f1
            have hS26288 := (hS26287).f1
            exact ⟨s26282, (PHeap.le.trans l26276 l26283), hS26288, p26051, p26052, p26053, p26054, p26055, p26056, x26057, rfl⟩
          · replace hc26257 := not_true hc26257
            refine DL_qg rfl rfl (yield_of rfl (congrArg Value.bool hc26257)) (Exec.field F53_0 rfl rfl rfl ⟨rfl, ?_⟩)
            refine DL_qg rfl rfl (yield_of rfl (congrArg Value.bool hc26257)) (Exec.load_box (hS26256) A3 rfl rfl rfl ⟨rfl, ?_⟩)
            refine DL_qg rfl rfl (yield_of rfl (congrArg Value.bool hc26257)) (Exec.move (v := Value.int .i64 (k23849)) rfl p26053 ⟨rfl, ?_⟩)
            refine DL_qg rfl rfl (yield_of rfl (congrArg Value.bool hc26257)) (Exec.eql rfl rfl rfl ⟨rfl, ?_⟩)
            refine DL_q rfl rfl (Exec.pick_f (v := Value.bool (decide (x26070.From = k23849))) rfl (congrArg Value.bool hc26257) rfl ⟨rfl, ?_⟩)
            refine DL_q rfl rfl (Exec.move (v := Value.bool (decide (x26070.From = k23849))) rfl rfl ⟨rfl, ?_⟩)
            rcases ite_some ht26197 with ⟨hc26289, ht26197⟩ | ⟨hc26289, ht26197⟩
            · refine DL_qg rfl rfl (yield_of rfl (congrArg Value.bool hc26289)) (Exec.load_box_agg (ds := [Value.int .i64 (x23839.States), Value.int .i64 (x23839.Init), v23840, v23842, v23844]) ((hS26256).f2) A26 rfl p26054 rfl ⟨rfl, ?_⟩)
              refine DL_qg rfl rfl (yield_of rfl (congrArg Value.bool hc26289)) (Exec.move (v := v23847) rfl p26051 ⟨rfl, ?_⟩)
              refine DL_qg rfl rfl (yield_of rfl (congrArg Value.bool hc26289)) (Exec.move (v := Value.int .i64 (i23848)) rfl p26052 ⟨rfl, ?_⟩)
              refine DL_qg rfl rfl (yield_of rfl (congrArg Value.bool hc26289)) (Exec.field F53_1 rfl rfl rfl ⟨rfl, ?_⟩)
              refine DL_qg rfl rfl (yield_of rfl (congrArg Value.bool hc26289)) (Exec.load_box (hS26256) A3 rfl rfl rfl ⟨rfl, ?_⟩)
              refine DL_qg rfl rfl (yield_of rfl (congrArg Value.bool hc26289)) (Exec.move (v := v23847) rfl p26051 ⟨rfl, ?_⟩)
              refine DL_qg rfl rfl (yield_of rfl (congrArg Value.bool hc26289)) (Exec.field F53_2 rfl rfl rfl ⟨rfl, ?_⟩)
              refine DL_qg rfl rfl (yield_of rfl (congrArg Value.bool hc26289)) (Exec.load_box (hS26256) A3 rfl rfl rfl ⟨rfl, ?_⟩)
              obtain ⟨x26290, q26291, ht26197⟩ := bind_some ht26197
              obtain ⟨g26292, c26293, e26294⟩ := ((hS26256).f1).arr_at q26291
              refine DL_qg rfl rfl (yield_of rfl (congrArg Value.bool hc26289)) (Exec.index_slice S22 rfl e26294 rfl (idx_some q26291).1 (idx_some q26291).2.1 ⟨rfl, ?_⟩)
              refine DL_qg rfl rfl (yield_of rfl (congrArg Value.bool hc26289)) (Exec.load_arr (F := (encInt .i64)) ((hS26256).f1) e26294 A3 rfl rfl rfl q26291 (Sub.refl _) ?_)
              intro v26295 q26296
              obtain rfl := encInt_val.1 q26296
              refine ⟨rfl, ?_⟩
              refine DL_qg rfl rfl (yield_of rfl (congrArg Value.bool hc26289)) (Exec.load_box_agg (ds := [Value.int .i64 (x23839.States), Value.int .i64 (x23839.Init), v23840, v23842, v23844]) ((hS26256).f2) A26 rfl p26054 rfl ⟨rfl, ?_⟩)
              refine DL_qg rfl rfl (yield_of rfl (congrArg Value.bool hc26289)) (Exec.move (v := v23847) rfl p26051 ⟨rfl, ?_⟩)
              refine DL_qg rfl rfl (yield_of rfl (congrArg Value.bool hc26289)) (Exec.move (v := Value.int .i64 (k23849)) rfl p26053 ⟨rfl, ?_⟩)
              refine DL_qg rfl rfl (yield_of rfl (congrArg Value.bool hc26289)) (Exec.field F53_1 rfl rfl rfl ⟨rfl, ?_⟩)
              refine DL_qg rfl rfl (yield_of rfl (congrArg Value.bool hc26289)) (Exec.load_box (hS26256) A3 rfl rfl rfl ⟨rfl, ?_⟩)
              refine DL_qg rfl rfl (yield_of rfl (congrArg Value.bool hc26289)) (Exec.move (v := v23847) rfl p26051 ⟨rfl, ?_⟩)
              refine DL_qg rfl rfl (yield_of rfl (congrArg Value.bool hc26289)) (Exec.field F53_2 rfl rfl rfl ⟨rfl, ?_⟩)
              refine DL_qg rfl rfl (yield_of rfl (congrArg Value.bool hc26289)) (Exec.load_box (hS26256) A3 rfl rfl rfl ⟨rfl, ?_⟩)
              obtain ⟨g26297, c26298, e26299⟩ := ((hS26256).f1).arr_at q26291
              refine DL_qg rfl rfl (yield_of rfl (congrArg Value.bool hc26289)) (Exec.index_slice S22 rfl e26299 rfl (idx_some q26291).1 (idx_some q26291).2.1 ⟨rfl, ?_⟩)
              refine DL_qg rfl rfl (yield_of rfl (congrArg Value.bool hc26289)) (Exec.load_arr (F := (encInt .i64)) ((hS26256).f1) e26299 A3 rfl rfl rfl q26291 (Sub.refl _) ?_)
              intro v26300 q26301
              obtain rfl := encInt_val.1 q26301
              refine ⟨rfl, ?_⟩
              obtain ⟨y26304, q26303, ht26197⟩ := bind_some ht26197
              have hS26305 := (hS26256).f1
              refine DL_eg rfl rfl (yield_of rfl (congrArg Value.bool hc26289)) (Exec.call rfl rfl Tryd.func45 rfl N45 (args_cons rfl (args_cons rfl (args_cons rfl (args_cons rfl (args_cons rfl args_nil))))) ((ref45_leads_o_sim q26303 hS26305 (a23841.mono l26049) (a23843.mono l26049) (a23845.mono l26049)).mono ?_))
              rintro _ w26306 ⟨_, rfl, ⟨s26307, l26308, hS26309, rfl⟩⟩
              refine ⟨_, rfl, ?_⟩
              refine ⟨(ag_cons (ag_g rfl rfl (yield_of rfl (congrArg Value.bool hc26289)) (Exec.load_box_agg (ds := [Value.int .i64 (x23839.States), Value.int .i64 (x23839.Init), v23840, v23842, v23844]) ((hS26309).f2) A26 rfl p26054 rfl ⟨rfl, rfl⟩)) (ag_cons (ag_g rfl rfl (yield_of rfl (congrArg Value.bool hc26289)) (Exec.move (v := v23847) rfl p26051 ⟨rfl, rfl⟩)) (ag_cons (ag_g rfl rfl (yield_of rfl (congrArg Value.bool hc26289)) (Exec.move (v := Value.int .i64 (k23849)) rfl p26053 ⟨rfl, rfl⟩)) (ag_cons (ag_g rfl rfl (yield_of rfl (congrArg Value.bool hc26289)) (Exec.field F53_1 rfl rfl rfl ⟨rfl, rfl⟩)) (ag_cons (ag_g rfl rfl (yield_of rfl (congrArg Value.bool hc26289)) (Exec.load_box ((hS26309).f1) A3 rfl rfl rfl ⟨rfl, rfl⟩)) (ag_cons (ag_g rfl rfl (yield_of rfl (congrArg Value.bool hc26289)) (Exec.move (v := v23847) rfl p26051 ⟨rfl, rfl⟩)) (ag_cons (ag_g rfl rfl (yield_of rfl (congrArg Value.bool hc26289)) (Exec.field F53_2 rfl rfl rfl ⟨rfl, rfl⟩)) (ag_cons (ag_g rfl rfl (yield_of rfl (congrArg Value.bool hc26289)) (Exec.load_box ((hS26309).f1) A3 rfl rfl rfl ⟨rfl, rfl⟩)) (ag_cons (ag_g rfl rfl (yield_of rfl (congrArg Value.bool hc26289)) (Exec.index_slice S22 rfl e26299 rfl (idx_some q26291).1 (idx_some q26291).2.1 ⟨rfl, rfl⟩)) (ag_cons (ag_g rfl rfl (yield_of rfl (congrArg Value.bool hc26289)) (Exec.load_arr (F := (encInt .i64)) (hS26309) e26299 A3 rfl rfl rfl q26291 (Sub.refl _) (fun _ q => ⟨rfl, encInt_val.1 q⟩))) ag_nil)))))))))), ?_⟩
              obtain ⟨y26312, q26311, ht26197⟩ := bind_some ht26197
              refine DL_eg rfl rfl (yield_of rfl (congrArg Value.bool hc26289)) (Exec.call rfl rfl Tryd.func45 rfl N45 (args_cons rfl (args_cons rfl (args_cons rfl (args_cons rfl (args_cons rfl args_nil))))) ((ref45_leads_o_sim q26311 hS26309 (a23841.mono (PHeap.le.trans l26049 l26308)) (a23843.mono (PHeap.le.trans l26049 l26308)) (a23845.mono (PHeap.le.trans l26049 l26308))).mono ?_))
              rintro _ w26313 ⟨_, rfl, ⟨s26314, l26315, hS26316, rfl⟩⟩
              refine ⟨_, rfl, ?_⟩
              refine ⟨ag_nil, ?_⟩
              refine DL_qg rfl rfl (yield_of rfl (congrArg Value.bool hc26289)) (Exec.bool_neq Tryd.underlying4 rfl rfl rfl ⟨rfl, ?_⟩)
              refine DL_q rfl rfl (Exec.pick_t (v := Value.bool (!(y26304 == y26312))) rfl (congrArg Value.bool hc26289) rfl ⟨rfl, ?_⟩)
              refine DL_done ?_
              refine WL_nil (at_normal ?_)
              have e26317 := Option.some.inj ht26197
              subst z26196
              have hS26318 := ((hS26316).f1).drop
              have hS26319 := (hS26318).f1
              have hS26320 := (hS26319).f1
              exact ⟨s26314, (PHeap.le.trans l26308 l26315), hS26320, p26051, p26052, p26053, p26054, p26055, p26056, x26057, rfl⟩
            · replace hc26289 := not_true hc26289
              refine DL_qp rfl rfl (yield_of rfl (congrArg Value.bool hc26289)) rfl ?_
              refine DL_qp rfl rfl (yield_of rfl (congrArg Value.bool hc26289)) rfl ?_
              refine DL_qp rfl rfl (yield_of rfl (congrArg Value.bool hc26289)) rfl ?_
              refine DL_qp rfl rfl (yield_of rfl (congrArg Value.bool hc26289)) rfl ?_
              refine DL_qp rfl rfl (yield_of rfl (congrArg Value.bool hc26289)) rfl ?_
              refine DL_qp rfl rfl (yield_of rfl (congrArg Value.bool hc26289)) rfl ?_
              refine DL_qp rfl rfl (yield_of rfl (congrArg Value.bool hc26289)) rfl ?_
              refine DL_qp rfl rfl (yield_of rfl (congrArg Value.bool hc26289)) rfl ?_
              refine DL_qp rfl rfl (yield_of rfl (congrArg Value.bool hc26289)) rfl ?_
              refine DL_qp rfl rfl (yield_of rfl (congrArg Value.bool hc26289)) rfl ?_
              refine DL_qp rfl rfl (yield_of rfl (congrArg Value.bool hc26289)) rfl ?_
              refine DL_qp rfl rfl (yield_of rfl (congrArg Value.bool hc26289)) rfl ?_
              refine DL_qp rfl rfl (yield_of rfl (congrArg Value.bool hc26289)) rfl ?_
              refine DL_qp rfl rfl (yield_of rfl (congrArg Value.bool hc26289)) rfl ?_
              refine DL_qp rfl rfl (yield_of rfl (congrArg Value.bool hc26289)) rfl ?_
              refine DL_qp rfl rfl (yield_of rfl (congrArg Value.bool hc26289)) rfl ?_
              refine DL_qp rfl rfl (yield_of rfl (congrArg Value.bool hc26289)) rfl ?_
              refine DL_qp rfl rfl (yield_of rfl (congrArg Value.bool hc26289)) rfl ?_
              refine DL_qp rfl rfl (yield_of rfl (congrArg Value.bool hc26289)) rfl ?_
              refine DL_qp rfl rfl (yield_of rfl (congrArg Value.bool hc26289)) rfl ?_
              refine DL_ep rfl rfl (yield_of rfl (congrArg Value.bool hc26289)) rfl ?_
              refine DL_ep rfl rfl (yield_of rfl (congrArg Value.bool hc26289)) rfl ?_
              refine DL_qp rfl rfl (yield_of rfl (congrArg Value.bool hc26289)) rfl ?_
              refine DL_q rfl rfl (Exec.pick_f (v := Value.bool (false)) rfl (congrArg Value.bool hc26289) rfl ⟨rfl, ?_⟩)
              refine DL_done ?_
              refine WL_nil (at_normal ?_)
              have e26321 := Option.some.inj ht26197
              subst z26196
              have hS26322 := (hS26256).drop
              have hS26323 := (hS26322).f1
              have hS26324 := (hS26323).f1
              exact ⟨s26048, (PHeap.le_refl _), hS26324, p26051, p26052, p26053, p26054, p26055, p26056, x26057, rfl⟩
        · intro f26325 w26326 hM26327
          obtain ⟨s26328, l26329, hS26330, p26331, p26332, p26333, p26334, p26335, p26336, p26337, p26338⟩ := hM26327
          refine (at_normal ?_)
          rcases ite_some hm26044 with ⟨hc26339, hm26044⟩ | ⟨hc26339, hm26044⟩
          · refine W_cond_t p26338 hc26339 ?_
            refine W_seq ?_
            refine W_region ?_
            refine WL_step rfl rfl (Exec.assign (v := Value.bool (false)) rfl rfl ?_)
            refine WL_nil (at_normal ?_)
            refine W_ret (ib_ret (at_ret (at_ret (ib_ret (at_ret (at_ret ?_))))))
            have e26340 := Option.some.inj hm26044
            subst c26040
            have hq26341 := hr26033 _ (hres26045 (by intro _ h; cases h))
            have e26342 := Option.some.inj hq26341
            subst r
            refine ⟨_, ret1 rfl, ?_⟩
            have hS26343 := ((hS26330).f1).drop
            exact ⟨s26328, (PHeap.le.trans l26049 l26329), hS26343, rfl⟩
          · refine W_cond_f p26338 hc26339 ?_
            replace hc26339 := not_true hc26339
            refine W_skip (ib_normal (at_normal ?_))
            refine W_region ?_
            refine WL_step rfl rfl (Exec.add rfl p26337 rfl ?_)
            refine WL_step rfl rfl (Exec.move (v := Value.int .i64 (IntKind.i64.wrap ((i25464 : Int) + 1))) rfl rfl ?_)
            refine WL_nil (at_normal ?_)
            have e26344 := Option.some.inj hm26044
            subst c26040
            have hS26345 := (hS26330).f1
            have hS26346 := (hS26345).f1
            refine ⟨_, rfl, ?_⟩; exact ⟨s26328, (PHeap.le.trans l26049 l26329), hS26346, p26331, p26332, p26333, p26334, p26335, p26336, (Eq.trans rfl (wrap_up hi26047 (SliceRep.le a23843)))⟩
      · intro t26347 f26348 w26349 hI26350 hres26351
        obtain ⟨s26352, l26353, hS26354, p26355, p26356, p26357, p26358, p26359, p26360, x26361⟩ := hI26350
        refine W_seq ?_
        refine W_region ?_
        refine WL_step rfl rfl (Exec.lss rfl x26361 p26360 ?_)
        refine WL_nil (at_normal ?_)
        refine W_seq ?_
        refine W_false (congrArg Value.bool (decide_eq_false (by omega))) ?_
        refine W_exit (at_exit (at_exit (ib_here (at_normal ?_))))
        have hS26362 := (hS26354).f1
        have hS26363 := (hS26362).f1
        refine ⟨_, .inl hres26351, ?_⟩; exact ⟨s26352, l26353, hS26363, p26355, p26356, p26357, p26358, p26359, p26360⟩
    · rintro f26364 w26365 ⟨t26366, hc26367, hM26368⟩
      have hm := hc26367.elim (hn26034 _) (hb26035 _)
      clear hc26367
      obtain ⟨s26369, l26370, hS26371, p26372, p26373, p26374, p26375, p26376, p26377⟩ := hM26368
      refine (at_normal ?_)
      refine W_seq ?_
      refine W_region ?_
      refine WL_step rfl rfl (Exec.assign (v := Value.bool (true)) rfl rfl ?_)
      refine WL_nil (at_normal ?_)
      refine W_ret ?_
      have e26379 := Option.some.inj hm
      subst r
      refine ⟨_, ret1 rfl, ?_⟩
      have hS26380 := ((hS26371).f1).drop
      exact ⟨s26369, l26370, hS26380, rfl⟩

theorem base_Ints_o_o_sim {w0 w : World} {s : PHeap} {H : List Res} {a29082 : (List Int)} {b29084 : (List Int)} {v29083 : Value} {v29085 : Value} {r : Bool} (hm : base_Ints_o_o_p a29082 b29084 = some r) (hS : St w0 s (Res.arr (encInt .i64) 3 v29083 a29082 :: Res.arr (encInt .i64) 3 v29085 b29084 :: H) w)  :
    Calls Tryd.prog 15 #[v29083, v29085] w fun e w' => ∃ v, e = .returned v ∧ ((fun (y29327 : Bool) => ∃ (s29328 : PHeap) , PHeap.le s s29328 ∧ St w0 s29328 (Res.arr (encInt .i64) 3 v29083 a29082 :: Res.arr (encInt .i64) 3 v29085 b29084 :: H) w' ∧ v = Value.bool (y29327)) r) := by
  unfold base_Ints_o_o_p at hm
  refine calls_of_W Tryd.func15 rfl rfl ?_
  refine W_seq ?_
  refine W_region ?_
  refine WL_step rfl rfl (Exec.assign (v := Value.bool (false)) rfl rfl ?_)
  refine WL_nil (at_normal ?_)
  refine W_seq ?_
  refine W_seq ?_
  refine W_region ?_
  refine WL_step rfl rfl (Exec.move (v := v29083) rfl rfl ?_)
  refine WL_step rfl rfl (Exec.len_arr (hS) S22 rfl rfl ?_)
  refine WL_step rfl rfl (Exec.move (v := v29085) rfl rfl ?_)
  refine WL_step rfl rfl (Exec.len_arr ((hS).f1) S22 rfl rfl ?_)
  refine WL_step rfl rfl (Exec.neq rfl rfl rfl ?_)
  refine WL_nil (at_normal ?_)
  rcases ite_some hm with ⟨hc29329, hm⟩ | ⟨hc29329, hm⟩
  · refine W_cond_t rfl hc29329 ?_
    refine W_seq ?_
    refine W_region ?_
    refine WL_step rfl rfl (Exec.assign (v := Value.bool (false)) rfl rfl ?_)
    refine WL_nil (at_normal ?_)
    refine W_ret (at_ret ?_)
    have e29331 := Option.some.inj hm
    subst r
    refine ⟨_, ret1 rfl, ?_⟩
    have hS29332 := (hS).f1
    have hS29333 := (hS29332).f1
    exact ⟨s, (PHeap.le_refl _), hS29333, rfl⟩
  · refine W_cond_f rfl hc29329 ?_
    replace hc29329 := not_true hc29329
    refine W_skip (at_normal ?_)
    refine W_seq ?_
    refine W_seq ?_
    refine W_region ?_
    refine WL_step rfl rfl (Exec.move (v := v29083) rfl rfl ?_)
    refine WL_step rfl rfl (Exec.len_arr (hS) S22 rfl rfl ?_)
    refine WL_step rfl rfl (Exec.move (v := Value.int .i64 (0)) rfl rfl ?_)
    refine WL_nil (at_normal ?_)
    obtain ⟨c29459, hB29460, hr29461, hn29462, hb29463⟩ := ctl_some hm
    refine W_mid (M := fun f' w' => ∃ s', (c29459 = .next s' ∨ c29459 = .brk s') ∧ (fun (_ : Unit) => ∃ (s29465 : PHeap) , PHeap.le s s29465 ∧ St w0 s29465 (Res.arr (encInt .i64) 3 v29083 a29082 :: Res.arr (encInt .i64) 3 v29085 b29084 :: H) w' ∧ f' 0 = v29083 ∧ f' 1 = v29085 ∧ f' 12 = Value.int .i64 ((a29082.length : Int))) s') ?_ ?_
    · refine W_block (W_forC (fun k' s' f' w' => (fun (_ : Unit) => ∃ (s29464 : PHeap) , PHeap.le s s29464 ∧ St w0 s29464 (Res.arr (encInt .i64) 3 v29083 a29082 :: Res.arr (encInt .i64) 3 v29085 b29084 :: H) w' ∧ f' 0 = v29083 ∧ f' 1 = v29085 ∧ f' 12 = Value.int .i64 ((a29082.length : Int)) ∧ f' 13 = Value.int .i64 (k' : Int)) s') hB29460 ?_ ?_ ?_)
      · have hS29466 := (hS).f1
        have hS29467 := (hS29466).f1
        exact ⟨s, (PHeap.le_refl _), hS29467, rfl, rfl, rfl, rfl⟩
      · intro i29334 t29475 c29469 f29470 w29471 hi29476 hI29472 hm29473 hres29474
        obtain ⟨s29477, l29478, hS29479, p29480, p29481, p29482, x29483⟩ := hI29472
        refine W_seq ?_
        refine W_region ?_
        refine WL_step rfl rfl (Exec.lss rfl x29483 p29482 ?_)
        refine WL_nil (at_normal ?_)
        refine W_seq ?_
        refine W_true (congrArg Value.bool (decide_eq_true (by omega))) ?_
        refine W_skip (at_normal ?_)
        refine W_seq ?_
        refine W_block ?_
        refine W_seq ?_
        refine W_region ?_
        refine WL_step rfl rfl (Exec.move (v := Value.int .i64 ((i29334 : Int))) rfl x29483 ?_)
        refine WL_step rfl rfl (Exec.assign (v := Value.int .i64 ((i29334 : Int))) rfl rfl ?_)
        refine WL_nil (at_normal ?_)
        refine W_seq ?_
        refine W_dl (n0 := 9) (.q 0 (.q 1 (.q 2 (.q 3 (.q 4 (.q 5 (.q 6 (.q 7 (.q 8 .done))))))))) hmix (by kernel_rfl) (by kernel_rfl) ?_
        have hS29529 := hS29479.drew
        refine DL_q rfl rfl (Exec.move (v := v29083) rfl p29480 ⟨rfl, ?_⟩)
        refine DL_q rfl rfl (Exec.move (v := Value.int .i64 ((i29334 : Int))) rfl rfl ⟨rfl, ?_⟩)
        obtain ⟨x29530, q29531, hm29473⟩ := bind_some hm29473
        obtain ⟨g29532, c29533, e29534⟩ := (hS29529).arr_at q29531
        refine DL_q rfl rfl (Exec.index_slice S22 rfl e29534 rfl (idx_some q29531).1 (idx_some q29531).2.1 ⟨rfl, ?_⟩)
        refine DL_q rfl rfl (Exec.load_arr (F := (encInt .i64)) (hS29529) e29534 A3 rfl rfl rfl q29531 (Sub.refl _) ?_)
        intro v29535 q29536
        obtain rfl := encInt_val.1 q29536
        refine ⟨rfl, ?_⟩
        refine DL_q rfl rfl (Exec.move (v := v29085) rfl p29481 ⟨rfl, ?_⟩)
        refine DL_q rfl rfl (Exec.move (v := Value.int .i64 ((i29334 : Int))) rfl rfl ⟨rfl, ?_⟩)
        obtain ⟨x29537, q29538, hm29473⟩ := bind_some hm29473
        obtain ⟨g29539, c29540, e29541⟩ := ((hS29529).f1).arr_at q29538
        refine DL_q rfl rfl (Exec.index_slice S22 rfl e29541 rfl (idx_some q29538).1 (idx_some q29538).2.1 ⟨rfl, ?_⟩)
        refine DL_q rfl rfl (Exec.load_arr (F := (encInt .i64)) ((hS29529).f1) e29541 A3 rfl rfl rfl q29538 (Sub.refl _) ?_)
        intro v29542 q29543
        obtain rfl := encInt_val.1 q29543
        refine ⟨rfl, ?_⟩
        refine DL_q rfl rfl (Exec.neq rfl rfl rfl ⟨rfl, ?_⟩)
        refine DL_done ?_
        refine WL_nil (at_normal ?_)
        rcases ite_some hm29473 with ⟨hc29544, hm29473⟩ | ⟨hc29544, hm29473⟩
        · refine W_cond_t rfl hc29544 ?_
          refine W_seq ?_
          refine W_region ?_
          refine WL_step rfl rfl (Exec.assign (v := Value.bool (false)) rfl rfl ?_)
          refine WL_nil (at_normal ?_)
          refine W_ret (ib_ret (at_ret (at_ret (ib_ret (at_ret (at_ret ?_))))))
          have e29545 := Option.some.inj hm29473
          subst c29469
          have hq29546 := hr29461 _ (hres29474 (by intro _ h; cases h))
          have e29547 := Option.some.inj hq29546
          subst r
          refine ⟨_, ret1 rfl, ?_⟩
          have hS29548 := (hS29529).f1
          have hS29549 := (hS29548).f1
          exact ⟨s29477, l29478, hS29549, rfl⟩
        · refine W_cond_f rfl hc29544 ?_
          replace hc29544 := not_true hc29544
          refine W_skip (ib_normal (at_normal ?_))
          refine W_region ?_
          refine WL_step rfl rfl (Exec.add rfl x29483 rfl ?_)
          refine WL_step rfl rfl (Exec.move (v := Value.int .i64 (IntKind.i64.wrap ((i29334 : Int) + 1))) rfl rfl ?_)
          refine WL_nil (at_normal ?_)
          have e29550 := Option.some.inj hm29473
          subst c29469
          have hS29551 := (hS29529).f1
          have hS29552 := (hS29551).f1
          refine ⟨_, rfl, ?_⟩; exact ⟨s29477, l29478, hS29552, p29480, p29481, p29482, (Eq.trans rfl (wrap_up hi29476 (hS).arr_le))⟩
      · intro t29553 f29554 w29555 hI29556 hres29557
        obtain ⟨s29558, l29559, hS29560, p29561, p29562, p29563, x29564⟩ := hI29556
        refine W_seq ?_
        refine W_region ?_
        refine WL_step rfl rfl (Exec.lss rfl x29564 p29563 ?_)
        refine WL_nil (at_normal ?_)
        refine W_seq ?_
        refine W_false (congrArg Value.bool (decide_eq_false (by omega))) ?_
        refine W_exit (at_exit (at_exit (ib_here (at_normal ?_))))
        have hS29565 := (hS29560).f1
        have hS29566 := (hS29565).f1
        refine ⟨_, .inl hres29557, ?_⟩; exact ⟨s29558, l29559, hS29566, p29561, p29562, p29563⟩
    · rintro f29567 w29568 ⟨t29569, hc29570, hM29571⟩
      have hm := hc29570.elim (hn29462 _) (hb29463 _)
      clear hc29570
      obtain ⟨s29572, l29573, hS29574, p29575, p29576, p29577⟩ := hM29571
      refine (at_normal ?_)
      refine W_seq ?_
      refine W_region ?_
      refine WL_step rfl rfl (Exec.assign (v := Value.bool (true)) rfl rfl ?_)
      refine WL_nil (at_normal ?_)
      refine W_ret ?_
      have e29579 := Option.some.inj hm
      subst r
      refine ⟨_, ret1 rfl, ?_⟩
      have hS29580 := (hS29574).f1
      have hS29581 := (hS29580).f1
      exact ⟨s29572, l29573, hS29581, rfl⟩

theorem N16 : (Tryd.f16.name == "runtime.NumGoroutine") = false := by kernel_rfl

theorem ref45_Bisimulation_sim {w0 w : World} {s : PHeap} {H : List Res} {x23755 : System} {v23756 : Value} {v23758 : Value} {v23760 : Value} {r : (List Int)} (hm : ref45_Bisimulation_p x23755 = some r) (hS : St w0 s (H) w) (a23757 : SliceRep (encInt .i64) s v23756 x23755.Costs) (a23759 : SliceRep encEdge s v23758 x23755.Edges) (a23761 : SliceRep encBool s v23760 x23755.Goals) :
    Calls Tryd.prog 16 #[Value.agg #[Value.int .i64 (x23755.States), Value.int .i64 (x23755.Init), v23756, v23758, v23760]] w fun e w' => ∃ v, e = .returned v ∧ ((fun (y37982 : (List Int)) => ∃ (s37984 : PHeap) (v37983 : Value), PHeap.le s s37984 ∧ St w0 s37984 (Res.arr (encInt .i64) 3 v37983 y37982 :: H) w' ∧ v = v37983) r) := by
  unfold ref45_Bisimulation_p at hm
  refine calls_of_W Tryd.func16 rfl rfl ?_
  refine W_seq ?_
  refine W_region ?_
  refine WL_step rfl rfl (Exec.box (cs := [Value.int .i64 (x23755.States), Value.int .i64 (x23755.Init), v23756, v23758, v23760]) hS rfl rfl rfl ?_)
  intro b37988 w37989 hS37990
  refine WL_step rfl rfl (Exec.assign (v := Value.slice none 0 0) rfl rfl ?_)
  refine WL_nil (at_normal ?_)
  refine W_seq ?_
  refine W_region ?_
  refine WL_step rfl rfl (Exec.field F26_0 rfl rfl rfl ?_)
  refine WL_step rfl rfl (Exec.load_box (hS37990) A3 rfl rfl rfl ?_)
  obtain ⟨l37996, q37997, hm⟩ := bind_some hm
  refine WL_step rfl rfl (Exec.make (E := (encInt .i64)) hS37990 S22 Z3 rfl rfl rfl rfl q37997 ?_)
  intro v37998 w37999 hS38000
  refine WL_step rfl rfl (Exec.assign (v := v37998) rfl rfl ?_)
  refine WL_nil (at_normal ?_)
  obtain ⟨c46350, hB46351, hr46352, hn46353, hb46354⟩ := ctl_some hm
  refine W_mid (M := fun f' w' => ∃ s', (c46350 = .next s' ∨ c46350 = .brk s') ∧ (fun (class46348 : (List Int)) => ∃ (s46356 : PHeap) (v46349 : Value), PHeap.le s s46356 ∧ St w0 s46356 (Res.box b37988 26 [Value.int .i64 (x23755.States), Value.int .i64 (x23755.Init), v23756, v23758, v23760] :: Res.arr (encInt .i64) 3 v46349 class46348 :: H) w' ∧ f' 1 = Value.pointer (some ⟨b37988, 0, none⟩) ∧ f' 3 = v46349) s') ?_ ?_
  · refine W_block (W_while (fun s' f' w' => (fun (class40782 : (List Int)) => ∃ (s46355 : PHeap) (v40783 : Value), PHeap.le s s46355 ∧ St w0 s46355 (Res.box b37988 26 [Value.int .i64 (x23755.States), Value.int .i64 (x23755.Init), v23756, v23758, v23760] :: Res.arr (encInt .i64) 3 v40783 class40782 :: H) w' ∧ f' 1 = Value.pointer (some ⟨b37988, 0, none⟩) ∧ f' 3 = v40783) s') hB46351 ?_ ?_)
    · have hS46357 := (hS38000).f1
      exact ⟨s, v37998, (PHeap.le_refl _), hS46357, rfl, rfl⟩
    · intro class40782 c46359 f46360 w46361 hI46362 hm46363 hres46364
      obtain ⟨s46365, v40783, l46366, hS46367, p46368, p46369⟩ := hI46362
      refine W_block ?_
      refine W_seq ?_
      refine W_region ?_
      refine WL_step rfl rfl (Exec.field F26_0 rfl p46368 rfl ?_)
      refine WL_step rfl rfl (Exec.load_box (hS46367) A3 rfl rfl rfl ?_)
      obtain ⟨l46375, q46376, hm46363⟩ := bind_some hm46363
      refine WL_step rfl rfl (Exec.make (E := (encInt .i64)) hS46367 S22 Z3 rfl rfl rfl rfl q46376 ?_)
      intro v46377 w46378 hS46379
      refine WL_step rfl rfl (Exec.assign (v := v46377) rfl rfl ?_)
      refine WL_nil (at_normal ?_)
      refine W_seq ?_
      refine W_region ?_
      refine WL_step rfl rfl (Exec.assign (v := Value.int .i64 (0)) rfl rfl ?_)
      refine WL_nil (at_normal ?_)
      refine W_seq ?_
      refine W_seq ?_
      refine W_region ?_
      refine WL_step rfl rfl (Exec.move (v := v46377) rfl rfl ?_)
      refine WL_step rfl rfl (Exec.len_arr (hS46379) S22 rfl rfl ?_)
      refine WL_step rfl rfl (Exec.move (v := Value.int .i64 (0)) rfl rfl ?_)
      refine WL_nil (at_normal ?_)
      obtain ⟨t48191, hB48192, hm46363⟩ := bind_some hm46363
      refine W_block (W_forS (fun k' s' f' w' => (un2 fun (k47284 : Int) (l47285 : (List Int)) => ∃ (s48193 : PHeap) , PHeap.le s46365 s48193 ∧ St w0 s48193 (Res.box b37988 26 [Value.int .i64 (x23755.States), Value.int .i64 (x23755.Init), v23756, v23758, v23760] :: Res.arr (encInt .i64) 3 v40783 class40782 :: Res.arr (encInt .i64) 3 v46377 l47285 :: H) w' ∧ f' 1 = Value.pointer (some ⟨b37988, 0, none⟩) ∧ f' 3 = v40783 ∧ f' 4 = v46377 ∧ f' 5 = Value.int .i64 (k47284) ∧ f' 15 = Value.int .i64 ((l46375.length : Int)) ∧ f' 16 = Value.int .i64 (k' : Int)) s') hB48192 ?_ ?_ ?_)
      · have hS48194 := (hS46379).f2
        have hS48195 := (hS48194).f2
        exact ⟨s46365, (PHeap.le_refl _), hS48195, p46368, p46369, rfl, rfl, rfl, rfl⟩
      · intro i46380 t48203 s48197 f48198 w48199 hi48200 hI48201 hm48202
        obtain ⟨k47284, l47285⟩ := t48203
        replace hm48202 := un2_eq hm48202
        obtain ⟨s48204, l48205, hS48206, p48207, p48208, p48209, p48210, p48211, x48212⟩ := hI48201
        refine W_seq ?_
        refine W_region ?_
        refine WL_step rfl rfl (Exec.lss rfl x48212 p48211 ?_)
        refine WL_nil (at_normal ?_)
        refine W_seq ?_
        refine W_true (congrArg Value.bool (decide_eq_true (by omega))) ?_
        refine W_skip (at_normal ?_)
        refine W_seq ?_
        refine W_block ?_
        refine W_seq ?_
        refine W_region ?_
        refine WL_step rfl rfl (Exec.move (v := Value.int .i64 ((i46380 : Int))) rfl x48212 ?_)
        refine WL_step rfl rfl (Exec.assign (v := Value.int .i64 ((i46380 : Int))) rfl rfl ?_)
        refine WL_nil (at_normal ?_)
        refine W_seq ?_
        refine W_region ?_
        refine WL_step rfl rfl (Exec.move (v := v46377) rfl p48209 ?_)
        refine WL_step rfl rfl (Exec.move (v := Value.int .i64 ((i46380 : Int))) rfl rfl ?_)
        obtain ⟨x48223, q48224, hm48202⟩ := bind_some hm48202
        obtain ⟨g48225, c48226, e48227⟩ := ((hS48206).f2).arr_at q48224
        refine WL_step rfl rfl (Exec.index_slice S22 rfl e48227 rfl (idx_some q48224).1 (idx_some q48224).2.1 ?_)
        obtain ⟨l48228, q48229, hm48202⟩ := bind_some hm48202
        have hS48230 := (hS48206).f2
        refine WL_step rfl rfl (Exec.store_arr hS48230 e48227 A3 rfl rfl rfl rfl (encInt_val.2 rfl) q48229 ?_)
        intro w48231 hS48232
        refine WL_nil (at_normal ?_)
        refine W_seq ?_
        refine W_seq ?_
        refine W_region ?_
        refine WL_step rfl rfl (Exec.move (v := Value.int .i64 ((i46380 : Int))) rfl rfl ?_)
        refine WL_step rfl rfl (Exec.move (v := Value.int .i64 (0)) rfl rfl ?_)
        refine WL_nil (at_normal ?_)
        obtain ⟨u48233, q48234, hm48202⟩ := bind_some hm48202
        obtain ⟨l48491, hB48748, hm48202⟩ := bind_some hm48202
        refine W_block (W_forS (fun k' s' f' w' => (fun (l48491 : (List Int)) => ∃ (s48749 : PHeap) , PHeap.le s48204 s48749 ∧ St w0 s48749 (Res.box b37988 26 [Value.int .i64 (x23755.States), Value.int .i64 (x23755.Init), v23756, v23758, v23760] :: Res.arr (encInt .i64) 3 v40783 class40782 :: Res.arr (encInt .i64) 3 v46377 l48491 :: H) w' ∧ f' 1 = Value.pointer (some ⟨b37988, 0, none⟩) ∧ f' 3 = v40783 ∧ f' 4 = v46377 ∧ f' 5 = Value.int .i64 (k47284) ∧ f' 6 = Value.int .i64 ((i46380 : Int)) ∧ f' 15 = Value.int .i64 ((l46375.length : Int)) ∧ f' 16 = Value.int .i64 ((i46380 : Int)) ∧ f' 22 = Value.int .i64 ((i46380 : Int)) ∧ f' 23 = Value.int .i64 (k' : Int)) s') hB48748 ?_ ?_ ?_)
        · have hS48750 := (hS48232).f2
          have hS48751 := (hS48750).f2
          exact ⟨s48204, (PHeap.le_refl _), hS48751, p48207, p48208, p48209, p48210, rfl, p48211, x48212, rfl, rfl⟩
        · intro i48235 l48491 s48753 f48754 w48755 hi48756 hI48757 hm48758
          obtain ⟨s48759, l48760, hS48761, p48762, p48763, p48764, p48765, p48766, p48767, p48768, p48769, x48770⟩ := hI48757
          refine W_seq ?_
          refine W_region ?_
          refine WL_step rfl rfl (Exec.lss rfl x48770 p48769 ?_)
          refine WL_nil (at_normal ?_)
          refine W_seq ?_
          refine W_true (congrArg Value.bool (decide_eq_true (by omega))) ?_
          refine W_skip (at_normal ?_)
          refine W_seq ?_
          refine W_block ?_
          refine W_seq ?_
          refine W_region ?_
          refine WL_step rfl rfl (Exec.move (v := Value.int .i64 ((i48235 : Int))) rfl x48770 ?_)
          refine WL_step rfl rfl (Exec.assign (v := Value.int .i64 ((i48235 : Int))) rfl rfl ?_)
          refine WL_nil (at_normal ?_)
          refine W_seq ?_
          obtain ⟨z48835, ht48836, hm48758⟩ := bind_some hm48758
          refine W_mid (M := fun f' w' => (fun (z48835 : Bool) => ∃ (s48837 : PHeap) , PHeap.le s48759 s48837 ∧ St w0 s48837 (Res.box b37988 26 [Value.int .i64 (x23755.States), Value.int .i64 (x23755.Init), v23756, v23758, v23760] :: Res.arr (encInt .i64) 3 v40783 class40782 :: Res.arr (encInt .i64) 3 v46377 l48491 :: H) w' ∧ f' 1 = Value.pointer (some ⟨b37988, 0, none⟩) ∧ f' 3 = v40783 ∧ f' 4 = v46377 ∧ f' 5 = Value.int .i64 (k47284) ∧ f' 6 = Value.int .i64 ((i46380 : Int)) ∧ f' 7 = Value.int .i64 ((i48235 : Int)) ∧ f' 15 = Value.int .i64 ((l46375.length : Int)) ∧ f' 16 = Value.int .i64 ((i46380 : Int)) ∧ f' 22 = Value.int .i64 ((i46380 : Int)) ∧ f' 23 = Value.int .i64 ((i48235 : Int)) ∧ f' 48 = Value.bool (z48835)) z48835) ?_ ?_
          · refine W_dl (n0 := 23) (.q 0 (.q 1 (.q 2 (.q 3 (.q 4 (.q 5 (.q 6 (.q 7 (.q 8 (.q 9 (.q 10 (.q 11 (.q 12 (.q 13 (.q 14 (.q 15 (.q 16 (.q 17 (.q 18 (.q 19 (.q 20 (.e 21 [] (.q 22 .done))))))))))))))))))))))) hmix (by kernel_rfl) (by kernel_rfl) ?_
            have hS48870 := hS48761.drew
            refine DL_q rfl rfl (Exec.move (v := v46377) rfl p48764 ⟨rfl, ?_⟩)
            refine DL_q rfl rfl (Exec.move (v := Value.int .i64 ((i46380 : Int))) rfl p48766 ⟨rfl, ?_⟩)
            obtain ⟨x48871, q48872, ht48836⟩ := bind_some ht48836
            obtain ⟨g48873, c48874, e48875⟩ := ((hS48870).f2).arr_at q48872
            refine DL_q rfl rfl (Exec.index_slice S22 rfl e48875 rfl (idx_some q48872).1 (idx_some q48872).2.1 ⟨rfl, ?_⟩)
            refine DL_q rfl rfl (Exec.load_arr (F := (encInt .i64)) ((hS48870).f2) e48875 A3 rfl rfl rfl q48872 (Sub.refl _) ?_)
            intro v48876 q48877
            obtain rfl := encInt_val.1 q48877
            refine ⟨rfl, ?_⟩
            refine DL_q rfl rfl (Exec.lss rfl rfl rfl ⟨rfl, ?_⟩)
            refine DL_q rfl rfl (Exec.move (v := Value.bool (decide (x48871 < 0))) rfl rfl ⟨rfl, ?_⟩)
            rcases ite_some ht48836 with ⟨hc48878, ht48836⟩ | ⟨hc48878, ht48836⟩
            · refine DL_qg rfl rfl (yield_of rfl (congrArg Value.bool hc48878)) (Exec.move (v := v40783) rfl p48763 ⟨rfl, ?_⟩)
              refine DL_qg rfl rfl (yield_of rfl (congrArg Value.bool hc48878)) (Exec.move (v := Value.int .i64 ((i46380 : Int))) rfl p48766 ⟨rfl, ?_⟩)
              obtain ⟨x48879, q48880, ht48836⟩ := bind_some ht48836
              obtain ⟨g48881, c48882, e48883⟩ := ((hS48870).f1).arr_at q48880
              refine DL_qg rfl rfl (yield_of rfl (congrArg Value.bool hc48878)) (Exec.index_slice S22 rfl e48883 rfl (idx_some q48880).1 (idx_some q48880).2.1 ⟨rfl, ?_⟩)
              refine DL_qg rfl rfl (yield_of rfl (congrArg Value.bool hc48878)) (Exec.load_arr (F := (encInt .i64)) ((hS48870).f1) e48883 A3 rfl rfl rfl q48880 (Sub.refl _) ?_)
              intro v48884 q48885
              obtain rfl := encInt_val.1 q48885
              refine ⟨rfl, ?_⟩
              refine DL_qg rfl rfl (yield_of rfl (congrArg Value.bool hc48878)) (Exec.move (v := v40783) rfl p48763 ⟨rfl, ?_⟩)
              refine DL_qg rfl rfl (yield_of rfl (congrArg Value.bool hc48878)) (Exec.move (v := Value.int .i64 ((i48235 : Int))) rfl rfl ⟨rfl, ?_⟩)
              obtain ⟨x48886, q48887, ht48836⟩ := bind_some ht48836
              obtain ⟨g48888, c48889, e48890⟩ := ((hS48870).f1).arr_at q48887
              refine DL_qg rfl rfl (yield_of rfl (congrArg Value.bool hc48878)) (Exec.index_slice S22 rfl e48890 rfl (idx_some q48887).1 (idx_some q48887).2.1 ⟨rfl, ?_⟩)
              refine DL_qg rfl rfl (yield_of rfl (congrArg Value.bool hc48878)) (Exec.load_arr (F := (encInt .i64)) ((hS48870).f1) e48890 A3 rfl rfl rfl q48887 (Sub.refl _) ?_)
              intro v48891 q48892
              obtain rfl := encInt_val.1 q48892
              refine ⟨rfl, ?_⟩
              refine DL_qg rfl rfl (yield_of rfl (congrArg Value.bool hc48878)) (Exec.eql rfl rfl rfl ⟨rfl, ?_⟩)
              refine DL_q rfl rfl (Exec.pick_t (v := Value.bool (decide (x48879 = x48886))) rfl (congrArg Value.bool hc48878) rfl ⟨rfl, ?_⟩)
              refine DL_q rfl rfl (Exec.move (v := Value.bool (decide (x48879 = x48886))) rfl rfl ⟨rfl, ?_⟩)
              rcases ite_some ht48836 with ⟨hc48893, ht48836⟩ | ⟨hc48893, ht48836⟩
              · refine DL_qg rfl rfl (yield_of rfl (congrArg Value.bool hc48893)) (Exec.load_box_agg (ds := [Value.int .i64 (x23755.States), Value.int .i64 (x23755.Init), v23756, v23758, v23760]) (hS48870) A26 rfl p48762 rfl ⟨rfl, ?_⟩)
                refine DL_qg rfl rfl (yield_of rfl (congrArg Value.bool hc48893)) (Exec.move (v := v40783) rfl p48763 ⟨rfl, ?_⟩)
                refine DL_qg rfl rfl (yield_of rfl (congrArg Value.bool hc48893)) (Exec.move (v := Value.int .i64 ((i46380 : Int))) rfl p48766 ⟨rfl, ?_⟩)
                refine DL_qg rfl rfl (yield_of rfl (congrArg Value.bool hc48893)) (Exec.move (v := Value.int .i64 ((i48235 : Int))) rfl rfl ⟨rfl, ?_⟩)
                obtain ⟨y48896, q48895, ht48836⟩ := bind_some ht48836
                have hS48897 := (hS48870).f1
                refine DL_eg rfl rfl (yield_of rfl (congrArg Value.bool hc48893)) (Exec.call rfl rfl Tryd.func23 rfl N23 (args_cons rfl (args_cons rfl (args_cons rfl (args_cons rfl args_nil)))) ((ref45_Agree_o_sim q48895 hS48897 (a23757.mono (PHeap.le.trans (PHeap.le.trans l46366 l48205) l48760)) (a23759.mono (PHeap.le.trans (PHeap.le.trans l46366 l48205) l48760)) (a23761.mono (PHeap.le.trans (PHeap.le.trans l46366 l48205) l48760))).mono ?_))
                rintro _ w48898 ⟨_, rfl, ⟨s48899, l48900, hS48901, rfl⟩⟩
                refine ⟨_, rfl, ?_⟩
                refine ⟨ag_nil, ?_⟩
                refine DL_q rfl rfl (Exec.pick_t (v := Value.bool (y48896)) rfl (congrArg Value.bool hc48893) rfl ⟨rfl, ?_⟩)
                refine DL_done ?_
                refine WL_nil (at_normal ?_)
                have e48902 := Option.some.inj ht48836
                subst z48835
                have hS48903 := (hS48901).f2
                have hS48904 := (hS48903).f1
                have hS48905 := (hS48904).f2
                exact ⟨s48899, l48900, hS48905, p48762, p48763, p48764, p48765, p48766, rfl, p48767, p48768, p48769, x48770, rfl⟩
              · replace hc48893 := not_true hc48893
                refine DL_qp rfl rfl (yield_of rfl (congrArg Value.bool hc48893)) rfl ?_
                refine DL_qp rfl rfl (yield_of rfl (congrArg Value.bool hc48893)) rfl ?_
                refine DL_qp rfl rfl (yield_of rfl (congrArg Value.bool hc48893)) rfl ?_
                refine DL_qp rfl rfl (yield_of rfl (congrArg Value.bool hc48893)) rfl ?_
                refine DL_ep rfl rfl (yield_of rfl (congrArg Value.bool hc48893)) rfl ?_
                refine DL_q rfl rfl (Exec.pick_f (v := Value.bool (false)) rfl (congrArg Value.bool hc48893) rfl ⟨rfl, ?_⟩)
                refine DL_done ?_
                refine WL_nil (at_normal ?_)
                have e48906 := Option.some.inj ht48836
                subst z48835
                have hS48907 := (hS48870).f2
                have hS48908 := (hS48907).f2
                have hS48909 := (hS48908).f2
                exact ⟨s48759, (PHeap.le_refl _), hS48909, p48762, p48763, p48764, p48765, p48766, rfl, p48767, p48768, p48769, x48770, rfl⟩
            · replace hc48878 := not_true hc48878
              refine DL_qp rfl rfl (yield_of rfl (congrArg Value.bool hc48878)) rfl ?_
              refine DL_qp rfl rfl (yield_of rfl (congrArg Value.bool hc48878)) rfl ?_
              refine DL_qp rfl rfl (yield_of rfl (congrArg Value.bool hc48878)) rfl ?_
              refine DL_qp rfl rfl (yield_of rfl (congrArg Value.bool hc48878)) rfl ?_
              refine DL_qp rfl rfl (yield_of rfl (congrArg Value.bool hc48878)) rfl ?_
              refine DL_qp rfl rfl (yield_of rfl (congrArg Value.bool hc48878)) rfl ?_
              refine DL_qp rfl rfl (yield_of rfl (congrArg Value.bool hc48878)) rfl ?_
              refine DL_qp rfl rfl (yield_of rfl (congrArg Value.bool hc48878)) rfl ?_
              refine DL_qp rfl rfl (yield_of rfl (congrArg Value.bool hc48878)) rfl ?_
              refine DL_q rfl rfl (Exec.pick_f (v := Value.bool (false)) rfl (congrArg Value.bool hc48878) rfl ⟨rfl, ?_⟩)
              refine DL_q rfl rfl (Exec.move (v := Value.bool (false)) rfl rfl ⟨rfl, ?_⟩)
              refine DL_qp rfl rfl (yield_of rfl rfl) rfl ?_
              refine DL_qp rfl rfl (yield_of rfl rfl) rfl ?_
              refine DL_qp rfl rfl (yield_of rfl rfl) rfl ?_
              refine DL_qp rfl rfl (yield_of rfl rfl) rfl ?_
              refine DL_ep rfl rfl (yield_of rfl rfl) rfl ?_
              refine DL_q rfl rfl (Exec.pick_f (v := Value.bool (false)) rfl rfl rfl ⟨rfl, ?_⟩)
              refine DL_done ?_
              refine WL_nil (at_normal ?_)
              have e48910 := Option.some.inj ht48836
              subst z48835
              have hS48911 := (hS48870).f2
              have hS48912 := (hS48911).f2
              have hS48913 := (hS48912).f2
              exact ⟨s48759, (PHeap.le_refl _), hS48913, p48762, p48763, p48764, p48765, p48766, rfl, p48767, p48768, p48769, x48770, rfl⟩
          · intro f48914 w48915 hM48916
            obtain ⟨s48917, l48918, hS48919, p48920, p48921, p48922, p48923, p48924, p48925, p48926, p48927, p48928, p48929, p48930⟩ := hM48916
            refine (at_normal ?_)
            obtain ⟨l48965, ht48966, hm48758⟩ := bind_some hm48758
            refine W_mid (M := fun f' w' => (fun (l48965 : (List Int)) => ∃ (s48967 : PHeap) , PHeap.le s48917 s48967 ∧ St w0 s48967 (Res.box b37988 26 [Value.int .i64 (x23755.States), Value.int .i64 (x23755.Init), v23756, v23758, v23760] :: Res.arr (encInt .i64) 3 v40783 class40782 :: Res.arr (encInt .i64) 3 v46377 l48965 :: H) w' ∧ f' 1 = Value.pointer (some ⟨b37988, 0, none⟩) ∧ f' 3 = v40783 ∧ f' 4 = v46377 ∧ f' 5 = Value.int .i64 (k47284) ∧ f' 6 = Value.int .i64 ((i46380 : Int)) ∧ f' 15 = Value.int .i64 ((l46375.length : Int)) ∧ f' 16 = Value.int .i64 ((i46380 : Int)) ∧ f' 22 = Value.int .i64 ((i46380 : Int)) ∧ f' 23 = Value.int .i64 ((i48235 : Int))) l48965) ?_ ?_
            · rcases ite_some ht48966 with ⟨hc48968, ht48966⟩ | ⟨hc48968, ht48966⟩
              · refine W_cond_t p48930 hc48968 ?_
                refine W_region ?_
                refine WL_step rfl rfl (Exec.move (v := v46377) rfl p48922 ?_)
                refine WL_step rfl rfl (Exec.move (v := Value.int .i64 ((i46380 : Int))) rfl p48924 ?_)
                refine WL_step rfl rfl (Exec.move (v := v46377) rfl p48922 ?_)
                refine WL_step rfl rfl (Exec.move (v := Value.int .i64 ((i48235 : Int))) rfl p48925 ?_)
                obtain ⟨x48986, q48987, ht48966⟩ := bind_some ht48966
                obtain ⟨g48988, c48989, e48990⟩ := ((hS48919).f2).arr_at q48987
                refine WL_step rfl rfl (Exec.index_slice S22 rfl e48990 rfl (idx_some q48987).1 (idx_some q48987).2.1 ?_)
                refine WL_step rfl rfl (Exec.load_arr (F := (encInt .i64)) ((hS48919).f2) e48990 A3 rfl rfl rfl q48987 (Sub.refl _) ?_)
                intro v48991 q48992
                obtain rfl := encInt_val.1 q48992
                obtain ⟨x48993, q48994, ht48966⟩ := bind_some ht48966
                obtain ⟨g48995, c48996, e48997⟩ := ((hS48919).f2).arr_at q48994
                refine WL_step rfl rfl (Exec.index_slice S22 rfl e48997 rfl (idx_some q48994).1 (idx_some q48994).2.1 ?_)
                obtain ⟨l48998, q48999, ht48966⟩ := bind_some ht48966
                have hS49000 := (hS48919).f2
                refine WL_step rfl rfl (Exec.store_arr hS49000 e48997 A3 rfl rfl rfl rfl (encInt_val.2 rfl) q48999 ?_)
                intro w49001 hS49002
                refine WL_nil (at_normal ?_)
                have e49003 := Option.some.inj ht48966
                subst l48965
                have hS49004 := (hS49002).f2
                have hS49005 := (hS49004).f2
                exact ⟨s48917, (PHeap.le_refl _), hS49005, p48920, p48921, p48922, p48923, p48924, p48926, p48927, p48928, p48929⟩
              · refine W_cond_f p48930 hc48968 ?_
                replace hc48968 := not_true hc48968
                refine W_skip (at_normal ?_)
                have e49006 := Option.some.inj ht48966
                subst l48965
                have hS49007 := (hS48919).f2
                have hS49008 := (hS49007).f2
                have hS49009 := (hS49008).f2
                exact ⟨s48917, (PHeap.le_refl _), hS49009, p48920, p48921, p48922, p48923, p48924, p48926, p48927, p48928, p48929⟩
            · intro f49010 w49011 hM49012
              obtain ⟨s49013, l49014, hS49015, p49016, p49017, p49018, p49019, p49020, p49021, p49022, p49023, p49024⟩ := hM49012
              refine (ib_normal (at_normal ?_))
              refine W_region ?_
              refine WL_step rfl rfl (Exec.add rfl p49024 rfl ?_)
              refine WL_step rfl rfl (Exec.move (v := Value.int .i64 (IntKind.i64.wrap ((i48235 : Int) + 1))) rfl rfl ?_)
              refine WL_nil (at_normal ?_)
              have e49025 := Option.some.inj hm48758
              subst s48753
              have hS49026 := (hS49015).f2
              have hS49027 := (hS49026).f2
              have hS49028 := (hS49027).f2
              exact ⟨s49013, (PHeap.le.trans (PHeap.le.trans l48760 l48918) l49014), hS49028, p49016, p49017, p49018, p49019, p49020, p49021, p49022, p49023, (Eq.trans rfl (wrap_up hi48756 (by have h := must_some q48234; simp at h; simp only [maxLen]; omega)))⟩
        · intro f49029 w49030 hI49031
          obtain ⟨s49032, l49033, hS49034, p49035, p49036, p49037, p49038, p49039, p49040, p49041, p49042, x49043⟩ := hI49031
          refine W_seq ?_
          refine W_region ?_
          refine WL_step rfl rfl (Exec.lss rfl x49043 p49042 ?_)
          refine WL_nil (at_normal ?_)
          refine W_seq ?_
          refine W_false (congrArg Value.bool (decide_eq_false (by omega))) ?_
          refine W_exit (at_exit (at_exit (ib_here (at_normal ?_))))
          refine W_seq ?_
          refine W_region ?_
          refine WL_step rfl rfl (Exec.move (v := v46377) rfl p49037 ?_)
          refine WL_step rfl rfl (Exec.move (v := Value.int .i64 ((i46380 : Int))) rfl p49039 ?_)
          obtain ⟨x49051, q49052, hm48202⟩ := bind_some hm48202
          obtain ⟨g49053, c49054, e49055⟩ := ((hS49034).f2).arr_at q49052
          refine WL_step rfl rfl (Exec.index_slice S22 rfl e49055 rfl (idx_some q49052).1 (idx_some q49052).2.1 ?_)
          refine WL_step rfl rfl (Exec.load_arr (F := (encInt .i64)) ((hS49034).f2) e49055 A3 rfl rfl rfl q49052 (Sub.refl _) ?_)
          intro v49056 q49057
          obtain rfl := encInt_val.1 q49057
          refine WL_step rfl rfl (Exec.lss rfl rfl rfl ?_)
          refine WL_nil (at_normal ?_)
          obtain ⟨t49076, ht49077, hm48202⟩ := bind_some hm48202
          refine W_mid (M := fun f' w' => (un2 fun (k49074 : Int) (l49075 : (List Int)) => ∃ (s49078 : PHeap) , PHeap.le s49032 s49078 ∧ St w0 s49078 (Res.box b37988 26 [Value.int .i64 (x23755.States), Value.int .i64 (x23755.Init), v23756, v23758, v23760] :: Res.arr (encInt .i64) 3 v40783 class40782 :: Res.arr (encInt .i64) 3 v46377 l49075 :: H) w' ∧ f' 1 = Value.pointer (some ⟨b37988, 0, none⟩) ∧ f' 3 = v40783 ∧ f' 4 = v46377 ∧ f' 5 = Value.int .i64 (k49074) ∧ f' 15 = Value.int .i64 ((l46375.length : Int)) ∧ f' 16 = Value.int .i64 ((i46380 : Int))) t49076) ?_ ?_
          · rcases ite_some ht49077 with ⟨hc49079, ht49077⟩ | ⟨hc49079, ht49077⟩
            · refine W_cond_t rfl hc49079 ?_
              refine W_seq ?_
              refine W_region ?_
              refine WL_step rfl rfl (Exec.move (v := v46377) rfl p49037 ?_)
              refine WL_step rfl rfl (Exec.move (v := Value.int .i64 ((i46380 : Int))) rfl p49039 ?_)
              refine WL_step rfl rfl (Exec.move (v := Value.int .i64 (k47284)) rfl p49038 ?_)
              obtain ⟨g49088, c49089, e49090⟩ := ((hS49034).f2).arr_at q49052
              refine WL_step rfl rfl (Exec.index_slice S22 rfl e49090 rfl (idx_some q49052).1 (idx_some q49052).2.1 ?_)
              obtain ⟨l49091, q49092, ht49077⟩ := bind_some ht49077
              have hS49093 := (hS49034).f2
              refine WL_step rfl rfl (Exec.store_arr hS49093 e49090 A3 rfl rfl rfl rfl (encInt_val.2 rfl) q49092 ?_)
              intro w49094 hS49095
              refine WL_nil (at_normal ?_)
              refine W_region ?_
              refine WL_step rfl rfl (Exec.move (v := Value.int .i64 (k47284)) rfl p49038 ?_)
              refine WL_step rfl rfl (Exec.add rfl rfl rfl ?_)
              refine WL_step rfl rfl (Exec.assign (v := Value.int .i64 (IntKind.i64.wrap (k47284 + 1))) rfl rfl ?_)
              refine WL_nil (at_normal ?_)
              have e49096 := Option.some.inj ht49077
              subst t49076
              have hS49097 := (hS49095).f2
              have hS49098 := (hS49097).f2
              exact ⟨s49032, (PHeap.le_refl _), hS49098, p49035, p49036, p49037, rfl, p49040, p49041⟩
            · refine W_cond_f rfl hc49079 ?_
              replace hc49079 := not_true hc49079
              refine W_skip (at_normal ?_)
              have e49099 := Option.some.inj ht49077
              subst t49076
              have hS49100 := (hS49034).f2
              have hS49101 := (hS49100).f2
              have hS49102 := (hS49101).f2
              exact ⟨s49032, (PHeap.le_refl _), hS49102, p49035, p49036, p49037, p49038, p49040, p49041⟩
          · intro f49103 w49104 hM49105
            obtain ⟨k49074, l49075⟩ := t49076
            replace hm48202 := un2_eq hm48202
            obtain ⟨s49106, l49107, hS49108, p49109, p49110, p49111, p49112, p49113, p49114⟩ := hM49105
            refine (ib_normal (at_normal ?_))
            refine W_region ?_
            refine WL_step rfl rfl (Exec.add rfl p49114 rfl ?_)
            refine WL_step rfl rfl (Exec.move (v := Value.int .i64 (IntKind.i64.wrap ((i46380 : Int) + 1))) rfl rfl ?_)
            refine WL_nil (at_normal ?_)
            have e49115 := Option.some.inj hm48202
            subst s48197
            have hS49116 := (hS49108).f2
            have hS49117 := (hS49116).f2
            have hS49118 := (hS49117).f2
            exact ⟨s49106, (PHeap.le.trans (PHeap.le.trans l48205 l49033) l49107), hS49118, p49109, p49110, p49111, p49112, p49113, (Eq.trans rfl (wrap_up hi48200 (hS46379).arr_le))⟩
      · intro f49119 w49120 hI49121
        obtain ⟨k47284, l47285⟩ := t48191
        replace hm46363 := un2_eq hm46363
        obtain ⟨s49122, l49123, hS49124, p49125, p49126, p49127, p49128, p49129, x49130⟩ := hI49121
        refine W_seq ?_
        refine W_region ?_
        refine WL_step rfl rfl (Exec.lss rfl x49130 p49129 ?_)
        refine WL_nil (at_normal ?_)
        refine W_seq ?_
        refine W_false (congrArg Value.bool (decide_eq_false (by omega))) ?_
        refine W_exit (at_exit (at_exit (ib_here (at_normal ?_))))
        refine W_seq ?_
        refine W_seq ?_
        refine W_region ?_
        refine WL_step rfl rfl (Exec.move (v := v46377) rfl p49127 ?_)
        refine WL_step rfl rfl (Exec.move (v := v40783) rfl p49126 ?_)
        obtain ⟨y49142, q49141, hm46363⟩ := bind_some hm46363
        have hS49143 := (hS49124).f1
        have hS49144 := (hS49143).f2
        refine WL_step rfl rfl (Exec.call rfl rfl Tryd.func15 rfl N15 (args_cons rfl (args_cons rfl args_nil)) ((base_Ints_o_o_sim q49141 hS49144 ).mono ?_))
        rintro _ w49145 ⟨_, rfl, ⟨s49146, l49147, hS49148, rfl⟩⟩
        refine ⟨_, rfl, ?_⟩
        refine WL_nil (at_normal ?_)
        rcases ite_some hm46363 with ⟨hc49149, hm46363⟩ | ⟨hc49149, hm46363⟩
        · refine W_cond_t rfl hc49149 ?_
          refine W_seq ?_
          refine W_region ?_
          refine WL_step rfl rfl (Exec.move (v := v40783) rfl p49126 ?_)
          refine WL_step rfl rfl (Exec.assign (v := v40783) rfl rfl ?_)
          refine WL_nil (at_normal ?_)
          refine W_ret (at_ret (ib_ret (at_ret (ib_ret (at_ret ?_)))))
          have e49150 := Option.some.inj hm46363
          subst c46359
          have hq49151 := hr46352 _ (hres46364 (by intro _ h; cases h))
          have e49152 := Option.some.inj hq49151
          subst r
          refine ⟨_, ret1 rfl, ?_⟩
          have hS49153 := (hS49148).drop
          have hS49154 := ((hS49153).f1).drop
          exact ⟨s49146, v40783, (PHeap.le.trans (PHeap.le.trans l46366 l49123) l49147), hS49154, rfl⟩
        · refine W_cond_f rfl hc49149 ?_
          replace hc49149 := not_true hc49149
          refine W_skip (at_normal ?_)
          refine W_region ?_
          refine WL_step rfl rfl (Exec.move (v := v46377) rfl p49127 ?_)
          refine WL_step rfl rfl (Exec.assign (v := v46377) rfl rfl ?_)
          refine WL_nil (ib_normal (at_normal ?_))
          have e49155 := Option.some.inj hm46363
          subst c46359
          have hS49156 := ((hS49148).f1).drop
          have hS49157 := (hS49156).f1
          refine ⟨_, rfl, ?_⟩; exact ⟨s49146, v46377, (PHeap.le.trans (PHeap.le.trans l46366 l49123) l49147), hS49157, p49125, rfl⟩
  · rintro f49158 w49159 ⟨class46348, hc49160, hM49161⟩
    have hm := hc49160.elim (hn46353 _) (hb46354 _)
    clear hc49160
    obtain ⟨s49162, v46349, l49163, hS49164, p49165, p49166⟩ := hM49161
    refine ?_
    cases hm

theorem N36 : (Tryd.f36.name == "runtime.NumGoroutine") = false := by kernel_rfl

end Go.Pw
